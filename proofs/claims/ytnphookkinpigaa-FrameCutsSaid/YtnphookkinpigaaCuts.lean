/- FrameCuts: for every slice of texts and every slice of bytes the call returns true, and nothing that existed has changed; conditions: the slices' lengths are within the reach. -/
import Derived.Test.YtnphookkinpigaaCutsPure
import Derived.Deep.RegionHeld3
import Derived.Laws.AppendOwn
namespace Go.Proofs.Ytnphookkinpigaa.Cuts
open Go.RowKit Go.Proofs.YtnphookkinpigaaW.PrintWords Go.Proofs.YtnphookkinpigaaW.PrintLast Go.Proofs.YtnphookkinpigaaW.PrintMore Go.Proofs.Ytnphookkinpigaa.Math Go.Proofs.Ytnphookkinpigaa.Frame Go.Proofs.Ytnphookkinpigaa.CutsPure
attribute [local go_sem] min2_int min_two

theorem info9 : (Try.prog.info? 9).map (fun i => (i.zero, i.size, i.bytes)) = some (some (.string ⟨#[]⟩), 1, 16) := by kernel_rfl

def at' (ss : List ByteArray) (k : Nat) : ByteArray := ss.getD k ByteArray.empty
def cutL (ss : List ByteArray) (k : Nat) : List ByteArray := (ss.take k).map cut
def vals (L : List ByteArray) : List Value := L.map fun c => .string c

theorem cutL_succ (ss : List ByteArray) (k : Nat) (h : k < ss.length) : cutL ss (k + 1) = cutL ss k ++ [cut (at' ss k)] := by
  rw [cutL, List.take_succ_eq_append_getElem h, List.map_append, at', List.getD_eq_getElem?_getD, List.getElem?_eq_getElem h]
  rfl

theorem cutL_small (ss : List ByteArray) (k : Nat) : ∀ c ∈ cutL ss k, c.size ≤ 200 := by
  intro c hc
  rw [cutL, List.mem_map] at hc
  obtain ⟨s, _, rfl⟩ := hc
  exact cut_size s

theorem cutL_len (ss : List ByteArray) (k : Nat) (h : k ≤ ss.length) : (cutL ss k).length = k := by
  rw [cutL, List.length_map, List.length_take]
  omega

theorem flat_bound (ss : List ByteArray) (k : Nat) (h : k ≤ 20) : (flat (cutL ss k)).size ≤ 4040 := by
  have h1 := flat_size _ (cutL_small ss k)
  have h2 : (cutL ss k).length ≤ k := by rw [cutL, List.length_map]; exact List.length_take_le _ _
  omega

/-- At a round's head of the first loop. -/
def RA (w : World) (g B : Nat) (ss : List ByteArray) (i : Nat) (v : Value) (W : World) : Prop :=
  Rdr w W g ⟨#[]⟩ false ∧ Below w.heap.size w W ∧ B ≤ W.heap.size ∧ g < B ∧ W.ownsRow B 9 1 v i (vals (cutL ss i))

theorem RA.below {w W W1 : World} {g B : Nat} {ss : List ByteArray} {i : Nat} {v : Value} (h : RA w g B ss i v W) (hb : Below W.heap.size W W1) : RA w g B ss i v W1 :=
  ⟨h.1.below hb, below_step h.2.1 hb, Nat.le_trans h.2.2.1 hb.size, h.2.2.2.1, pw_own_below h.2.2.2.2 hb⟩
theorem RA.drewN {w W : World} {g B : Nat} {ss : List ByteArray} {i : Nat} {v : Value} (h : RA w g B ss i v W) (n : Nat) : RA w g B ss i v (W.drewN n) :=
  ⟨h.1.drewN n, pw_below_drewN h.2.1 n, h.2.2.1, h.2.2.2.1, pw_own_drewN h.2.2.2.2 n⟩
theorem RA.push {w W W1 : World} {g B : Nat} {ss : List ByteArray} {i : Nat} {v v' : Value} (h : RA w g B ss i v W) (o : Obj) (hg : (W.alloc o).grownBy W1 v.ownBlock)
    (hown : W1.ownsRow B 9 1 v' (i + 1) (vals (cutL ss i) ++ [.string (cut (at' ss i))])) (hs : cutL ss (i + 1) = cutL ss i ++ [cut (at' ss i)]) : RA w g B ss (i + 1) v' W1 := by
  obtain ⟨h1, h2, h3, h4, h5⟩ := h
  have hb : ∀ k, v.ownBlock = some k → B ≤ k := fun k hk => own_base h5 k hk
  have hne : some g ≠ v.ownBlock := fun e => by
    have := hb g e.symm
    omega
  have ha := h1.below (below_alloc (Below.refl _ _) o)
  have hz := (below_alloc (Below.refl W.heap.size W) o).size
  refine ⟨⟨blk_grown ha.1 hg hne, ha.2⟩, pw_below_grown (below_alloc h2 o) v.ownBlock (Nat.le_trans h2.size hz) hg (fun k hk => ?_), Nat.le_trans h3 (Nat.le_trans hz hg.size), h4, ?_⟩
  · have q1 := hb k hk
    have q2 := h1.2
    omega
  · have e : vals (cutL ss (i + 1)) = vals (cutL ss i) ++ [.string (cut (at' ss i))] := by rw [hs, vals, List.map_append]; rfl
    rw [e]
    exact hown

/-- In the second loop: what lies in memory, and how far the stream has been read. -/
def RB (w : World) (g B2 : Nat) (cur : Array Value) (L : List ByteArray) (k : Nat) (p a : ByteArray) (W : World) : Prop :=
  Rdr w W g p false ∧ Below w.heap.size w W ∧ W.heap[B2]? = some (.cells cur 9 (0, 0)) ∧ g ≠ B2 ∧ Inv L k p a

theorem RB.size {w W : World} {g B2 k : Nat} {cur : Array Value} {L : List ByteArray} {p a : ByteArray} (h : RB w g B2 cur L k p a W) (hL : ∀ c ∈ L, c.size ≤ 200) (hl : L.length ≤ 20) : p.size + a.size ≤ 4040 := by
  have h1 := congrArg ByteArray.size h.2.2.2.2.2
  rw [ByteArray.size_append] at h1
  have h2 := flat_size (L.drop k) fun c hc => hL c (List.mem_of_mem_drop hc)
  rw [List.length_drop] at h2
  omega

theorem RB.cell {w W : World} {g B2 k : Nat} {cur : Array Value} {L : List ByteArray} {p a c : ByteArray} (h : RB w g B2 cur L k p a W) (hcur : cur.toList.take L.length = vals L) (hc : L[k]? = some c) : W.cell? ⟨B2, k, none⟩ = some (.string c) := by
  have hk : k < L.length := (List.getElem?_eq_some_iff.1 hc).1
  refine (blk_cell h.2.2.1 k).trans ?_
  have e : (vals L)[k]? = some (.string c) := by rw [vals, List.getElem?_map, hc]; rfl
  rw [← hcur, List.getElem?_take, if_pos hk] at e
  simpa using e

theorem min_of (x : Nat) (y : Int) (hx : 0 < x) (hy : 1 ≤ y) : ∃ n : Nat, Aside0 (1 ≤ n ∧ n ≤ x) ∧ (if (x : Int) < y then (x : Int) else y) = (n : Int) := by
  by_cases h : (x : Int) < y
  · exact ⟨x, ⟨by omega, Nat.le_refl _⟩, by rw [if_pos h]⟩
  · obtain ⟨n, rfl⟩ := Int.eq_ofNat_of_zero_le (show 0 ≤ y by omega)
    exact ⟨n, ⟨by omega, by omega⟩, by rw [if_neg h]⟩

def lenOf (v : Value) : Nat := match v with | .string s => s.size | _ => 0

theorem not_empty' {a : ByteArray} (h : 0 < a.size) : a.toList.isEmpty = false := by
  rw [ByteArray.toList_eq]
  have := data_length a
  cases e : a.data.toList with
  | nil => rw [e] at this; simp at this; omega
  | cons _ _ => rfl

set_option maxHeartbeats 4000000 in
set_option maxRecDepth 100000 in
theorem walk (b off len cap b2 off2 clen ccap : Nat) (A2 : Option Addr) (hA2 : 0 < clen → A2 = some ⟨b2, off2, none⟩) (ss : List ByteArray) (cs : Nat → Int) (w : World) (hlen : 0 < len) (hl : len ≤ 140737488351232) (hcl : clen ≤ 140737488351232) (hs : len ≤ ss.length)
    (hc : ∀ j, j < len → w.cell? ⟨b, off + j, none⟩ = some (.string (at' ss j))) (hcs : ∀ j, j < clen → w.cell? ⟨b2, off2 + j, none⟩ = some (.int .u8 (cs j)) ∧ 0 ≤ cs j ∧ cs j ≤ 255) :
    Calls Try.prog 4 #[.slice (some ⟨b, off, none⟩) len cap, .slice A2 clen ccap] w fun e w' => e = .returned (.bool true) ∧ Below w.heap.size w w' := by
  have HB := Aside0.mk (Below.refl w.heap.size w)
  have HC := Aside0.mk hc
  have HCS := Aside0.mk hcs
  clear hc hcs
  go_enter Try.func4, Try.ntmps4
  go_wp2_with (first | (go_at_call 8; refine (examples_calls _).mono ?_; rintro e1 w1 ⟨rfl, hb⟩; have h2 := Aside0.mk (below_step HB.out hb); clear HB; have HB := h2; clear h2 hb) | (go_at_call 9; refine (new_calls w _ HB.out).mono ?_; rintro e1 w1 ⟨g, rfl, hi, hb, hb2⟩; have HI := Aside0.mk hi; clear HB; have HB := Aside0.mk hb; clear hi hb hb2))
  obtain ⟨i0, hi0, hz0, hz1, hz2⟩ := info_parts info9
  have hgB : g < w1.heap.size := blk_lt HI.out.1
  have HA := Aside0.mk (show RA w g w1.heap.size ss 0 (.slice none 0 0) w1 from ⟨HI.out, HB.out, Nat.le_refl _, hgB, by simp [vals, cutL], .inl ⟨rfl, rfl⟩⟩)
  generalize w1.heap.size = B at HA
  clear HI HB hgB
  go_loopw [7, 8, 9] (fun v7 v8 v9 W => ∃ (k : Nat), k ≤ len ∧ k ≤ 20 ∧ v7 = .string (flat (cutL ss k)) ∧ v9 = .int .i64 k ∧ Aside0 (RA w g B ss k v8 W)) (fun _ _ v9 _ => 20 - (intOf v9).toNat)
  case atStart => exact ⟨0, Nat.zero_le _, by omega, rfl, rfl, HA⟩
  case round =>
    clear HA
    rename_i v8
    obtain ⟨k, k1, k2, rfl, rfl, HA⟩ := hrel
    have hk0 : (0 : Int) ≤ (k : Int) := Int.natCast_nonneg _
    by_cases c : k < len ∧ k < 20
    · obtain ⟨c1, c2⟩ := c
      have hcell := HC.out k c1
      have hk1 : (k : Int) < (len : Int) := by omega
      obtain ⟨m, hm, hx, hx2⟩ := len_cut (at' ss k)
      have hm1 : (m : Int) ≤ ((at' ss k).size : Int) := by have := hm.out; omega
      have hm0 : (0 : Int) ≤ (m : Int) := Int.natCast_nonneg _
      have hw : wr.cell? ⟨b, off + k, none⟩ = some (.string (at' ss k)) := (HA.out.2.1.cell (World.block_lt_of_cell? w _ hcell)).trans hcell
      have hsz := cut_size (at' ss k)
      have hfz := frm_size (cut (at' ss k))
      have hfb := flat_bound ss k k2
      have HSucc := Aside0.mk (cutL_succ ss k (by omega))
      clear hm
      go_wp2
      go_quiet (fail)
      go_wp2_with (first | (go_at_call 16; refine (put_short (cut (at' ss k)) _ hsz).mono ?_; rintro e1 w6 ⟨rfl, hb⟩; have h2 := Aside0.mk ((HA.out.drewN _).below hb); clear hb HA hw; have HA := h2; clear h2) | (at_builtin; refine wpList_append_own _ rfl _ _ 44 rfl B 9 i0 (.string ⟨#[]⟩) 1 16 Try.underlying44 hi0 hz0 hz1 hz2 rfl (by decide) _ _ _ rfl (HA.out.2.2.2.2.alloc _) ⟨w6.heap.size, 0, none⟩ 1 1 [.string (cut (at' ss k))] rfl rfl ?c1 ?c2 ?c3 ?c4 ?c5 ?_))
      case c1 =>
        intro j u hj
        match j, hj with
        | 0, hj => simp at hj; subst hj; simp [Addr.add]
      case c2 => intro u hu; simp at hu; subst hu; rfl
      case c3 => unfold maxLen; omega
      case c4 => omega
      case c5 => exact Nat.le_trans HA.out.2.2.1 (below_alloc (Below.refl w6.heap.size w6) _).size
      intro v' w7 hown7 hgrow7 _
      have HA7 := Aside0.mk (HA.out.push _ hgrow7 hown7 HSucc.out)
      have hfl := Aside0.mk (show flat (cutL ss k) ++ frm (cut (at' ss k)) = flat (cutL ss (k + 1)) by rw [HSucc.out, flat_snoc])
      clear hown7 hgrow7 HA HSucc
      go_wp2
      go_roundw
      case rel => exact ⟨k + 1, by omega, by omega, by rw [← hfl.out], by go_num, HA7⟩
      case measure => simp [intOf]; omega
    · have k0 : 1 ≤ k := by omega
      have hfb := flat_bound ss k k2
      have hlk := cutL_len ss k (by omega)
      have hL := Aside0.mk (cutL_small ss k)
      have hcase : ¬ k < len ∨ (k < len ∧ ¬ k < 20) := by omega
      obtain ⟨a1, a2, a3, a4, a5, a6⟩ := HA.out
      rcases a6 with ⟨_, q⟩ | ⟨B2, wcap, cur, rfl, q1, q2, q3, q4, q5, q6⟩
      · exact absurd q (by omega)
      have hcur := Aside0.mk (show cur.toList.take k = vals (cutL ss k) by rw [Nat.mul_one] at q6; exact q6)
      have HR := Aside0.mk (show RB w g B2 cur (cutL ss k) 0 ⟨#[]⟩ (flat (cutL ss k)) wr ∧ Inc (cutL ss k) 0 ⟨#[]⟩ from ⟨⟨a1, a2, q2, by omega, inv_start _⟩, inc_start _ _⟩)
      have hck : k ≤ wcap := q3
      clear HA a1 a2 a3 a4 a5 q1 q2 q3 q4 q5 q6
      generalize cutL ss k = L at hfb hlk hL hcur HR ⊢
      clear c
      rcases hcase with n1 | ⟨n1, n2⟩
      all_goals
        go_wp2
        go_loopw [7, 13, 14] (fun v7 v13 v14 W => ∃ (kk : Nat) (p a : ByteArray) (ii : Nat), v7 = .string a ∧ v13 = .int .i64 kk ∧ v14 = .int .i64 ii ∧ ii + a.size ≤ 4040 ∧ Aside0 (RB w g B2 cur L kk p a W ∧ Inc L kk p)) (fun v7 _ _ _ => lenOf v7)
        case atStart => exact ⟨0, ⟨#[]⟩, flat L, 0, rfl, rfl, rfl, by omega, HR⟩
        case round =>
          clear HR
          obtain ⟨kk, p, a, ii, rfl, rfl, rfl, hii, HR⟩ := hrel
          by_cases ha : 0 < a.size
          · have hne := not_empty' ha
            have key : (∃ (y : Int) (n : Nat), 0 < clen ∧ A2 = some ⟨b2, off2, none⟩ ∧ wr.cell? ⟨b2, off2 + ii % clen, none⟩ = some (.int .u8 y) ∧ 0 ≤ y ∧ y ≤ 255 ∧ 0 ≤ (ii : Int) % (clen : Int) ∧ (ii : Int) % (clen : Int) < (clen : Int) ∧ Aside0 (1 ≤ n ∧ n ≤ a.size) ∧
                (if (a.size : Int) < 1 + y % 64 then (a.size : Int) else 1 + y % 64) = (n : Int)) ∨
                (∃ n : Nat, clen = 0 ∧ Aside0 (1 ≤ n ∧ n ≤ a.size) ∧ (if (a.size : Int) < 64 then (a.size : Int) else 64) = (n : Int)) := by
              by_cases hcl0 : 0 < clen
              · left
                obtain ⟨hcc0, hy0, hy1⟩ := HCS.out (ii % clen) (Nat.mod_lt _ hcl0)
                obtain ⟨n, hn, hx⟩ := min_of a.size (1 + cs (ii % clen) % 64) ha (by omega)
                exact ⟨cs (ii % clen), n, hcl0, hA2 hcl0, (HR.out.1.2.1.cell (World.block_lt_of_cell? w _ hcc0)).trans hcc0, hy0, hy1, Int.emod_nonneg _ (by omega), Int.emod_lt_of_pos _ (by omega), hn, hx⟩
              · right
                obtain ⟨n, hn, hx⟩ := min_of a.size 64 ha (by omega)
                exact ⟨n, by omega, hn, hx⟩
            rcases key with ⟨y, n, hcl0, rfl, hcc, hy0, hy1, hi1, hi2, hn, hx⟩ | ⟨n, rfl, hn, hx⟩
            all_goals
              have hn0 : (0 : Int) ≤ (n : Int) := Int.natCast_nonneg _
              have hn1 : (n : Int) ≤ (a.size : Int) := by have := hn.out.2; omega
              have room := Aside0.mk (show p.size + (a.extract 0 n).size ≤ 9223372036854775807 by have h1 := HR.out.1.size hL.out (by omega); rw [ByteArray.size_extract]; omega)
              go_wp2_with (first | (go_at_call 10; refine (add_good g p _ w _ HR.out.1.1 HR.out.1.2.1 room.out).mono ?_; rintro e1 w8 ⟨rfl, hi, hb, hk⟩; have HR1 := Aside0.mk (show RB w g B2 cur L kk (p ++ a.extract 0 n) (a.extract n a.size) w8 from ⟨hi, hb, hk.blk HR.out.1.2.2.1 (fun e => HR.out.1.2.2.2.1 e.symm) (by simp), HR.out.1.2.2.2.1, add_step n HR.out.1.2.2.2.2⟩); clear hi hb hk HR))
              go_loopw [13] (fun v13 W => ∃ (k2' : Nat) (p2 : ByteArray), v13 = .int .i64 k2' ∧ Aside0 (RB w g B2 cur L k2' p2 (a.extract n a.size) W)) (fun v13 _ => L.length - (intOf v13).toNat)
              case atStart => exact ⟨kk, _, rfl, HR1⟩
              case round =>
                clear HR1
                obtain ⟨k2', p2, rfl, HR⟩ := hrel
                have hkk0 : (0 : Int) ≤ (k2' : Int) := Int.natCast_nonneg _
                rcases next_step hL.out HR.out.2.2.2.2 with ⟨e1, e2⟩ | ⟨c, q, e1, e2, e3⟩
                · have HN := Aside0.mk e1
                  have HInc := Aside0.mk e2
                  have hsz := Aside0.mk (show (a.extract n a.size).size < a.size by rw [ByteArray.size_extract]; have := hn.out; omega)
                  clear e1 e2
                  go_wp2_with (first | (go_at_call 12; refine (next_calls g p2 false _ _ _ _ _ w _ HR.out.1 HR.out.2.1 HN.out).mono ?_; rintro e1 w11 ⟨rfl, hi, hb, hk⟩; have HR2 := Aside0.mk (show RB w g B2 cur L k2' p2 (a.extract n a.size) w11 from ⟨hi, hb, hk.blk HR.out.2.2.1 (fun e => HR.out.2.2.2.1 e.symm) (by simp), HR.out.2.2.2.1, HR.out.2.2.2.2⟩); clear hi hb hk HR))
                  go_roundw
                  case rel => exact ⟨k2', p2, a.extract n a.size, ii + 1, rfl, rfl, by go_num, by have := hsz.out; omega, ⟨HR2.out, HInc.out⟩⟩
                  case measure => exact hsz.out
                · have HN := Aside0.mk e2
                  have HInv := Aside0.mk e3
                  have hk2 : k2' < L.length := (List.getElem?_eq_some_iff.1 e1).1
                  have hk3 : (k2' : Int) < (k : Int) := by omega
                  have HCell := Aside0.mk (fun W' (h : RB w g B2 cur L k2' p2 (a.extract n a.size) W') => h.cell (by rw [hlk]; exact hcur.out) e1)
                  clear e1 e2 e3
                  go_wp2_with (first | (go_at_call 12; refine (next_calls g p2 false _ _ _ _ _ w _ HR.out.1 HR.out.2.1 HN.out).mono ?_; rintro e1 w11 ⟨rfl, hi, hb, hk⟩; have hbk := hk.blk HR.out.2.2.1 (fun e => HR.out.2.2.2.1 e.symm) (by simp); have hwc : w11.cell? ⟨B2, k2', none⟩ = some (.string c) := (blk_cell hbk k2').trans ((blk_cell HR.out.2.2.1 k2').symm.trans (HCell.out _ HR.out)); have HR2 := Aside0.mk (show RB w g B2 cur L (k2' + 1) q (a.extract n a.size) w11 from ⟨hi, hb, hbk, HR.out.2.2.2.1, HInv.out⟩); clear hi hb hk hbk HR))
                  go_roundw
                  case rel => exact ⟨k2' + 1, q, by go_num, HR2⟩
                  case measure => simp [intOf]; omega
          · have hne := of_size (show a.size = 0 by omega)
            subst hne
            obtain ⟨z1, z2⟩ := at_end HR.out.1.2.2.2.2 HR.out.2
            subst z2
            have z3 := z1.trans hlk
            subst z3
            clear z1 hlk
            go_wp2_with (first | (go_at_call 14; refine (rest_calls g _ _ w _ HR.out.1.1 HR.out.1.2.1).mono ?_; rintro e1 w9 ⟨rfl, hi, hb, hk⟩; have HI := Aside0.mk hi; have HB := Aside0.mk hb; clear hi hb hk) | (go_at_call 15; refine (bad_calls g _ _ w _ HI.out HB.out).mono ?_; rintro e1 w10 ⟨rfl, hi, hb, hk⟩; clear HI HB; have HI := Aside0.mk hi; have HB := Aside0.mk hb; clear hi hb hk))
            go_ret
            exact ⟨by first | rfl | (simp; done) | (simp; omega), HB.out⟩

set_option maxHeartbeats 1000000 in
set_option maxRecDepth 100000 in
theorem walk0 (a0 a2 : Option Addr) (cap clen ccap : Nat) (w : World) :
    Calls Try.prog 4 #[.slice a0 0 cap, .slice a2 clen ccap] w fun e w' => e = .returned (.bool true) ∧ Below w.heap.size w w' := by
  have HB := Aside0.mk (Below.refl w.heap.size w)
  go_enter Try.func4, Try.ntmps4
  go_wp2_with (first | (go_at_call 8; refine (examples_calls _).mono ?_; rintro e1 w1 ⟨rfl, hb⟩; have h2 := Aside0.mk (below_step HB.out hb); clear HB; have HB := h2; clear h2 hb) | (go_at_call 9; refine (new_calls w _ HB.out).mono ?_; rintro e1 w1 ⟨g, rfl, hi, hb, hb2⟩; have HI := Aside0.mk hi; clear HB; have HB := Aside0.mk hb; clear hi hb hb2))
  go_loop [7, 8, 9] (fun v7 v8 v9 => v7 = .string ⟨#[]⟩ ∧ v8 = .slice none 0 0 ∧ v9 = .int .i64 0) (fun _ _ _ => 0)
  case atStart => exact ⟨rfl, rfl, rfl⟩
  case round =>
    obtain ⟨rfl, rfl, rfl⟩ := hrel
    go_wp2
    go_loop [7, 13] (fun v7 v13 => v7 = .string ⟨#[]⟩ ∧ v13 = .int .i64 0) (fun _ _ => 0)
    case atStart => exact ⟨rfl, rfl⟩
    case round =>
      obtain ⟨rfl, rfl⟩ := hrel
      go_wp2_with (first | (go_at_call 14; refine (rest_calls g _ _ w _ HI.out HB.out).mono ?_; rintro e1 w9 ⟨rfl, hi, hb, hk⟩; clear HI HB; have HI := Aside0.mk hi; have HB := Aside0.mk hb; clear hi hb hk) | (go_at_call 15; refine (bad_calls g _ _ w _ HI.out HB.out).mono ?_; rintro e1 w10 ⟨rfl, hi, hb, hk⟩; clear HI HB; have HI := Aside0.mk hi; have HB := Aside0.mk hb; clear hi hb hk))
      go_ret
      exact ⟨by first | rfl | (simp; done), HB.out⟩

end Go.Proofs.Ytnphookkinpigaa.Cuts
