/- The reader's Next and what the laws call: contracts; conditions: the reader's block holds a text and a bool. -/
import Derived.Test.YtnphookkinpigaaFrameNum
import Derived.Test.YtnphookkinpigaaPNewx1
import Derived.Test.YtnphookkinpigaaPAddx1
import Derived.Test.YtnphookkinpigaaPRestx1
import Derived.Test.YtnphookkinpigaaPBadx1
namespace Go.Proofs.Ytnphookkinpigaa.Frame
open Go.RowKit Go.Proofs.Ytnphookkinpigaa.PTake Go.Proofs.Ytnphookkinpigaa.PPut Go.Proofs.YtnphookkinpigaaW.PrintWords Go.Proofs.YtnphookkinpigaaW.PrintLast Go.Proofs.YtnphookkinpigaaW.PrintMore Go.Proofs.Ytnphookkinpigaa.Math

/-! A reader in memory -/
/-- Block g holds the reader: its bytes, and whether it is bad; the block is younger than the world w0. -/
def Rdr (w0 W : World) (g : Nat) (s : ByteArray) (bad : Bool) : Prop := W.heap[g]? = some (.cells #[.string s, .bool bad] 53 (0, 0)) ∧ w0.heap.size ≤ g

theorem cellR_0 {W : World} {g : Nat} {s : ByteArray} {bad : Bool} (h : W.heap[g]? = some (.cells #[.string s, .bool bad] 53 (0, 0))) : W.cell? ⟨g, 0, none⟩ = some (.string s) := (blk_cell h 0).trans rfl
theorem cellR_1 {W : World} {g : Nat} {s : ByteArray} {bad : Bool} (h : W.heap[g]? = some (.cells #[.string s, .bool bad] 53 (0, 0))) : W.cell? ⟨g, 1, none⟩ = some (.bool bad) := (blk_cell h 1).trans rfl
theorem Rdr.set_0 {w0 W : World} {g : Nat} {s : ByteArray} {bad : Bool} (h : Rdr w0 W g s bad) (x : ByteArray) : Rdr w0 (W.setCell ⟨g, 0, none⟩ (.string x)) g x bad := by
  obtain ⟨hb, hg⟩ := h
  exact ⟨by simpa using blk_set hb 0 (.string x), hg⟩
theorem Rdr.set_1 {w0 W : World} {g : Nat} {s : ByteArray} {bad : Bool} (h : Rdr w0 W g s bad) (x : Bool) : Rdr w0 (W.setCell ⟨g, 1, none⟩ (.bool x)) g s x := by
  obtain ⟨hb, hg⟩ := h
  exact ⟨by simpa using blk_set hb 1 (.bool x), hg⟩
theorem Rdr.drewN {w0 W : World} {g : Nat} {s : ByteArray} {bad : Bool} (h : Rdr w0 W g s bad) (m : Nat) : Rdr w0 (W.drewN m) g s bad := h
theorem Rdr.below {w0 W W1 : World} {g : Nat} {s : ByteArray} {bad : Bool} (h : Rdr w0 W g s bad) (hw : Below W.heap.size W W1) : Rdr w0 W1 g s bad :=
  ⟨blk_grown h.1 (grown_of_below hw none) (by simp), h.2⟩

/-! Next: what it tells of a reader's bytes -/
def nextF (s : ByteArray) (bad : Bool) : ByteArray × Bool × Int × ByteArray × Bool :=
  if bad = true then (⟨#[]⟩, false, 6, s, true)
  else if s.size < 2 then (⟨#[]⟩, false, 0, s, false)
  else if 200 < (val ((bytesOf s).take 2)).toNat then (⟨#[]⟩, false, 16, ⟨#[]⟩, true)
  else if s.size < 2 + (val ((bytesOf s).take 2)).toNat then (⟨#[]⟩, false, 0, s, false)
  else (s.extract 2 (2 + (val ((bytesOf s).take 2)).toNat), true, 0, s.extract (2 + (val ((bytesOf s).take 2)).toNat) s.size, false)

/-- What the call leaves of the world: the reader's block holds this, and no other block that existed has changed. -/
def Left (w0 w : World) (g : Nat) (r1 : ByteArray) (r2 : Bool) (r3 : Int) (r4 : ByteArray) (r5 : Bool) (e : Ending) (w' : World) : Prop :=
  e = .returned (.tuple #[.string r1, .bool r2, .int .i64 r3]) ∧ Rdr w0 w' g r4 r5 ∧ Below w0.heap.size w0 w' ∧ KeepBut w w' g none

theorem take2 (s : ByteArray) (n : Nat) (hs : 2 ≤ s.size) (hn : val ((bytesOf s).take 2) = (n : Int)) : num_Take.f 10 s 2 = some ((n : Int), s.extract 2 s.size, 0) := by
  have ht := take_some 10 s 2 (by decide) (by decide) hs (Nat.le_refl _)
  rw [hn] at ht
  exact ht

set_option maxHeartbeats 1000000 in
set_option maxRecDepth 100000 in
theorem next_bad (g : Nat) (s : ByteArray) (w0 w : World) (hI : Rdr w0 w g s true) (hB : Below w0.heap.size w0 w) :
    Calls Try.prog 12 #[.pointer (some ⟨g, 0, none⟩)] w (Left w0 w g ⟨#[]⟩ false 6 s true) := by
  have HI := Aside0.mk hI
  have HB := Aside0.mk hB
  have h0 := cellR_0 hI.1
  have h1 := cellR_1 hI.1
  clear hI hB
  go_enter Try.func12, Try.ntmps12
  go_wp2
  go_ret3
  exact ⟨rfl, HI.out, HB.out, KeepBut.refl w g none⟩

set_option maxHeartbeats 1000000 in
set_option maxRecDepth 100000 in
theorem next_short (g : Nat) (s : ByteArray) (w0 w : World) (hI : Rdr w0 w g s false) (hB : Below w0.heap.size w0 w) (hs : s.size < 2) :
    Calls Try.prog 12 #[.pointer (some ⟨g, 0, none⟩)] w (Left w0 w g ⟨#[]⟩ false 0 s false) := by
  have HI := Aside0.mk hI
  have HB := Aside0.mk hB
  have h0 := cellR_0 hI.1
  have h1 := cellR_1 hI.1
  have HT := Aside0.mk (take_short 10 s 2 (by decide) (by decide) (by omega) (Nat.le_refl _))
  clear hI hB
  go_enter Try.func12, Try.ntmps12
  go_wp2_with (first | (go_at_call 18; (with_reducible refine (num_Take.calls _ _ _ _ _ _ _ HT.out).mono ?_); rintro e1 w1 ⟨rfl, ⟨nd, rfl⟩⟩))
  go_ret3
  exact ⟨rfl, HI.out.drewN _, pw_below_drewN HB.out _, keep_drewN (KeepBut.refl w g none) _⟩

set_option maxHeartbeats 1000000 in
set_option maxRecDepth 100000 in
theorem spoil (g : Nat) (s : ByteArray) (n : Int) (w0 w : World) (hI : Rdr w0 w g s false) (hB : Below w0.heap.size w0 w) :
    Calls Try.prog 20 #[.pointer (some ⟨g, 0, none⟩), .int .i64 n] w (Left w0 w g ⟨#[]⟩ false 16 ⟨#[]⟩ true) := by
  have HI := Aside0.mk hI
  have HB := Aside0.mk hB
  have h0 := cellR_0 hI.1
  have h1 := cellR_1 hI.1
  have hf0 := blk_frozen hI.1 0
  have hf1 := blk_frozen hI.1 1
  clear hI hB
  go_enter Try.func20, Try.ntmps20
  go_wp2
  go_ret3
  exact ⟨rfl, (HI.out.set_0 _).set_1 _, below_set (below_set HB.out HI.out.2) HI.out.2, ((KeepBut.refl w g none).set_ _ _).set_ _ _⟩

set_option maxHeartbeats 1000000 in
set_option maxRecDepth 100000 in
theorem tell (g : Nat) (s : ByteArray) (n : Nat) (w0 w : World) (hI : Rdr w0 w g s false) (hB : Below w0.heap.size w0 w) (hn : n ≤ 200) (hs : 2 + n ≤ s.size) :
    Calls Try.prog 19 #[.pointer (some ⟨g, 0, none⟩), .int .i64 n] w (Left w0 w g (s.extract 2 (2 + n)) true 0 (s.extract (2 + n) s.size) false) := by
  have HI := Aside0.mk hI
  have HB := Aside0.mk hB
  have h0 := cellR_0 hI.1
  have h1 := cellR_1 hI.1
  have hf0 := blk_frozen hI.1 0
  have hf1 := blk_frozen hI.1 1
  clear hI hB
  have g0 : (0 : Int) ≤ (n : Int) := Int.natCast_nonneg _
  have g1 : (2 : Int) ≤ 2 + (n : Int) := by omega
  have g2 : 2 + (n : Int) ≤ (s.size : Int) := by omega
  have g3 : (2 + (n : Int)).toNat = 2 + n := by omega
  have g4 : (0 : Int) ≤ 2 + (n : Int) := by omega
  go_enter Try.func19, Try.ntmps19
  go_wp2
  go_ret3
  exact ⟨by first | rfl | simp, HI.out.set_0 _, below_set HB.out HI.out.2, (KeepBut.refl w g none).set_ _ _⟩

set_option maxHeartbeats 1000000 in
set_option maxRecDepth 100000 in
theorem wait (g : Nat) (s : ByteArray) (n : Nat) (w0 w : World) (hI : Rdr w0 w g s false) (hB : Below w0.heap.size w0 w) (hn : n ≤ 200) (hs : s.size < 2 + n) :
    Calls Try.prog 19 #[.pointer (some ⟨g, 0, none⟩), .int .i64 n] w (Left w0 w g ⟨#[]⟩ false 0 s false) := by
  have HI := Aside0.mk hI
  have HB := Aside0.mk hB
  have h0 := cellR_0 hI.1
  have h1 := cellR_1 hI.1
  clear hI hB
  have g0 : (0 : Int) ≤ (n : Int) := Int.natCast_nonneg _
  have g2 : (s.size : Int) < 2 + (n : Int) := by omega
  go_enter Try.func19, Try.ntmps19
  go_wp2
  go_ret3
  exact ⟨rfl, HI.out, HB.out, KeepBut.refl w g none⟩

set_option maxHeartbeats 1000000 in
set_option maxRecDepth 100000 in
theorem next_long (g : Nat) (s : ByteArray) (n : Nat) (w0 w : World) (hI : Rdr w0 w g s false) (hB : Below w0.heap.size w0 w) (hs : 2 ≤ s.size) (hn : val ((bytesOf s).take 2) = (n : Int)) (hlong : 200 < n) (hmax : n < 65536) :
    Calls Try.prog 12 #[.pointer (some ⟨g, 0, none⟩)] w (Left w0 w g ⟨#[]⟩ false 16 ⟨#[]⟩ true) := by
  have HI := Aside0.mk hI
  have HB := Aside0.mk hB
  have h0 := cellR_0 hI.1
  have h1 := cellR_1 hI.1
  have hf0 := blk_frozen hI.1 0
  have hf1 := blk_frozen hI.1 1
  have HT := Aside0.mk (take2 s n hs hn)
  have hmf : ∀ (fn : Fn) (first cap : Array Value) (w : World), (Instr.makeFunc fn first cap).run Try.prog w = .ok (.func fn first cap) w := fun _ _ _ _ => rfl
  clear hI hB hn
  go_enter Try.func12, Try.ntmps12
  go_wp2_with (first | (go_at_call 18; (with_reducible refine (num_Take.calls 10 s _ _ _ _ _ HT.out).mono ?_); rintro e1 w1 ⟨rfl, ⟨nd, rfl⟩⟩) | (go_at_call 20; refine (spoil g s _ w0 _ (HI.out.drewN _) (pw_below_drewN HB.out _)).mono ?_; rintro e1 w1 ⟨rfl, hi, hb, hk⟩; have H1 := Aside0.mk hi; have H2 := Aside0.mk hb; have H3 := Aside0.mk hk; clear hi hb hk))
  go_ret3
  exact ⟨rfl, H1.out, H2.out, (keep_drewN (KeepBut.refl w g none) _).trans H3.out (.inl rfl)⟩

set_option maxHeartbeats 1000000 in
set_option maxRecDepth 100000 in
theorem next_wait (g : Nat) (s : ByteArray) (n : Nat) (w0 w : World) (hI : Rdr w0 w g s false) (hB : Below w0.heap.size w0 w) (hs : 2 ≤ s.size) (hn : val ((bytesOf s).take 2) = (n : Int)) (hn2 : n ≤ 200) (hs2 : s.size < 2 + n) :
    Calls Try.prog 12 #[.pointer (some ⟨g, 0, none⟩)] w (Left w0 w g ⟨#[]⟩ false 0 s false) := by
  have HI := Aside0.mk hI
  have HB := Aside0.mk hB
  have h0 := cellR_0 hI.1
  have h1 := cellR_1 hI.1
  have HT := Aside0.mk (take2 s n hs hn)
  have hmf : ∀ (fn : Fn) (first cap : Array Value) (w : World), (Instr.makeFunc fn first cap).run Try.prog w = .ok (.func fn first cap) w := fun _ _ _ _ => rfl
  clear hI hB hn
  go_enter Try.func12, Try.ntmps12
  go_wp2_with (first | (go_at_call 18; (with_reducible refine (num_Take.calls 10 s _ _ _ _ _ HT.out).mono ?_); rintro e1 w1 ⟨rfl, ⟨nd, rfl⟩⟩) | (go_at_call 19; refine (wait g s n w0 _ (HI.out.drewN _) (pw_below_drewN HB.out _) hn2 hs2).mono ?_; rintro e1 w1 ⟨rfl, hi, hb, hk⟩; have H1 := Aside0.mk hi; have H2 := Aside0.mk hb; have H3 := Aside0.mk hk; clear hi hb hk))
  go_ret3
  exact ⟨rfl, H1.out, H2.out, (keep_drewN (KeepBut.refl w g none) _).trans H3.out (.inl rfl)⟩

set_option maxHeartbeats 1000000 in
set_option maxRecDepth 100000 in
theorem next_tell (g : Nat) (s : ByteArray) (n : Nat) (w0 w : World) (hI : Rdr w0 w g s false) (hB : Below w0.heap.size w0 w) (hs : 2 ≤ s.size) (hn : val ((bytesOf s).take 2) = (n : Int)) (hn2 : n ≤ 200) (hs2 : 2 + n ≤ s.size) :
    Calls Try.prog 12 #[.pointer (some ⟨g, 0, none⟩)] w (Left w0 w g (s.extract 2 (2 + n)) true 0 (s.extract (2 + n) s.size) false) := by
  have HI := Aside0.mk hI
  have HB := Aside0.mk hB
  have h0 := cellR_0 hI.1
  have h1 := cellR_1 hI.1
  have HT := Aside0.mk (take2 s n hs hn)
  have hmf : ∀ (fn : Fn) (first cap : Array Value) (w : World), (Instr.makeFunc fn first cap).run Try.prog w = .ok (.func fn first cap) w := fun _ _ _ _ => rfl
  clear hI hB hn
  go_enter Try.func12, Try.ntmps12
  go_wp2_with (first | (go_at_call 18; (with_reducible refine (num_Take.calls 10 s _ _ _ _ _ HT.out).mono ?_); rintro e1 w1 ⟨rfl, ⟨nd, rfl⟩⟩) | (go_at_call 19; refine (tell g s n w0 _ (HI.out.drewN _) (pw_below_drewN HB.out _) hn2 hs2).mono ?_; rintro e1 w1 ⟨rfl, hi, hb, hk⟩; have H1 := Aside0.mk hi; have H2 := Aside0.mk hb; have H3 := Aside0.mk hk; clear hi hb hk))
  go_ret3
  exact ⟨rfl, H1.out, H2.out, (keep_drewN (KeepBut.refl w g none) _).trans H3.out (.inl rfl)⟩

/-- The call of Next tells what 'nextF' says, and leaves the reader so. -/
theorem next_calls (g : Nat) (s : ByteArray) (bad : Bool) (r1 : ByteArray) (r2 : Bool) (r3 : Int) (r4 : ByteArray) (r5 : Bool) (w0 w : World) (hI : Rdr w0 w g s bad) (hB : Below w0.heap.size w0 w)
    (h : nextF s bad = (r1, r2, r3, r4, r5)) : Calls Try.prog 12 #[.pointer (some ⟨g, 0, none⟩)] w (Left w0 w g r1 r2 r3 r4 r5) := by
  unfold nextF at h
  cases bad with
  | true =>
    rw [if_pos rfl] at h
    simp only [Prod.mk.injEq] at h
    obtain ⟨rfl, rfl, rfl, rfl, rfl⟩ := h
    exact next_bad g s w0 w hI hB
  | false =>
    rw [if_neg (by decide)] at h
    by_cases c : s.size < 2
    · rw [if_pos c] at h
      simp only [Prod.mk.injEq] at h
      obtain ⟨rfl, rfl, rfl, rfl, rfl⟩ := h
      exact next_short g s w0 w hI hB c
    · rw [if_neg c] at h
      have hr := val_range _ (byte_take (bytesOf_byte s) 2)
      have hl : ((bytesOf s).take 2).length = 2 := by rw [List.length_take, bytesOf_length]; omega
      rw [hl] at hr
      have hp : (256 : Int) ^ 2 = 65536 := by decide
      obtain ⟨n, hn⟩ := Int.eq_ofNat_of_zero_le hr.1
      rw [hn, Int.toNat_natCast] at h
      by_cases d : 200 < n
      · rw [if_pos d] at h
        simp only [Prod.mk.injEq] at h
        obtain ⟨rfl, rfl, rfl, rfl, rfl⟩ := h
        exact next_long g s n w0 w hI hB (by omega) hn d (by omega)
      · rw [if_neg d] at h
        by_cases e : s.size < 2 + n
        · rw [if_pos e] at h
          simp only [Prod.mk.injEq] at h
          obtain ⟨rfl, rfl, rfl, rfl, rfl⟩ := h
          exact next_wait g s n w0 w hI hB (by omega) hn (by omega) e
        · rw [if_neg e] at h
          simp only [Prod.mk.injEq] at h
          obtain ⟨rfl, rfl, rfl, rfl, rfl⟩ := h
          exact next_tell g s n w0 w hI hB (by omega) hn (by omega) (by omega)
end Go.Proofs.Ytnphookkinpigaa.Frame
