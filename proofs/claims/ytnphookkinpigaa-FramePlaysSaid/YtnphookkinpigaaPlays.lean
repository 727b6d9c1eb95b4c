/- FramePlays: for every slice of deeds and any text the call returns true, and nothing that existed has changed; conditions: the texts' reach. -/
import Derived.Test.YtnphookkinpigaaRef
namespace Go.Proofs.Ytnphookkinpigaa.Plays
open Go.RowKit Go.Proofs.YtnphookkinpigaaW.PrintWords Go.Proofs.YtnphookkinpigaaW.PrintLast Go.Proofs.YtnphookkinpigaaW.PrintMore Go.Proofs.Ytnphookkinpigaa.Math Go.Proofs.Ytnphookkinpigaa.Frame Go.Proofs.Ytnphookkinpigaa.Ref

theorem drewR {w0 W : World} {g : Nat} {s : ByteArray} {bad : Bool} (h : Rdr w0 W g s bad) : Rdr w0 W.drew g s bad := h
theorem drewF {w0 W : World} {g : Nat} {s : ByteArray} {bad : Bool} (h : RefR w0 W g s bad) : RefR w0 W.drew g s bad := h

theorem nextF_facts (s : ByteArray) (bad : Bool) (r1 : ByteArray) (r2 : Bool) (r3 : Int) (r4 : ByteArray) (r5 : Bool) (h : nextF s bad = (r1, r2, r3, r4, r5)) : 0 ≤ r3 ∧ r3 ≤ 16 ∧ r4.size ≤ s.size := by
  unfold nextF at h
  split at h
  · simp only [Prod.mk.injEq] at h
    obtain ⟨rfl, rfl, rfl, rfl, rfl⟩ := h
    exact ⟨by decide, by decide, Nat.le_refl _⟩
  · split at h
    · simp only [Prod.mk.injEq] at h
      obtain ⟨rfl, rfl, rfl, rfl, rfl⟩ := h
      exact ⟨by decide, by decide, Nat.le_refl _⟩
    · split at h
      · simp only [Prod.mk.injEq] at h
        obtain ⟨rfl, rfl, rfl, rfl, rfl⟩ := h
        exact ⟨by decide, by decide, Nat.zero_le _⟩
      · split at h
        · simp only [Prod.mk.injEq] at h
          obtain ⟨rfl, rfl, rfl, rfl, rfl⟩ := h
          exact ⟨by decide, by decide, Nat.le_refl _⟩
        · simp only [Prod.mk.injEq] at h
          obtain ⟨rfl, rfl, rfl, rfl, rfl⟩ := h
          exact ⟨by decide, by decide, by rw [ByteArray.size_extract]; omega⟩

set_option maxHeartbeats 1000000 in
set_option maxRecDepth 100000 in
theorem rest_still (g : Nat) (s : ByteArray) (bad : Bool) (w0 w : World) (hI : Rdr w0 w g s bad) : Calls Try.prog 14 #[.pointer (some ⟨g, 0, none⟩)] w fun e w' => e = .returned (.int .i64 (s.size : Int)) ∧ w' = w := by
  have h0 := cellR_0 hI.1
  clear hI
  go_enter Try.func14, Try.ntmps14
  go_wp2
  go_ret
  exact ⟨rfl, rfl⟩

set_option maxHeartbeats 1000000 in
set_option maxRecDepth 100000 in
theorem bad_still (g : Nat) (s : ByteArray) (bad : Bool) (w0 w : World) (hI : Rdr w0 w g s bad) : Calls Try.prog 15 #[.pointer (some ⟨g, 0, none⟩)] w fun e w' => e = .returned (.bool bad) ∧ w' = w := by
  have h0 := cellR_1 hI.1
  clear hI
  go_enter Try.func15, Try.ntmps15
  go_wp2
  go_ret
  exact ⟨rfl, rfl⟩

/-- Both readers hold the same, and it is not too much. -/
def Same (w W : World) (g h : Nat) (k : Nat) (s : ByteArray) (bad : Bool) : Prop :=
  Rdr w W g s bad ∧ RefR w W h s bad ∧ Below w.heap.size w W ∧ s.size ≤ 140737488351232 * k

set_option maxHeartbeats 4000000 in
set_option maxRecDepth 100000 in
theorem walk (b off len cap : Nat) (Bs : Nat → ByteArray) (Ns : Nat → Int) (text : ByteArray) (w : World)
    (hc : ∀ i, i < len → w.cell? ⟨b, off + i * 2, none⟩ = some (.string (Bs i)) ∧ w.cell? ⟨b, off + i * 2 + 1, none⟩ = some (.int .i64 (Ns i)) ∧ (Bs i).size ≤ 140737488351232)
    (ht : text.size ≤ 140737488351232) :
    Calls Try.prog 3 #[.slice (some ⟨b, off, none⟩) len cap, .string text] w fun e w' => e = .returned (.bool true) ∧ Below w.heap.size w w' := by
  have HB := Aside0.mk (Below.refl w.heap.size w)
  have HC := Aside0.mk hc
  clear hc
  go_enter Try.func3, Try.ntmps3
  go_wp2_with (first | (go_at_call 8; refine (examples_calls _).mono ?_; rintro e1 w1 ⟨rfl, hb⟩; have h2 := Aside0.mk (below_step HB.out hb); clear HB; have HB := h2; clear h2 hb) | (go_at_call 9; refine (new_calls w _ HB.out).mono ?_; rintro e1 w1 ⟨g, rfl, hi, hb, hb2⟩; have HI := Aside0.mk hi; clear HB; have HB := Aside0.mk hb; clear hi hb hb2))
  have hFn : RefR w (w1.alloc (.cells #[.string ⟨#[]⟩, .bool false] 28)) w1.heap.size ⟨#[]⟩ false := ⟨heap_alloc_new w1 _, HB.out.size⟩
  have hS : Same w (w1.alloc (.cells #[.string ⟨#[]⟩, .bool false] 28)) g w1.heap.size 0 ⟨#[]⟩ false :=
    ⟨HI.out.below (below_alloc (Below.refl _ _) _), hFn, below_alloc HB.out _, Nat.le_refl _⟩
  generalize w1.heap.size = h at hS hFn ⊢
  have HS := Aside0.mk hS
  clear hFn hS HI HB
  go_loopw [8] (fun v8 W => ∃ (k : Nat) (s : ByteArray) (bad : Bool), k ≤ len ∧ k ≤ 40 ∧ v8 = .int .i64 k ∧ Aside0 (Same w W g h k s bad)) (fun v8 _ => 40 - (intOf v8).toNat)
  case atStart => exact ⟨0, ⟨#[]⟩, false, Nat.zero_le _, by omega, rfl, HS⟩
  case round =>
    clear HS
    obtain ⟨k, s, bad, k1, k2, rfl, HS⟩ := hrel
    have hk0 : (0 : Int) ≤ (k : Int) := Int.natCast_nonneg _
    by_cases c : k < len ∧ k < 40
    · obtain ⟨c1, c2⟩ := c
      obtain ⟨hc1, hc2, hsz⟩ := HC.out k c1
      have HSz := Aside0.mk HS.out.2.2.2
      have hk1 : (k : Int) < (len : Int) := by omega
      have hw : wr.cell? ⟨b, off + k * 2, none⟩ = some (.string (Bs k)) := (HS.out.2.2.1.cell (World.block_lt_of_cell? w _ hc1)).trans hc1
      have hroom := Aside0.mk (show s.size + (Bs k).size ≤ 9223372036854775807 by have := HSz.out; omega)
      cases bad
      all_goals
        go_wp2
        go_region_held3 (fun w' => w'.cell? ⟨b, off + k * 2, none⟩ = some (.string (Bs k)))
          (first | go_keep)
          (first | (go_simp; go_at_call 10; (first | refine (add_good g s (Bs k) w _ (drewR HS.out.1) (below_drew1 HS.out.2.2.1) hroom.out).mono ?_ | refine (add_bad g s (Bs k) w _ (drewR HS.out.1) (below_drew1 HS.out.2.2.1)).mono ?_); rintro e2 w2 ⟨rfl, hi, hb2, hkp⟩; have HF := Aside0.mk ((drewF HS.out.2.1).keep (drewR HS.out.1) hkp); have HI := Aside0.mk hi; have HB := Aside0.mk hb2; have hw2 : w2.cell? ⟨b, off + k * 2, none⟩ = some (.string (Bs k)) := (hb2.cell (World.block_lt_of_cell? w _ hc1)).trans hc1; clear hi hb2 hkp HS) | (go_simp; go_at_call 11; (first | refine (radd_good h s (Bs k) w _ HF.out HB.out hroom.out).mono ?_ | refine (radd_bad h s (Bs k) w _ HF.out HB.out).mono ?_); rintro e2 w3 ⟨rfl, hf, hb3, hkp⟩; have HI2 := Aside0.mk (keepR HI.out HF.out hkp); have HF2 := Aside0.mk hf; have HB3 := Aside0.mk hb3; have hw3 : w3.cell? ⟨b, off + k * 2, none⟩ = some (.string (Bs k)) := (hb3.cell (World.block_lt_of_cell? w _ hc1)).trans hc1; clear hf hb3 hkp HI HF HB))
        have HS1 : Aside0 (∃ s2 bad2, Same w w3 g h (k + 1) s2 bad2) := ⟨_, _, HI2.out, HF2.out, HB3.out, by first | (rw [ByteArray.size_append]; have := HSz.out; omega) | (have := HSz.out; omega)⟩
        clear HI2 HF2 HB3 hroom HSz hw hw3
        go_wp2
        go_loopw [9] (fun v9 W => ∃ (j : Nat) (s2 : ByteArray) (bad2 : Bool), j ≤ 5 ∧ v9 = .int .i64 j ∧ Aside0 (Same w W g h (k + 1) s2 bad2)) (fun v9 _ => 5 - (intOf v9).toNat)
        case atStart =>
          obtain ⟨s2, bad2, hs2⟩ := HS1.out
          exact ⟨0, s2, bad2, by omega, rfl, ⟨hs2⟩⟩
        case round =>
          clear HS1
          obtain ⟨j, s2, bad2, j1, rfl, HS⟩ := hrel
          have hj0 : (0 : Int) ≤ (j : Int) := Int.natCast_nonneg _
          have hw : wr.cell? ⟨b, off + k * 2 + 1, none⟩ = some (.int .i64 (Ns k)) := (HS.out.2.2.1.cell (World.block_lt_of_cell? w _ hc2)).trans hc2
          by_cases d : (j : Int) < Ns k ∧ j < 5
          · obtain ⟨d1, d2⟩ := d
            rcases hN : nextF s2 bad2 with ⟨r1, r2, r3, r4, r5⟩
            obtain ⟨q1, q2, q3⟩ := nextF_facts _ _ _ _ _ _ _ hN
            have HN := Aside0.mk hN
            have HSz := Aside0.mk (Nat.le_trans q3 HS.out.2.2.2)
            clear hN q3
            go_wp2_with (first | (go_at_call 12; refine (next_calls g s2 bad2 r1 r2 r3 r4 r5 w _ HS.out.1 HS.out.2.2.1 HN.out).mono ?_; rintro e2 w4 ⟨rfl, hi, hb4, hkp⟩; have HF := Aside0.mk (HS.out.2.1.keep HS.out.1 hkp); have HI := Aside0.mk hi; have HB := Aside0.mk hb4; clear hi hb4 hkp HS) | (go_at_call 13; refine (rnext_calls h s2 bad2 r1 r2 r3 r4 r5 w _ HF.out HB.out HN.out).mono ?_; rintro e2 w5 ⟨rfl, hf, hb5, hkp⟩; have HI2 := Aside0.mk (keepR HI.out HF.out hkp); have HF2 := Aside0.mk hf; have HB2 := Aside0.mk hb5; clear hf hb5 hkp HI HF HB))
            go_roundw
            case rel => exact ⟨j + 1, r4, r5, by omega, by go_num, ⟨HI2.out, HF2.out, HB2.out, HSz.out⟩⟩
            case measure => simp [intOf]; omega
          · have hF0 := cellF_0 HS.out.2.1.1
            have hF1 := cellF_1 HS.out.2.1.1
            have dd : ¬ (j : Int) < Ns k ∨ ((j : Int) < Ns k ∧ ¬ j < 5) := by omega
            clear d
            rcases dd with n1 | ⟨n1, n2⟩
            all_goals
              go_wp2
              go_quiet (first | (go_at_call 14; exact Calls.quiet_of_same (rest_still g s2 bad2 w _ HS.out.1)) | (go_at_call 15; exact Calls.quiet_of_same (bad_still g s2 bad2 w _ HS.out.1)))
              go_wp2
              go_roundw
              case rel => exact ⟨k + 1, s2, bad2, by omega, by omega, by go_num, ⟨HS.out.1.drewN _, HS.out.2.1.drewN _, pw_below_drewN HS.out.2.2.1 _, HS.out.2.2.2⟩⟩
              case measure => simp [intOf]; omega
    · have cc : ¬ k < len ∨ (k < len ∧ ¬ k < 40) := by omega
      have HB := Aside0.mk HS.out.2.2.1
      clear c HS
      by_cases z : text.size ≤ 200
      all_goals (rcases cc with n1 | ⟨n1, n2⟩)
      all_goals
        go_wp2_with (first | (go_at_call 16; (first | refine (put_short text _ z).mono ?_ | refine (put_long text _ (by omega)).mono ?_); rintro e1 w6 ⟨rfl, hb⟩; have h2 := Aside0.mk (below_step HB.out hb); clear HB; have HB := h2; clear h2 hb) | (go_at_call 17; (first | refine (rput_short text _ z).mono ?_ | refine (rput_long text _ (by omega)).mono ?_); rintro e1 w7 ⟨rfl, hb⟩; have h2 := Aside0.mk (below_step HB.out hb); clear HB; have HB := h2; clear h2 hb))
        go_ret
        exact ⟨rfl, HB.out⟩

set_option maxHeartbeats 1000000 in
set_option maxRecDepth 100000 in
theorem walk0 (a0 : Option Addr) (cap : Nat) (text : ByteArray) (w : World) (ht : text.size ≤ 140737488351232) :
    Calls Try.prog 3 #[.slice a0 0 cap, .string text] w fun e w' => e = .returned (.bool true) ∧ Below w.heap.size w w' := by
  have HB := Aside0.mk (Below.refl w.heap.size w)
  by_cases z : text.size ≤ 200
  all_goals
    go_enter Try.func3, Try.ntmps3
    go_wp2_with (first | (go_at_call 8; refine (examples_calls _).mono ?_; rintro e1 w1 ⟨rfl, hb⟩; have h2 := Aside0.mk (below_step HB.out hb); clear HB; have HB := h2; clear h2 hb) | (go_at_call 9; refine (new_calls w _ HB.out).mono ?_; rintro e1 w1 ⟨g, rfl, hi, hb, hb2⟩; clear HB; have HB := Aside0.mk hb; clear hi hb hb2))
    have h2 := Aside0.mk (below_alloc HB.out (.cells #[.string ⟨#[]⟩, .bool false] 28))
    clear HB
    have HB := h2
    clear h2
    go_loop [8] (fun v8 => v8 = .int .i64 0) (fun _ => 0)
    case atStart => rfl
    case round =>
      subst hrel
      go_wp2_with (first | (go_at_call 16; (first | refine (put_short text _ z).mono ?_ | refine (put_long text _ (by omega)).mono ?_); rintro e1 w6 ⟨rfl, hb⟩; have h2 := Aside0.mk (below_step HB.out hb); clear HB; have HB := h2; clear h2 hb) | (go_at_call 17; (first | refine (rput_short text _ z).mono ?_ | refine (rput_long text _ (by omega)).mono ?_); rintro e1 w7 ⟨rfl, hb⟩; have h2 := Aside0.mk (below_step HB.out hb); clear HB; have HB := h2; clear h2 hb))
      go_ret
      exact ⟨rfl, HB.out⟩

end Go.Proofs.Ytnphookkinpigaa.Plays
