/- FrameBack: for any two texts the call returns true, and nothing that existed has changed; conditions: the second text's reach. -/
import Derived.Test.YtnphookkinpigaaNext
namespace Go.Proofs.Ytnphookkinpigaa.Back
open Go.RowKit Go.Proofs.YtnphookkinpigaaW.PrintWords Go.Proofs.YtnphookkinpigaaW.PrintLast Go.Proofs.YtnphookkinpigaaW.PrintMore Go.Proofs.Ytnphookkinpigaa.Math Go.Proofs.Ytnphookkinpigaa.Frame
attribute [local go_sem] min2_int min_two

theorem cut1 (b : ByteArray) : ∃ m : Nat, Aside0 (m ≤ b.size ∧ m ≤ 1) ∧ (if (1 : Int) < (b.size : Int) then 1 else (b.size : Int)) = (m : Int) := by
  refine ⟨min b.size 1, ⟨Nat.min_le_left _ _, Nat.min_le_right _ _⟩, ?_⟩
  split <;> omega

set_option maxHeartbeats 1000000 in
set_option maxRecDepth 100000 in
theorem walk_long (s more : ByteArray) (w : World) (h : 200 < s.size) :
    Calls Try.prog 6 #[.string s, .string more] w fun e w' => e = .returned (.bool true) ∧ Below w.heap.size w w' := by
  have HB := Aside0.mk (Below.refl w.heap.size w)
  go_enter Try.func6, Try.ntmps6
  go_wp2_with (first | (go_at_call 8; refine (examples_calls _).mono ?_; rintro e1 w1 ⟨rfl, hb⟩; have h2 := Aside0.mk (below_step HB.out hb); clear HB; have HB := h2; clear h2 hb) | (go_at_call 9; refine (new_calls w _ HB.out).mono ?_; rintro e1 w1 ⟨g, rfl, hi, hb, hb2⟩; clear HB; have HB := Aside0.mk hb; clear hi hb hb2) | (go_at_call 16; refine (put_long s _ h).mono ?_; rintro e1 w1 ⟨rfl, hb⟩; have h2 := Aside0.mk (below_step HB.out hb); clear HB; have HB := h2; clear h2 hb))
  go_ret
  exact ⟨rfl, HB.out⟩

set_option maxHeartbeats 2000000 in
set_option maxRecDepth 100000 in
theorem walk_short (s more : ByteArray) (w : World) (h : s.size ≤ 200) (hr : more.size ≤ 140737488351232) :
    Calls Try.prog 6 #[.string s, .string more] w fun e w' => e = .returned (.bool true) ∧ Below w.heap.size w w' := by
  have HB := Aside0.mk (Below.refl w.heap.size w)
  obtain ⟨m, hm, hx⟩ := cut1 more
  have hm1 : (m : Int) ≤ (more.size : Int) := by have := hm.out.1; omega
  have hm0 : (0 : Int) ≤ (m : Int) := Int.natCast_nonneg _
  have hz := Aside0.mk (show (more.extract 0 m).size = m by rw [ByteArray.size_extract]; have := hm.out.1; omega)
  have hz2 : (more.extract 0 m).size ≤ 1 := by rw [hz.out]; exact hm.out.2
  have hfz : (frm s).size ≤ 202 := by rw [frm_size]; omega
  have N1 := Aside0.mk (nextF_frm0 s (more.extract 0 m) h)
  have N2 := Aside0.mk (nextF_short (more.extract 0 m) (by omega))
  have A1 := Aside0.mk (show (⟨#[]⟩ : ByteArray).size + (frm s ++ more.extract 0 m).size ≤ 9223372036854775807 by rw [ByteArray.size_append]; show 0 + _ ≤ _; omega)
  clear hm
  go_enter Try.func6, Try.ntmps6
  go_wp2_with (first | (go_at_call 8; refine (examples_calls _).mono ?_; rintro e1 w1 ⟨rfl, hb⟩; have h2 := Aside0.mk (below_step HB.out hb); clear HB; have HB := h2; clear h2 hb) | (go_at_call 9; refine (new_calls w _ HB.out).mono ?_; rintro e1 w1 ⟨g, rfl, hi, hb, hb2⟩; have HI := Aside0.mk hi; clear HB; have HB := Aside0.mk hb; clear hi hb hb2) | (go_at_call 16; refine (put_short s _ h).mono ?_; rintro e1 w1 ⟨rfl, hb⟩; have hi := Aside0.mk (HI.out.below hb); clear HI; have HI := hi; clear hi; have h2 := Aside0.mk (below_step HB.out hb); clear HB; have HB := h2; clear h2 hb) | (go_at_call 10; (with_reducible refine (add_good g _ _ w _ HI.out HB.out A1.out).mono ?_); rintro e1 w3 ⟨rfl, hi, hb, hk⟩; clear HI HB; have HI := Aside0.mk hi; have HB := Aside0.mk hb; clear hi hb hk) | (go_at_call 12; (with_reducible refine (next_calls g _ _ _ _ _ _ _ w _ HI.out HB.out N1.out).mono ?_); rintro e1 w4 ⟨rfl, hi, hb, hk⟩; clear HI HB; have HI := Aside0.mk hi; have HB := Aside0.mk hb; clear hi hb hk) | (go_at_call 12; (with_reducible refine (next_calls g _ _ _ _ _ _ _ w _ HI.out HB.out N2.out).mono ?_); rintro e1 w4 ⟨rfl, hi, hb, hk⟩; clear HI HB; have HI := Aside0.mk hi; have HB := Aside0.mk hb; clear hi hb hk) | (go_at_call 14; refine (rest_calls g _ _ w _ HI.out HB.out).mono ?_; rintro e1 w5 ⟨rfl, hi, hb, hk⟩; clear HI HB; have HI := Aside0.mk hi; have HB := Aside0.mk hb; clear hi hb hk))
  go_ret
  exact ⟨by first | rfl | simp, HB.out⟩

theorem walk (s more : ByteArray) (w : World) (hr : more.size ≤ 140737488351232) :
    Calls Try.prog 6 #[.string s, .string more] w fun e w' => e = .returned (.bool true) ∧ Below w.heap.size w w' := by
  by_cases h : s.size ≤ 200
  · exact walk_short s more w h hr
  · exact walk_long s more w (by omega)

end Go.Proofs.Ytnphookkinpigaa.Back
