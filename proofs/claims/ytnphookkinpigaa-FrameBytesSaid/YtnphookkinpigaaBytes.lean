/- FrameBytes: for any text the call returns true, and nothing that existed has changed; conditions: the text's reach. -/
import Derived.Test.YtnphookkinpigaaNext
namespace Go.Proofs.Ytnphookkinpigaa.Bytes
open Go.RowKit Go.Proofs.YtnphookkinpigaaW.PrintWords Go.Proofs.YtnphookkinpigaaW.PrintLast Go.Proofs.YtnphookkinpigaaW.PrintMore Go.Proofs.Ytnphookkinpigaa.Math Go.Proofs.Ytnphookkinpigaa.Frame
attribute [local go_sem] min2_int min_two

theorem cut200 (b : ByteArray) : ∃ m : Nat, Aside0 (m ≤ b.size ∧ m ≤ 200) ∧ (if (200 : Int) < (b.size : Int) then 200 else (b.size : Int)) = (m : Int) := by
  refine ⟨min b.size 200, ⟨Nat.min_le_left _ _, Nat.min_le_right _ _⟩, ?_⟩
  split <;> omega

/-- The reader's bytes ahead of byte k. -/
def upto (f : ByteArray) (k : Nat) : ByteArray := if k < f.size then f.extract 0 k else ⟨#[]⟩

theorem upto_lt (f : ByteArray) (k : Nat) (h : k < f.size) : upto f k = f.extract 0 k := by rw [upto, if_pos h]
theorem upto_end (f : ByteArray) : upto f f.size = ⟨#[]⟩ := by rw [upto, if_neg (by omega)]
theorem upto_0 (f : ByteArray) : upto f 0 = ⟨#[]⟩ := by
  rw [upto]
  split
  · apply of_bytesOf
    rw [extract_bytesOf]
    rfl
  · rfl

theorem step (f : ByteArray) (k : Nat) : f.extract 0 k ++ f.extract k (k + 1) = f.extract 0 (k + 1) := by
  apply of_bytesOf
  rw [bytesOf_append, extract_bytesOf, extract_bytesOf, extract_bytesOf, List.drop_zero, Nat.sub_zero, Nat.sub_zero, Nat.add_sub_cancel_left, List.take_add]

theorem whole (f : ByteArray) : f.extract 0 f.size = f := by
  apply of_bytesOf
  rw [extract_bytesOf, List.drop_zero, Nat.sub_zero, List.take_of_length_le (by rw [bytesOf_length]; exact Nat.le_refl _)]

theorem not_last (c : ByteArray) (hc : c.size ≤ 200) (k : Nat) (h : k + 1 < (frm c).size) :
    nextF ((frm c).extract 0 k ++ (frm c).extract k (k + 1)) false = (⟨#[]⟩, false, 0, upto (frm c) (k + 1), false) := by
  have hz := frm_size c
  rw [step, upto_lt _ _ h]
  exact nextF_part _ c ⟨#[]⟩ hc (k + 1) (by omega) (by rw [app_empty])

theorem last (c : ByteArray) (hc : c.size ≤ 200) (k : Nat) (h : k + 1 = (frm c).size) :
    nextF ((frm c).extract 0 k ++ (frm c).extract k (k + 1)) false = (c, true, 0, upto (frm c) (k + 1), false) := by
  rw [step, h, whole, upto_end]
  have := nextF_frm c ⟨#[]⟩ hc
  rw [app_empty] at this
  exact this

theorem upto_size (f : ByteArray) (k : Nat) (h : k < f.size) : (upto f k).size = k := by
  rw [upto_lt f k h, ByteArray.size_extract]
  omega

set_option maxHeartbeats 2000000 in
set_option maxRecDepth 100000 in
theorem walk (s : ByteArray) (w : World) (hr : s.size ≤ 140737488351232) :
    Calls Try.prog 7 #[.string s] w fun e w' => e = .returned (.bool true) ∧ Below w.heap.size w w' := by
  have HB := Aside0.mk (Below.refl w.heap.size w)
  obtain ⟨m, hm, hx⟩ := cut200 s
  have hm1 : (m : Int) ≤ (s.size : Int) := by have := hm.out.1; omega
  have hm0 : (0 : Int) ≤ (m : Int) := Int.natCast_nonneg _
  have hz := Aside0.mk (show (s.extract 0 m).size = m by rw [ByteArray.size_extract]; have := hm.out.1; omega)
  have h200 : (s.extract 0 m).size ≤ 200 := by rw [hz.out]; exact hm.out.2
  have hfz := Aside0.mk (frm_size (s.extract 0 m))
  have hf2 : (frm (s.extract 0 m)).size ≤ 202 := by rw [hfz.out]; omega
  clear hm
  go_enter Try.func7, Try.ntmps7
  go_wp2_with (first | (go_at_call 8; refine (examples_calls _).mono ?_; rintro e1 w1 ⟨rfl, hb⟩; have h2 := Aside0.mk (below_step HB.out hb); clear HB; have HB := h2; clear h2 hb) | (go_at_call 9; refine (new_calls w _ HB.out).mono ?_; rintro e1 w1 ⟨g, rfl, hi, hb, hb2⟩; have HI := Aside0.mk hi; clear HB; have HB := Aside0.mk hb; clear hi hb hb2) | (go_at_call 16; refine (put_short _ _ h200).mono ?_; rintro e1 w1 ⟨rfl, hb⟩; have hi := Aside0.mk (HI.out.below hb); clear HI; have HI := hi; clear hi; have h2 := Aside0.mk (below_step HB.out hb); clear HB; have HB := h2; clear h2 hb))
  go_loopw [7] (fun v6 W => ∃ k : Nat, k ≤ (frm (s.extract 0 m)).size ∧ v6 = .int .i64 k ∧ Aside0 (Rdr w W g (upto (frm (s.extract 0 m)) k) false) ∧ Aside0 (Below w.heap.size w W)) (fun v6 _ => (frm (s.extract 0 m)).size - (intOf v6).toNat)
  case atStart => exact ⟨0, Nat.zero_le _, rfl, by rw [upto_0]; exact HI, HB⟩
  case round =>
    clear HB HI
    obtain ⟨k, k1, rfl, HI, HB⟩ := hrel
    have hk0 : (0 : Int) ≤ (k : Int) := Int.natCast_nonneg _
    by_cases c : k < (frm (s.extract 0 m)).size
    · have hi2 := HI.out
      rw [upto_lt _ _ c] at hi2
      clear HI
      have HI := Aside0.mk hi2
      clear hi2
      have hk1 : (k : Int) + 1 ≤ ((frm (s.extract 0 m)).size : Int) := by omega
      have g1 : (k : Int) ≤ (k : Int) + 1 := by omega
      have g3 : ((k : Int) + 1).toNat = k + 1 := by omega
      have g4 : (0 : Int) ≤ (k : Int) + 1 := by omega
      have A1 := Aside0.mk (show ((frm (s.extract 0 m)).extract 0 k).size + ((frm (s.extract 0 m)).extract k (k + 1)).size ≤ 9223372036854775807 by rw [ByteArray.size_extract, ByteArray.size_extract]; omega)
      by_cases d : k + 1 = (frm (s.extract 0 m)).size
      · have N1 := Aside0.mk (last (s.extract 0 m) h200 k d)
        have d1 : ((k : Int) == ((frm (s.extract 0 m)).size : Int) - 1) = true := by rw [beq_iff_eq]; omega
        have d2 : ((frm (s.extract 0 m)).size : Int) - 1 ≤ (k : Int) := by omega
        clear d
        go_wp2_with (first | (go_at_call 10; refine (add_good g _ _ w _ HI.out HB.out A1.out).mono ?_; rintro e1 w3 ⟨rfl, hi, hb, hk⟩; clear HI HB; have HI := Aside0.mk hi; have HB := Aside0.mk hb; clear hi hb hk) | (go_at_call 12; refine (next_calls g _ _ _ _ _ _ _ w _ HI.out HB.out N1.out).mono ?_; rintro e1 w4 ⟨rfl, hi, hb, hk⟩; clear HI HB; have HI := Aside0.mk hi; have HB := Aside0.mk hb; clear hi hb hk) | (go_at_call 14; refine (rest_calls g _ _ w _ HI.out HB.out).mono ?_; rintro e1 w5 ⟨rfl, hi, hb, hk⟩; clear HI HB; have HI := Aside0.mk hi; have HB := Aside0.mk hb; clear hi hb hk))
        go_roundw
        case rel => exact ⟨k + 1, by omega, by go_num, HI, HB⟩
        case measure => simp [intOf]; omega
      · have N1 := Aside0.mk (not_last (s.extract 0 m) h200 k (by omega))
        have d1 : ((k : Int) == ((frm (s.extract 0 m)).size : Int) - 1) = false := by rw [beq_eq_false_iff_ne]; omega
        have d2 : (k : Int) + 2 ≤ ((frm (s.extract 0 m)).size : Int) := by omega
        have d3 : (upto (frm (s.extract 0 m)) (k + 1)).size = k + 1 := upto_size _ _ (by omega)
        clear d
        go_wp2_with (first | (go_at_call 10; refine (add_good g _ _ w _ HI.out HB.out A1.out).mono ?_; rintro e1 w3 ⟨rfl, hi, hb, hk⟩; clear HI HB; have HI := Aside0.mk hi; have HB := Aside0.mk hb; clear hi hb hk) | (go_at_call 12; refine (next_calls g _ _ _ _ _ _ _ w _ HI.out HB.out N1.out).mono ?_; rintro e1 w4 ⟨rfl, hi, hb, hk⟩; clear HI HB; have HI := Aside0.mk hi; have HB := Aside0.mk hb; clear hi hb hk) | (go_at_call 14; refine (rest_calls g _ _ w _ HI.out HB.out).mono ?_; rintro e1 w5 ⟨rfl, hi, hb, hk⟩; clear HI HB; have HI := Aside0.mk hi; have HB := Aside0.mk hb; clear hi hb hk))
        go_roundw
        case rel => exact ⟨k + 1, by omega, by go_num, HI, HB⟩
        case measure => simp [intOf]; omega
    · have e : k = (frm (s.extract 0 m)).size := by omega
      subst e
      have hi2 := HI.out
      rw [upto_end] at hi2
      clear HI
      have HI := Aside0.mk hi2
      clear hi2
      clear c k1
      go_wp2_with (first | (go_at_call 14; refine (rest_calls g _ _ w _ HI.out HB.out).mono ?_; rintro e1 w5 ⟨rfl, hi, hb, hk⟩; clear HI HB; have HI := Aside0.mk hi; have HB := Aside0.mk hb; clear hi hb hk))
      · go_ret
        exact ⟨rfl, HB.out⟩
      · exfalso
        have q := hfz.out
        rw [ByteArray.size_extract] at q
        omega

end Go.Proofs.Ytnphookkinpigaa.Bytes
