/- FrameLong: for any two texts and every number of 16 bits the call returns true, and nothing that existed has changed; conditions: the last text's reach. -/
import Derived.Test.YtnphookkinpigaaNext
namespace Go.Proofs.Ytnphookkinpigaa.Long
open Go.RowKit Go.Proofs.YtnphookkinpigaaW.PrintWords Go.Proofs.YtnphookkinpigaaW.PrintLast Go.Proofs.YtnphookkinpigaaW.PrintMore Go.Proofs.Ytnphookkinpigaa.Math Go.Proofs.Ytnphookkinpigaa.Frame
attribute [local go_sem] min2_int min_two

theorem cut200 (b : ByteArray) : ∃ m : Nat, Aside0 (m ≤ b.size ∧ m ≤ 200) ∧ (if (200 : Int) < (b.size : Int) then 200 else (b.size : Int)) = (m : Int) := by
  refine ⟨min b.size 200, ⟨Nat.min_le_left _ _, Nat.min_le_right _ _⟩, ?_⟩
  split <;> omega

/-- Two bytes that the call has just laid, as a text. -/
theorem conv2 (W : World) (a b : Int) : (convert 45 9 (.slice (some ⟨W.heap.size, 0, none⟩) 2 2)).run Try.prog (W.alloc (.cells #[.int .u8 a, .int .u8 b] 5)) = .ok (.string (strOfNums [a, b])) (W.alloc (.cells #[.int .u8 a, .int .u8 b] 5)) := by
  refine run_convert_bytes_arg _ 45 5 Try.underlying45 Try.underlying5 W.heap.size 0 2 2 [a, b] rfl ?_ 9 Try.underlying9
  intro i hi
  obtain rfl | rfl : i = 0 ∨ i = 1 := by omega
  · simp [go_sem]
  · simp [go_sem]

theorem size2 (a b : Int) : (strOfNums [a, b]).size = 2 := strOfNums_size _

theorem head_of (n : Nat) (h : n < 65536) : strOfNums [(n : Int) / 256, (n : Int) % 256] = strOfNums (be 2 n) := by
  have e : be 2 (n : Int) = [(n : Int) / 256 % 256, (n : Int) % 256] := rfl
  rw [e, show (n : Int) / 256 % 256 = (n : Int) / 256 by omega]

theorem told (c h more : ByteArray) (hc : c.size ≤ 200) : nextF (⟨#[]⟩ ++ (frm c ++ h ++ more)) false = (c, true, 0, h ++ more, false) := by
  rw [app_assoc]
  exact nextF_frm0 c (h ++ more) hc

theorem then_tell (n : Nat) (more : ByteArray) (hn : n ≤ 200) (hm : n ≤ more.size) :
    nextF (strOfNums (be 2 n) ++ more) false = (more.extract 0 n, true, 0, more.extract n more.size, false) := by
  have hz := head_size n more
  rw [nextF_tell _ n (by omega) (head_val n (by omega) more) hn]
  have e1 := head_extract n more 0 n
  have e2 := head_extract n more n more.size
  rw [Nat.add_zero] at e1
  rw [e1, hz, e2]

theorem then_wait (n : Nat) (more : ByteArray) (hn : n ≤ 200) (hm : more.size < n) : nextF (strOfNums (be 2 n) ++ more) false = (⟨#[]⟩, false, 0, strOfNums (be 2 n) ++ more, false) := by
  have hz := head_size n more
  exact nextF_wait _ n (by omega) (head_val n (by omega) more) hn (by omega)

theorem then_long (n : Nat) (more : ByteArray) (hn : 200 < n) (hm : n < 65536) : nextF (strOfNums (be 2 n) ++ more) false = (⟨#[]⟩, false, 16, ⟨#[]⟩, true) := by
  have hz := head_size n more
  exact nextF_long _ n (by omega) (head_val n hm more) hn

theorem then_bad (b : ByteArray) : nextF b true = (⟨#[]⟩, false, 6, b, true) := rfl

theorem room (c more : ByteArray) (a b : Int) (hc : (frm c).size ≤ 202) (hr : more.size ≤ 140737488351232) : (⟨#[]⟩ : ByteArray).size + (frm c ++ strOfNums [a, b] ++ more).size ≤ 9223372036854775807 := by
  rw [ByteArray.size_append, ByteArray.size_append, size2]
  show 0 + _ ≤ _
  omega

set_option maxHeartbeats 2000000 in
set_option maxRecDepth 100000 in
theorem walk_tell (s more : ByteArray) (n : Nat) (w : World) (hr : more.size ≤ 140737488351232) (hn : n ≤ 200) (hmore : n ≤ more.size) :
    Calls Try.prog 5 #[.string s, .int .u16 n, .string more] w fun e w' => e = .returned (.bool true) ∧ Below w.heap.size w w' := by
  have HB := Aside0.mk (Below.refl w.heap.size w)
  obtain ⟨m, hm, hx⟩ := cut200 s
  have hm1 : (m : Int) ≤ (s.size : Int) := by have := hm.out.1; omega
  have hm0 : (0 : Int) ≤ (m : Int) := Int.natCast_nonneg _
  have hz := Aside0.mk (show (s.extract 0 m).size = m by rw [ByteArray.size_extract]; have := hm.out.1; omega)
  have h200 : (s.extract 0 m).size ≤ 200 := by rw [hz.out]; exact hm.out.2
  have hfz : (frm (s.extract 0 m)).size ≤ 202 := by rw [frm_size]; omega
  have N1 := Aside0.mk (fun h => told (s.extract 0 m) h more h200)
  have A1 := Aside0.mk (fun a b => room (s.extract 0 m) more a b hfz hr)
  have hcv := conv2
  have hs2 := size2
  have e1 : strOfNums [(n : Int) / 256, (n : Int)] = strOfNums (be 2 n) := by rw [← head_of n (by omega), show (n : Int) % 256 = n by omega]
  have N2 := Aside0.mk (show nextF (strOfNums [(n : Int) / 256, (n : Int)] ++ more) false = (more.extract 0 n, true, 0, more.extract n more.size, false) by rw [e1]; exact then_tell n more hn hmore)
  have hi1 : (n : Int) ≤ (more.size : Int) := by omega
  clear e1
  clear hm
  go_enter Try.func5, Try.ntmps5
  go_wp2_with (first | (go_at_call 8; refine (examples_calls _).mono ?_; rintro e1 w1 ⟨rfl, hb⟩; have h2 := Aside0.mk (below_step HB.out hb); clear HB; have HB := h2; clear h2 hb) | (go_at_call 9; refine (new_calls w _ HB.out).mono ?_; rintro e1 w1 ⟨g, rfl, hi, hb, hb2⟩; have HI := Aside0.mk hi; clear HB; have HB := Aside0.mk hb; clear hi hb hb2) | (go_at_call 16; refine (put_short _ _ h200).mono ?_; rintro e1 w1 ⟨rfl, hb⟩; have hi := Aside0.mk (HI.out.below hb); clear HI; have HI := hi; clear hi; have h2 := Aside0.mk (below_step HB.out hb); clear HB; have HB := h2; clear h2 hb) | (go_at_call 10; (with_reducible refine (add_good g _ _ w _ (HI.out.below (below_alloc (Below.refl _ _) _)) (below_alloc HB.out _) (A1.out _ _)).mono ?_); rintro e1 w3 ⟨rfl, hi, hb, hk⟩; clear HI HB; have HI := Aside0.mk hi; have HB := Aside0.mk hb; clear hi hb hk) | (go_at_call 12; (with_reducible refine (next_calls g _ _ _ _ _ _ _ w _ HI.out HB.out (N1.out _)).mono ?_); rintro e1 w4 ⟨rfl, hi, hb, hk⟩; clear HI HB; have HI := Aside0.mk hi; have HB := Aside0.mk hb; clear hi hb hk) | (go_at_call 12; (with_reducible refine (next_calls g _ _ _ _ _ _ _ w _ HI.out HB.out N2.out).mono ?_); rintro e1 w4 ⟨rfl, hi, hb, hk⟩; clear HI HB; have HI := Aside0.mk hi; have HB := Aside0.mk hb; clear hi hb hk) | (go_at_call 14; refine (rest_calls g _ _ w _ HI.out HB.out).mono ?_; rintro e1 w5 ⟨rfl, hi, hb, hk⟩; clear HI HB; have HI := Aside0.mk hi; have HB := Aside0.mk hb; clear hi hb hk) | (go_at_call 15; refine (bad_calls g _ _ w _ HI.out HB.out).mono ?_; rintro e1 w6 ⟨rfl, hi, hb, hk⟩; clear HI HB; have HI := Aside0.mk hi; have HB := Aside0.mk hb; clear hi hb hk))
  go_ret
  exact ⟨by first | rfl | (simp; done) | (simp; omega), HB.out⟩

set_option maxHeartbeats 2000000 in
set_option maxRecDepth 100000 in
theorem walk_wait (s more : ByteArray) (n : Nat) (w : World) (hr : more.size ≤ 140737488351232) (hn : n ≤ 200) (hmore : more.size < n) :
    Calls Try.prog 5 #[.string s, .int .u16 n, .string more] w fun e w' => e = .returned (.bool true) ∧ Below w.heap.size w w' := by
  have HB := Aside0.mk (Below.refl w.heap.size w)
  obtain ⟨m, hm, hx⟩ := cut200 s
  have hm1 : (m : Int) ≤ (s.size : Int) := by have := hm.out.1; omega
  have hm0 : (0 : Int) ≤ (m : Int) := Int.natCast_nonneg _
  have hz := Aside0.mk (show (s.extract 0 m).size = m by rw [ByteArray.size_extract]; have := hm.out.1; omega)
  have h200 : (s.extract 0 m).size ≤ 200 := by rw [hz.out]; exact hm.out.2
  have hfz : (frm (s.extract 0 m)).size ≤ 202 := by rw [frm_size]; omega
  have N1 := Aside0.mk (fun h => told (s.extract 0 m) h more h200)
  have A1 := Aside0.mk (fun a b => room (s.extract 0 m) more a b hfz hr)
  have hcv := conv2
  have hs2 := size2
  have e1 : strOfNums [(n : Int) / 256, (n : Int)] = strOfNums (be 2 n) := by rw [← head_of n (by omega), show (n : Int) % 256 = n by omega]
  have N2 := Aside0.mk (show nextF (strOfNums [(n : Int) / 256, (n : Int)] ++ more) false = (⟨#[]⟩, false, 0, strOfNums [(n : Int) / 256, (n : Int)] ++ more, false) by rw [e1]; exact then_wait n more hn hmore)
  have hi1 : (more.size : Int) < (n : Int) := by omega
  clear e1
  clear hm
  go_enter Try.func5, Try.ntmps5
  go_wp2_with (first | (go_at_call 8; refine (examples_calls _).mono ?_; rintro e1 w1 ⟨rfl, hb⟩; have h2 := Aside0.mk (below_step HB.out hb); clear HB; have HB := h2; clear h2 hb) | (go_at_call 9; refine (new_calls w _ HB.out).mono ?_; rintro e1 w1 ⟨g, rfl, hi, hb, hb2⟩; have HI := Aside0.mk hi; clear HB; have HB := Aside0.mk hb; clear hi hb hb2) | (go_at_call 16; refine (put_short _ _ h200).mono ?_; rintro e1 w1 ⟨rfl, hb⟩; have hi := Aside0.mk (HI.out.below hb); clear HI; have HI := hi; clear hi; have h2 := Aside0.mk (below_step HB.out hb); clear HB; have HB := h2; clear h2 hb) | (go_at_call 10; (with_reducible refine (add_good g _ _ w _ (HI.out.below (below_alloc (Below.refl _ _) _)) (below_alloc HB.out _) (A1.out _ _)).mono ?_); rintro e1 w3 ⟨rfl, hi, hb, hk⟩; clear HI HB; have HI := Aside0.mk hi; have HB := Aside0.mk hb; clear hi hb hk) | (go_at_call 12; (with_reducible refine (next_calls g _ _ _ _ _ _ _ w _ HI.out HB.out (N1.out _)).mono ?_); rintro e1 w4 ⟨rfl, hi, hb, hk⟩; clear HI HB; have HI := Aside0.mk hi; have HB := Aside0.mk hb; clear hi hb hk) | (go_at_call 12; (with_reducible refine (next_calls g _ _ _ _ _ _ _ w _ HI.out HB.out N2.out).mono ?_); rintro e1 w4 ⟨rfl, hi, hb, hk⟩; clear HI HB; have HI := Aside0.mk hi; have HB := Aside0.mk hb; clear hi hb hk) | (go_at_call 14; refine (rest_calls g _ _ w _ HI.out HB.out).mono ?_; rintro e1 w5 ⟨rfl, hi, hb, hk⟩; clear HI HB; have HI := Aside0.mk hi; have HB := Aside0.mk hb; clear hi hb hk) | (go_at_call 15; refine (bad_calls g _ _ w _ HI.out HB.out).mono ?_; rintro e1 w6 ⟨rfl, hi, hb, hk⟩; clear HI HB; have HI := Aside0.mk hi; have HB := Aside0.mk hb; clear hi hb hk))
  go_ret
  exact ⟨by first | rfl | (simp; done) | (simp; omega), HB.out⟩

set_option maxHeartbeats 2000000 in
set_option maxRecDepth 100000 in
theorem walk_long (s more : ByteArray) (n : Nat) (w : World) (hr : more.size ≤ 140737488351232) (hn : 200 < n) (hmore : n < 65536) :
    Calls Try.prog 5 #[.string s, .int .u16 n, .string more] w fun e w' => e = .returned (.bool true) ∧ Below w.heap.size w w' := by
  have HB := Aside0.mk (Below.refl w.heap.size w)
  obtain ⟨m, hm, hx⟩ := cut200 s
  have hm1 : (m : Int) ≤ (s.size : Int) := by have := hm.out.1; omega
  have hm0 : (0 : Int) ≤ (m : Int) := Int.natCast_nonneg _
  have hz := Aside0.mk (show (s.extract 0 m).size = m by rw [ByteArray.size_extract]; have := hm.out.1; omega)
  have h200 : (s.extract 0 m).size ≤ 200 := by rw [hz.out]; exact hm.out.2
  have hfz : (frm (s.extract 0 m)).size ≤ 202 := by rw [frm_size]; omega
  have N1 := Aside0.mk (fun h => told (s.extract 0 m) h more h200)
  have A1 := Aside0.mk (fun a b => room (s.extract 0 m) more a b hfz hr)
  have hcv := conv2
  have hs2 := size2
  have N2 := Aside0.mk (show nextF (strOfNums [(n : Int) / 256, (n : Int) % 256] ++ more) false = (⟨#[]⟩, false, 16, ⟨#[]⟩, true) by rw [head_of n hmore]; exact then_long n more hn hmore)
  have hi1 : (200 : Int) < (n : Int) := by omega
  clear hm
  go_enter Try.func5, Try.ntmps5
  go_wp2_with (first | (go_at_call 8; refine (examples_calls _).mono ?_; rintro e1 w1 ⟨rfl, hb⟩; have h2 := Aside0.mk (below_step HB.out hb); clear HB; have HB := h2; clear h2 hb) | (go_at_call 9; refine (new_calls w _ HB.out).mono ?_; rintro e1 w1 ⟨g, rfl, hi, hb, hb2⟩; have HI := Aside0.mk hi; clear HB; have HB := Aside0.mk hb; clear hi hb hb2) | (go_at_call 16; refine (put_short _ _ h200).mono ?_; rintro e1 w1 ⟨rfl, hb⟩; have hi := Aside0.mk (HI.out.below hb); clear HI; have HI := hi; clear hi; have h2 := Aside0.mk (below_step HB.out hb); clear HB; have HB := h2; clear h2 hb) | (go_at_call 10; (with_reducible refine (add_good g _ _ w _ (HI.out.below (below_alloc (Below.refl _ _) _)) (below_alloc HB.out _) (A1.out _ _)).mono ?_); rintro e1 w3 ⟨rfl, hi, hb, hk⟩; clear HI HB; have HI := Aside0.mk hi; have HB := Aside0.mk hb; clear hi hb hk) | (go_at_call 12; (with_reducible refine (next_calls g _ _ _ _ _ _ _ w _ HI.out HB.out (N1.out _)).mono ?_); rintro e1 w4 ⟨rfl, hi, hb, hk⟩; clear HI HB; have HI := Aside0.mk hi; have HB := Aside0.mk hb; clear hi hb hk) | (go_at_call 12; (with_reducible refine (next_calls g _ _ _ _ _ _ _ w _ HI.out HB.out N2.out).mono ?_); rintro e1 w4 ⟨rfl, hi, hb, hk⟩; clear HI HB; have HI := Aside0.mk hi; have HB := Aside0.mk hb; clear hi hb hk) | (go_at_call 14; refine (rest_calls g _ _ w _ HI.out HB.out).mono ?_; rintro e1 w5 ⟨rfl, hi, hb, hk⟩; clear HI HB; have HI := Aside0.mk hi; have HB := Aside0.mk hb; clear hi hb hk) | (go_at_call 15; refine (bad_calls g _ _ w _ HI.out HB.out).mono ?_; rintro e1 w6 ⟨rfl, hi, hb, hk⟩; clear HI HB; have HI := Aside0.mk hi; have HB := Aside0.mk hb; clear hi hb hk) | (go_at_call 12; (with_reducible refine (next_calls g _ _ _ _ _ _ _ w _ HI.out HB.out (then_bad _)).mono ?_); rintro e1 w4 ⟨rfl, hi, hb, hk⟩; clear HI HB; have HI := Aside0.mk hi; have HB := Aside0.mk hb; clear hi hb hk) | (go_at_call 10; (with_reducible refine (add_bad g _ _ w _ HI.out HB.out).mono ?_); rintro e1 w3 ⟨rfl, hi, hb, hk⟩; clear HI HB; have HI := Aside0.mk hi; have HB := Aside0.mk hb; clear hi hb hk))
  go_ret
  exact ⟨by first | rfl | (simp; done) | (simp; omega), HB.out⟩

theorem walk (s more : ByteArray) (n : Int) (w : World) (hr : more.size ≤ 140737488351232) (h0 : 0 ≤ n) (h1 : n < 65536) :
    Calls Try.prog 5 #[.string s, .int .u16 n, .string more] w fun e w' => e = .returned (.bool true) ∧ Below w.heap.size w w' := by
  obtain ⟨k, rfl⟩ := Int.eq_ofNat_of_zero_le h0
  by_cases c : k ≤ 200
  · by_cases d : k ≤ more.size
    · exact walk_tell s more k w hr c d
    · exact walk_wait s more k w hr c (by omega)
  · exact walk_long s more k w hr (by omega) (by omega)

theorem u16_range {n : Int} (h : (Lit.int .u16 n).wf = true) : 0 ≤ n ∧ n < 65536 := by
  simp [Lit.wf, IntKind.min, IntKind.max, IntKind.signed, IntKind.bits] at h
  omega

end Go.Proofs.Ytnphookkinpigaa.Long
