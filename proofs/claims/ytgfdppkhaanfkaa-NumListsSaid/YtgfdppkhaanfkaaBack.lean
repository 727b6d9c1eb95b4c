/- NumBack: for every number of 64 bits, every size and any two texts the call returns true, and nothing that existed has changed; conditions: the kinds' own bounds and the texts' reach. -/
import Derived.Test.YtgfdppkhaanfkaaPureNumReads
namespace Go.Proofs.Ytgfdppkhaanfkaa.Back
open Go.RowKit Go.Proofs.Ytgfdppkhaanfkaa.PNumReads Go.Proofs.YtgfdppkhaanfkaaW.PrintWords Go.Proofs.YtgfdppkhaanfkaaW.PrintLast Go.Proofs.YtgfdppkhaanfkaaW.PrintMore Go.Proofs.Ytgfdppkhaanfkaa.Math Go.Proofs.Ytgfdppkhaanfkaa.Pure

theorem bytes_size (b : ByteArray) : (bytesOf b).length = b.size := bytesOf_length b

theorem extract_append (a b : ByteArray) (n : Nat) (h : a.size = n) : (a ++ b).extract n (a ++ b).size = b := by
  apply of_bytesOf
  rw [extract_bytesOf, bytesOf_append, List.drop_left' (by rw [bytesOf_length, h]), List.take_of_length_le]
  rw [bytesOf_length, ByteArray.size_append]
  omega

theorem take_append (a b : ByteArray) (n : Nat) (h : a.size = n) : (bytesOf (a ++ b)).take n = bytesOf a := by
  rw [bytesOf_append, List.take_left' (by rw [bytesOf_length, h])]

theorem take_put (n : Int) (s : Nat) (rest : ByteArray) (h0 : 0 ≤ n) (s1 : 1 ≤ s) (s8 : s ≤ 8) (hn : n < 256 ^ s) :
    num_Take.f 10 (strOfNums (be s n) ++ rest) s = some (n, rest, 0) := by
  have e : (strOfNums (be s n)).size = s := by rw [strOfNums_size, be_length]
  rw [take_some 10 _ s s1 s8 (by rw [ByteArray.size_append, e]; omega) (Nat.le_refl _), extract_append _ _ s e, take_append _ _ s e, bytesOf_str _ (be_byte s n), val_be s n h0 hn]

theorem taketext_text (s rest : ByteArray) (h : s.size ≤ 255) : num_TakeText.f (strOfNums [(s.size : Int)] ++ s ++ rest) = some (s, rest, 0) := by
  have e1 : (strOfNums [(s.size : Int)]).size = 1 := by rw [strOfNums_size]; rfl
  have hby : Byte [(s.size : Int)] := by
    intro x hx
    rw [List.mem_singleton] at hx
    omega
  have e2 : bt (strOfNums [(s.size : Int)] ++ s ++ rest) 0 = (s.size : Int) := by
    rw [← rd_bytesOf, bytesOf_append, bytesOf_append, bytesOf_str _ hby]
    rfl
  have e3 : (strOfNums [(s.size : Int)] ++ s ++ rest).size = 1 + s.size + rest.size := by rw [ByteArray.size_append, ByteArray.size_append, e1]
  rw [taketext_some _ s.size e2 (by omega) (by omega), extract_append _ rest (s.size + 1) (by rw [ByteArray.size_append, e1]; omega)]
  have e4 : (strOfNums [(s.size : Int)] ++ s ++ rest).extract 1 (s.size + 1) = s := by
    apply of_bytesOf
    rw [extract_bytesOf, bytesOf_append, bytesOf_append, bytesOf_str _ hby, List.append_assoc, List.singleton_append, List.drop_succ_cons, List.drop_zero, Nat.add_sub_cancel, List.take_left' (bytesOf_length s)]
  rw [e4]

theorem put_take (b : ByteArray) (s : Nat) (s1 : 1 ≤ s) (s8 : s ≤ 8) (hb : s ≤ b.size) :
    ∃ t, num_Put.f 10 (val ((bytesOf b).take s)) s = some (t, 0) ∧ t ++ b.extract s b.size = b := by
  have hl : ((bytesOf b).take s).length = s := by rw [List.length_take, bytesOf_length]; omega
  have hr := val_range _ (byte_take (bytesOf_byte b) s)
  rw [hl] at hr
  refine ⟨strOfNums ((bytesOf b).take s), ?_, ?_⟩
  · rw [put_some 10 _ s hr.1 s1 s8 (Nat.le_refl _), if_pos hr.2, be_val s _ hl (byte_take (bytesOf_byte b) s)]
  · apply of_bytesOf
    rw [bytesOf_append, bytesOf_str _ (byte_take (bytesOf_byte b) s), extract_bytesOf, List.take_of_length_le (l := (bytesOf b).drop s) (by rw [List.length_drop, bytesOf_length]; omega), List.take_append_drop]

/-- What Put tells of a number, and Take of what Put wrote. -/
theorem first (n size : Int) (rest : ByteArray) (h0 : 0 ≤ n) : ∃ t e, num_Put.f 10 n size = some (t, e) ∧ t.size ≤ 8 ∧
    ((e = 0 ∧ size = (t.size : Int) ∧ num_Take.f 10 (t ++ rest) size = some (n, rest, 0)) ∨ e = 1) := by
  by_cases c : size < 1 ∨ 8 < size
  · exact ⟨_, _, put_none 10 n size c (Nat.le_refl _), by decide, .inr rfl⟩
  · obtain ⟨s, rfl⟩ := Int.eq_ofNat_of_zero_le (show 0 ≤ size by omega)
    have h := put_some 10 n s h0 (by omega) (by omega) (Nat.le_refl _)
    by_cases d : n < 256 ^ s
    · rw [if_pos d] at h
      have e : (strOfNums (be s n)).size = s := by rw [strOfNums_size, be_length]
      exact ⟨_, _, h, by omega, .inl ⟨rfl, by omega, take_put n s rest h0 (by omega) (by omega) d⟩⟩
    · rw [if_neg d] at h
      exact ⟨_, _, h, by decide, .inr rfl⟩

theorem second (s rest : ByteArray) : ∃ t g, num_Text.f s = some (t, g) ∧ t.size ≤ 256 ∧
    ((g = 0 ∧ s.size ≤ 255 ∧ t.size = s.size + 1 ∧ num_TakeText.f (t ++ rest) = some (s, rest, 0)) ∨ (g = 16 ∧ 255 < s.size)) := by
  by_cases c : s.size ≤ 255
  · have e1 : (strOfNums [(s.size : Int)] ++ s).size = s.size + 1 := by rw [ByteArray.size_append, strOfNums_size, List.length_singleton]; omega
    exact ⟨_, _, text_short s c, by omega, .inl ⟨rfl, c, e1, taketext_text s rest c⟩⟩
  · exact ⟨_, _, text_long s (by omega), by decide, .inr ⟨rfl, by omega⟩⟩

theorem third (size : Int) (rest : ByteArray) : ∃ k left h t i, num_Take.f 10 rest size = some (k, left, h) ∧ num_Put.f 10 k size = some (t, i) ∧ t.size ≤ 8 ∧ left.size ≤ rest.size ∧
    ((h = 0 ∧ i = 0 ∧ t ++ left = rest) ∨ h = 1 ∨ h = 2) := by
  have hp : ∀ k, ∃ t i, num_Put.f 10 0 k = some (t, i) ∧ t.size ≤ 8 := fun k => by
    obtain ⟨t, i, h, h2, _⟩ := first 0 k ⟨#[]⟩ (by decide)
    exact ⟨t, i, h, h2⟩
  obtain ⟨t, i, hp1, hp2⟩ := hp size
  by_cases c : size < 1 ∨ 8 < size
  · exact ⟨_, _, _, t, i, take_none 10 rest size c (Nat.le_refl _), hp1, hp2, Nat.zero_le _, .inr (.inl rfl)⟩
  · by_cases d : (rest.size : Int) < size
    · exact ⟨_, _, _, t, i, take_short 10 rest size (by omega) (by omega) d (Nat.le_refl _), hp1, hp2, Nat.zero_le _, .inr (.inr rfl)⟩
    · obtain ⟨s, rfl⟩ := Int.eq_ofNat_of_zero_le (show 0 ≤ size by omega)
      obtain ⟨t', h1, h2⟩ := put_take rest s (by omega) (by omega) (by omega)
      have hsz := congrArg ByteArray.size h2
      rw [ByteArray.size_append, ByteArray.size_extract] at hsz
      exact ⟨_, _, _, t', 0, take_some 10 rest s (by omega) (by omega) (by omega) (Nat.le_refl _), h1, by omega, by rw [ByteArray.size_extract]; omega, .inl ⟨rfl, rfl, h2⟩⟩

set_option maxHeartbeats 2000000 in
set_option maxRecDepth 100000 in
theorem walk (n size : Int) (s rest : ByteArray) (h0 : 0 ≤ n) (ws : s.size ≤ 140737488351232) (wr : rest.size ≤ 140737488351232) (w : World) :
    Calls Try.prog 9 #[.int .u64 n, .int .i64 size, .string s, .string rest] w fun e w' => e = .returned (.bool true) ∧ Below w.heap.size w w' := by
  have HE := Aside0.mk (examples_true 10 (Nat.le_refl _))
  obtain ⟨tb, e, p1, z1, f1⟩ := first n size rest h0
  obtain ⟨tt, g, p2, z2, f2⟩ := second s rest
  obtain ⟨k, left, h, ta, i, p3, p4, z3, z4, f3⟩ := third size rest
  have P1 := Aside0.mk p1
  have P2 := Aside0.mk p2
  have P3 := Aside0.mk p3
  have P4 := Aside0.mk p4
  clear p1 p2 p3 p4
  have HB := Aside0.mk (Below.refl w.heap.size w)
  rcases f1 with ⟨rfl, rfl, p5⟩ | rfl
  all_goals (rcases f2 with ⟨rfl, s1, s2, p6⟩ | ⟨rfl, s1⟩)
  all_goals (rcases f3 with ⟨rfl, rfl, q⟩ | rfl | rfl)
  all_goals
    (try (have P5 := Aside0.mk p5; clear p5))
    (try (have P6 := Aside0.mk p6; have g1 : ((tt.size : Int) != (s.size : Int) + 1) = false := (by rw [bne_eq_false_iff_eq]; omega); clear p6 s2))
    (try (have g2 : ((ta ++ left).toList == rest.toList) = true := (by rw [q]; exact beq_self_eq_true _); clear q))
    go_enter Try.func9, Try.ntmps9
    go_wp2_with (first | (go_at_call 10; refine (bailiwicklaw01_examples.calls 10 true _ HE.out).mono ?_; rintro e1 w1 ⟨rfl, hb⟩; have hn := Aside0.mk (below_step HB.out hb); clear hb HB; have HB := hn; clear hn) | (go_at_call 11; (with_reducible refine (num_Put.calls 10 n _ _ _ _ P1.out).mono ?_); rintro e1 w2 ⟨rfl, hb⟩; have hn := Aside0.mk (below_step HB.out hb); clear hb HB; have HB := hn; clear hn) | (go_at_call 16; (with_reducible refine (num_Take.calls 10 (tb ++ rest) _ _ _ _ _ P5.out).mono ?_); rintro e1 w3 ⟨rfl, hb⟩; have hn := Aside0.mk (below_step HB.out hb.below); clear hb HB; have HB := hn; clear hn) | (go_at_call 13; (with_reducible refine (num_Text.calls s _ _ _ P2.out).mono ?_); rintro e1 w4 ⟨rfl, hb⟩; have hn := Aside0.mk (below_step HB.out hb); clear hb HB; have HB := hn; clear hn) | (go_at_call 15; (with_reducible refine (num_TakeText.calls (tt ++ rest) _ _ _ _ P6.out).mono ?_); rintro e1 w5 ⟨rfl, hb⟩; have hn := Aside0.mk (below_step HB.out hb.below); clear hb HB; have HB := hn; clear hn) | (go_at_call 16; (with_reducible refine (num_Take.calls 10 rest _ _ _ _ _ P3.out).mono ?_); rintro e1 w6 ⟨rfl, hb⟩; have hn := Aside0.mk (below_step HB.out hb.below); clear hb HB; have HB := hn; clear hn) | (go_at_call 11; (with_reducible refine (num_Put.calls 10 k _ _ _ _ P4.out).mono ?_); rintro e1 w7 ⟨rfl, hb⟩; have hn := Aside0.mk (below_step HB.out hb); clear hb HB; have HB := hn; clear hn))
    go_ret
    exact ⟨by first | rfl | (simp; omega), HB.out⟩
end Go.Proofs.Ytgfdppkhaanfkaa.Back
