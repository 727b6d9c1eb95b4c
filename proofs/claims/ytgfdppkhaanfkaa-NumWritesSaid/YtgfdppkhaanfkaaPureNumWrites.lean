/- NumWrites over numbers and bytes: for every number of 64 bits, every size and every text Put and Text answer as the document's answer does; conditions: none beyond the kinds' own bounds and the text's reach. -/
import Derived.Test.YtgfdppkhaanfkaaPNumWritesx1
import Derived.Test.YtgfdppkhaanfkaaMath
namespace Go.Proofs.Ytgfdppkhaanfkaa.Pure
open Go.RowKit Go.Proofs.Ytgfdppkhaanfkaa.PNumWrites Go.Proofs.YtgfdppkhaanfkaaW.PrintWords Go.Proofs.YtgfdppkhaanfkaaW.PrintLast Go.Proofs.YtgfdppkhaanfkaaW.PrintMore Go.Proofs.Ytgfdppkhaanfkaa.Math

/-! Put: the loop, and the whole -/
theorem div_div (n : Int) (d : Nat) : n / 256 / 256 ^ d = n / 256 ^ (d + 1) := by
  rw [Int.ediv_ediv_of_nonneg (by decide), Int.pow_succ, Int.mul_comm]

theorem drop_set_at (L : List Int) (d : Nat) (x : Int) (h : d < L.length) : (L.set d x).drop d = x :: L.drop (d + 1) := by
  rw [List.drop_eq_getElem_cons (by simpa using h)]
  simp [List.drop_set]

theorem put_loop (s : Nat) (hs : s ≤ 8) (d : Nat) : ∀ (k : Nat) (n : Int) (L : List Int), d ≤ s → L.length = s → d < k →
    num_Put.l0 k n s L s ((s : Int) - d) = some (if n / 256 ^ d = 0 then (strOfNums (be d n ++ L.drop d), 0) else (⟨#[]⟩, 1)) := by
  induction d with
  | zero =>
    intro k n L _ _ hk
    obtain ⟨k, rfl⟩ : ∃ m, k = m + 1 := ⟨k - 1, by omega⟩
    simp only [num_Put.l0]
    rw [if_neg (by omega)]
    simp only [be, List.nil_append, List.drop_zero, Int.pow_zero, Int.ediv_one]
    split <;> rfl
  | succ d ih =>
    intro k n L hd hL hk
    obtain ⟨k, rfl⟩ : ∃ m, k = m + 1 := ⟨k - 1, by omega⟩
    have e1 : wrap64 (wrap64 ((s : Int) - 1) - ((s : Int) - ((d + 1 : Nat) : Int))) = (d : Int) := by unfold wrap64; omega
    have e2 : wrap64 ((s : Int) - ((d + 1 : Nat) : Int) + 1) = (s : Int) - d := by unfold wrap64; omega
    simp only [num_Put.l0]
    rw [if_pos (by omega), e1, if_pos (by omega), if_pos (by omega), e2, ih k _ _ (by omega) (by simpa using hL) (by omega),
      Int.toNat_natCast, drop_set_at L d _ (by omega), div_div, be, List.append_assoc]
    rfl

theorem small_div {n : Int} {s : Nat} (h0 : 0 ≤ n) : n / 256 ^ s = 0 ↔ n < 256 ^ s := by
  constructor
  · intro h
    have h1 := Int.emod_lt_of_pos n (pow_pos s)
    have h2 := Int.emod_add_mul_ediv n (256 ^ s)
    rw [h, Int.mul_zero] at h2
    omega
  · intro h
    exact Int.ediv_eq_zero_of_lt h0 h

theorem put_some (k : Nat) (n : Int) (s : Nat) (h0 : 0 ≤ n) (s1 : 1 ≤ s) (s8 : s ≤ 8) (hk : 10 ≤ k) :
    num_Put.f k n s = some (if n < 256 ^ s then (strOfNums (be s n), 0) else (⟨#[]⟩, 1)) := by
  obtain ⟨k, rfl⟩ : ∃ m, k = m + 1 := ⟨k - 1, by omega⟩
  unfold num_Put.f
  rw [if_neg (by omega)]
  simp only [num_Put.j0]
  rw [if_neg (by simp; omega), if_pos (by omega), if_pos (by omega)]
  have h := put_loop s s8 s k n (List.replicate (s : Int).toNat 0) (Nat.le_refl _) (by simp) (by omega)
  rw [Int.sub_self] at h
  rw [h]
  simp only [small_div h0]
  rw [List.drop_of_length_le (by simp), List.append_nil]

theorem put_none (k : Nat) (n s : Int) (h : s < 1 ∨ 8 < s) (hk : 10 ≤ k) : num_Put.f k n s = some (⟨#[]⟩, 1) := by
  obtain ⟨k, rfl⟩ : ∃ m, k = m + 1 := ⟨k - 1, by omega⟩
  unfold num_Put.f
  by_cases c : s < 1
  · rw [if_pos c]; simp only [num_Put.j0]; rw [if_pos trivial]
  · rw [if_neg c]; simp only [num_Put.j0]; rw [if_pos (by simp; omega)]

theorem text_long (s : ByteArray) (h : 255 < s.size) : num_Text.f s = some (⟨#[]⟩, 16) := by
  unfold num_Text.f
  rw [if_pos (by omega)]

theorem text_short (s : ByteArray) (h : s.size ≤ 255) : num_Text.f s = some (strOfNums [(s.size : Int)] ++ s, 0) := by
  unfold num_Text.f
  rw [if_neg (by omega)]
  have e : (s.size : Int) % 256 = s.size := by omega
  rw [e]
  simp only [Option.bind_some, strOfNums_size, List.length_singleton]
  rw [if_pos (by omega)]

theorem examples_true (k : Nat) (hk : 10 ≤ k) : bailiwicklaw01_examples.f k = some true := by
  unfold bailiwicklaw01_examples.f
  have h1 := put_some k 258 2 (by decide) (by decide) (by decide) hk
  have h2 := put_some k 256 1 (by decide) (by decide) (by decide) hk
  rw [if_pos (by decide)] at h1
  rw [if_neg (by decide)] at h2
  have h3 := text_short ⟨#[97, 98]⟩ (by decide)
  have h1' : num_Put.f k 258 2 = some (strOfNums (be 2 258), 0) := h1
  have h2' : num_Put.f k 256 1 = some (⟨#[]⟩, 1) := h2
  rw [h1', h2', h3]
  simp only [Option.bind_some]
  have e1 : (strOfNums (be 2 258)).toList = ([1, 2] : List UInt8) := by rw [toList_nums]; decide
  have e2 : (strOfNums [((⟨#[97, 98]⟩ : ByteArray).size : Int)] ++ ⟨#[97, 98]⟩).toList = ([2, 97, 98] : List UInt8) := by rw [ByteArray.toList_eq]; decide
  rw [e1, e2]
  rfl

/-! The document's answer -/
theorem ref_loop (s : Nat) (hs : s ≤ 8) (d : Nat) : ∀ (k : Nat) (n : Int) (L : List Int), d ≤ s → L.length = s → d < k →
    bailiwickref01_Put.l0 k n L ((d : Int) - 1) = some (strOfNums (be d n ++ L.drop d), true) := by
  induction d with
  | zero =>
    intro k n L _ _ hk
    obtain ⟨k, rfl⟩ : ∃ m, k = m + 1 := ⟨k - 1, by omega⟩
    simp only [bailiwickref01_Put.l0]
    rw [if_neg (by omega)]
    rfl
  | succ d ih =>
    intro k n L hd hL hk
    obtain ⟨k, rfl⟩ : ∃ m, k = m + 1 := ⟨k - 1, by omega⟩
    have e1 : ((d + 1 : Nat) : Int) - 1 = (d : Int) := by omega
    have e2 : wrap64 ((d : Int) - 1) = (d : Int) - 1 := by unfold wrap64; omega
    simp only [bailiwickref01_Put.l0]
    rw [e1, if_pos (by omega), if_pos (by omega), if_pos (by omega), e2, ih k _ _ (by omega) (by simpa using hL) (by omega),
      Int.toNat_natCast, drop_set_at L d _ (by omega), be, List.append_assoc]
    rfl

theorem ref_none (k : Nat) (n s : Int) (h : s < 1 ∨ 8 < s) (hk : 10 ≤ k) : bailiwickref01_Put.f k n s = some (⟨#[]⟩, false) := by
  obtain ⟨k, rfl⟩ : ∃ m, k = m + 1 := ⟨k - 1, by omega⟩
  unfold bailiwickref01_Put.f
  by_cases c : s < 1
  · rw [if_pos c]; simp only [bailiwickref01_Put.j0]; rw [if_pos trivial]
  · rw [if_neg c, if_pos (by omega)]; simp only [bailiwickref01_Put.j0]; rw [if_pos trivial]

theorem ref_go (k : Nat) (n : Int) (s : Nat) (s1 : 1 ≤ s) (s8 : s ≤ 8) (hk : 9 ≤ k) : bailiwickref01_Put.j0 (k + 1) n s false = some (strOfNums (be s n), true) := by
  have h := ref_loop s s8 s k n (List.replicate (s : Int).toNat 0) (Nat.le_refl _) (by simp) (by omega)
  have e : wrap64 ((s : Int) - 1) = (s : Int) - 1 := by unfold wrap64; omega
  simp only [bailiwickref01_Put.j0]
  rw [if_neg (by decide), if_pos (by omega), if_pos (by omega), e, h, List.drop_of_length_le (by simp), List.append_nil]

theorem pow_shift (s : Nat) (s8 : s ≤ 8) : (2 : Int) ^ min (8 * (s : Int)).toNat 64 = 256 ^ s := by
  obtain rfl | rfl | rfl | rfl | rfl | rfl | rfl | rfl | rfl : s = 0 ∨ s = 1 ∨ s = 2 ∨ s = 3 ∨ s = 4 ∨ s = 5 ∨ s = 6 ∨ s = 7 ∨ s = 8 := by omega
  all_goals rfl

theorem ref_some (k : Nat) (n : Int) (s : Nat) (h0 : 0 ≤ n) (hn : n < 18446744073709551616) (s1 : 1 ≤ s) (s8 : s ≤ 8) (hk : 10 ≤ k) :
    bailiwickref01_Put.f k n s = some (if n < 256 ^ s then (strOfNums (be s n), true) else (⟨#[]⟩, false)) := by
  obtain ⟨k, rfl⟩ : ∃ m, k = m + 1 := ⟨k - 1, by omega⟩
  unfold bailiwickref01_Put.f
  rw [if_neg (by omega), if_neg (by omega)]
  by_cases c : s = 8
  · subst c
    rw [if_neg (by decide), ref_go k n 8 (by decide) (by decide) (by omega), if_pos (by omega)]
  · have e : wrap64 (8 * (s : Int)) = 8 * (s : Int) := by unfold wrap64; omega
    have e2 : shr .u64 n (8 * (s : Int)) = n / 256 ^ s := by rw [shr, ← pow_shift s s8]; rfl
    rw [if_pos (by omega), e, if_pos (by omega), e2]
    by_cases d : n < 256 ^ s
    · rw [if_pos d, (small_div h0).2 d]
      exact ref_go k n s s1 s8 (by omega)
    · have h1 : ¬ n / 256 ^ s = 0 := fun h => d ((small_div h0).1 h)
      have h2 : 0 ≤ n / 256 ^ s := Int.ediv_nonneg h0 (Int.le_of_lt (pow_pos s))
      rw [if_neg d]
      simp only [bailiwickref01_Put.j0]
      rw [if_pos (by simp; omega)]

theorem reftext_long (s : ByteArray) (h : 255 < s.size) : bailiwickref01_Text.f s = some (⟨#[]⟩, false) := by
  unfold bailiwickref01_Text.f
  rw [if_pos (by omega)]

theorem reftext_short (s : ByteArray) (h : s.size ≤ 255) : bailiwickref01_Text.f s = some (strOfNums [(s.size : Int)] ++ s, true) := by
  unfold bailiwickref01_Text.f
  rw [if_neg (by omega)]
  have e : (s.size : Int) % 256 = s.size := by omega
  rw [e]
  simp only [Option.bind_some, strOfNums_size, List.length_singleton]
  rw [if_pos (by omega)]

theorem NumWrites : bailiwicklaw01_NumWrites.Pure := by
  intro n size t hn hs _
  have n0 : 0 ≤ n ∧ n < 18446744073709551616 := by
    simp [Lit.wf, IntKind.min, IntKind.max, IntKind.signed, IntKind.bits] at hn; omega
  refine ⟨10, ?_⟩
  unfold bailiwicklaw01_NumWrites.f
  rw [examples_true 10 (Nat.le_refl _)]
  have hT : (num_Text.f t = some (⟨#[]⟩, 16) ∧ bailiwickref01_Text.f t = some (⟨#[]⟩, false)) ∨ (∃ x, num_Text.f t = some (x, 0) ∧ bailiwickref01_Text.f t = some (x, true)) := by
    by_cases c : t.size ≤ 255
    · exact .inr ⟨_, text_short t c, reftext_short t c⟩
    · exact .inl ⟨text_long t (by omega), reftext_long t (by omega)⟩
  have hP : (num_Put.f 10 n size = some (⟨#[]⟩, 1) ∧ bailiwickref01_Put.f 10 n size = some (⟨#[]⟩, false)) ∨ (∃ x, num_Put.f 10 n size = some (x, 0) ∧ bailiwickref01_Put.f 10 n size = some (x, true)) := by
    by_cases c : size < 1 ∨ 8 < size
    · exact .inl ⟨put_none 10 n size c (Nat.le_refl _), ref_none 10 n size c (Nat.le_refl _)⟩
    · obtain ⟨s, rfl⟩ := Int.eq_ofNat_of_zero_le (show 0 ≤ size by omega)
      have h1 := put_some 10 n s n0.1 (by omega) (by omega) (Nat.le_refl _)
      have h2 := ref_some 10 n s n0.1 n0.2 (by omega) (by omega) (Nat.le_refl _)
      by_cases d : n < 256 ^ s
      · rw [if_pos d] at h1 h2
        exact .inr ⟨_, h1, h2⟩
      · rw [if_neg d] at h1 h2
        exact .inl ⟨h1, h2⟩
  rcases hT with ⟨a, b⟩ | ⟨x, a, b⟩ <;> rcases hP with ⟨c, d⟩ | ⟨y, c, d⟩ <;> rw [a, b, c, d] <;> simp

end Go.Proofs.Ytgfdppkhaanfkaa.Pure
