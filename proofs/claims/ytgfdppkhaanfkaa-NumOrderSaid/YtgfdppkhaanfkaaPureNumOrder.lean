/- NumOrder over numbers and bytes: of two numbers written in one size the lesser one's bytes stand ahead, the same ones have the same bytes; conditions: the kinds' own bounds. -/
import Derived.Test.YtgfdppkhaanfkaaPNumOrderx1
import Derived.Test.YtgfdppkhaanfkaaMath
namespace Go.Proofs.Ytgfdppkhaanfkaa.Pure
open Go.RowKit Go.Proofs.Ytgfdppkhaanfkaa.PNumOrder Go.Proofs.YtgfdppkhaanfkaaW.PrintWords Go.Proofs.YtgfdppkhaanfkaaW.PrintLast Go.Proofs.YtgfdppkhaanfkaaW.PrintMore Go.Proofs.Ytgfdppkhaanfkaa.Math

/-! Put: the loop, and the whole -/
theorem div_div (n : Int) (d : Nat) : n / 256 / 256 ^ d = n / 256 ^ (d + 1) := by
  rw [Int.ediv_ediv_of_nonneg (by decide), Int.pow_succ, Int.mul_comm]

theorem drop_set_at (L : List Int) (d : Nat) (x : Int) (h : d < L.length) : (L.set d x).drop d = x :: L.drop (d + 1) := by
  rw [List.drop_eq_getElem_cons (by simpa using h)]
  simp [List.drop_set]

theorem put_loop (s : Nat) (hs : s ≤ 8) (d : Nat) : ∀ (k : Nat) (n : Int) (L : List Int), d ≤ s → L.length = s → d < k →
    num_Put.l0 k n s L s ((s : Int) - d) = some (if n / 256 ^ d = 0 then (strOfNums (be d n ++ L.drop d), 0) else (⟨#[]⟩, 1)) := by
  induction d with
  | zero =>
    intro k n L _ _ hk
    obtain ⟨k, rfl⟩ : ∃ m, k = m + 1 := ⟨k - 1, by omega⟩
    simp only [num_Put.l0]
    rw [if_neg (by omega)]
    simp only [be, List.nil_append, List.drop_zero, Int.pow_zero, Int.ediv_one]
    split <;> rfl
  | succ d ih =>
    intro k n L hd hL hk
    obtain ⟨k, rfl⟩ : ∃ m, k = m + 1 := ⟨k - 1, by omega⟩
    have e1 : wrap64 (wrap64 ((s : Int) - 1) - ((s : Int) - ((d + 1 : Nat) : Int))) = (d : Int) := by unfold wrap64; omega
    have e2 : wrap64 ((s : Int) - ((d + 1 : Nat) : Int) + 1) = (s : Int) - d := by unfold wrap64; omega
    simp only [num_Put.l0]
    rw [if_pos (by omega), e1, if_pos (by omega), if_pos (by omega), e2, ih k _ _ (by omega) (by simpa using hL) (by omega),
      Int.toNat_natCast, drop_set_at L d _ (by omega), div_div, be, List.append_assoc]
    rfl

theorem small_div {n : Int} {s : Nat} (h0 : 0 ≤ n) : n / 256 ^ s = 0 ↔ n < 256 ^ s := by
  constructor
  · intro h
    have h1 := Int.emod_lt_of_pos n (pow_pos s)
    have h2 := Int.emod_add_mul_ediv n (256 ^ s)
    rw [h, Int.mul_zero] at h2
    omega
  · intro h
    exact Int.ediv_eq_zero_of_lt h0 h

theorem put_some (k : Nat) (n : Int) (s : Nat) (h0 : 0 ≤ n) (s1 : 1 ≤ s) (s8 : s ≤ 8) (hk : 10 ≤ k) :
    num_Put.f k n s = some (if n < 256 ^ s then (strOfNums (be s n), 0) else (⟨#[]⟩, 1)) := by
  obtain ⟨k, rfl⟩ : ∃ m, k = m + 1 := ⟨k - 1, by omega⟩
  unfold num_Put.f
  rw [if_neg (by omega)]
  simp only [num_Put.j0]
  rw [if_neg (by simp; omega), if_pos (by omega), if_pos (by omega)]
  have h := put_loop s s8 s k n (List.replicate (s : Int).toNat 0) (Nat.le_refl _) (by simp) (by omega)
  rw [Int.sub_self] at h
  rw [h]
  simp only [small_div h0]
  rw [List.drop_of_length_le (by simp), List.append_nil]

theorem put_none (k : Nat) (n s : Int) (h : s < 1 ∨ 8 < s) (hk : 10 ≤ k) : num_Put.f k n s = some (⟨#[]⟩, 1) := by
  obtain ⟨k, rfl⟩ : ∃ m, k = m + 1 := ⟨k - 1, by omega⟩
  unfold num_Put.f
  by_cases c : s < 1
  · rw [if_pos c]; simp only [num_Put.j0]; rw [if_pos trivial]
  · rw [if_neg c]; simp only [num_Put.j0]; rw [if_pos (by simp; omega)]

theorem text_long (s : ByteArray) (h : 255 < s.size) : num_Text.f s = some (⟨#[]⟩, 16) := by
  unfold num_Text.f
  rw [if_pos (by omega)]

theorem text_short (s : ByteArray) (h : s.size ≤ 255) : num_Text.f s = some (strOfNums [(s.size : Int)] ++ s, 0) := by
  unfold num_Text.f
  rw [if_neg (by omega)]
  have e : (s.size : Int) % 256 = s.size := by omega
  rw [e]
  simp only [Option.bind_some, strOfNums_size, List.length_singleton]
  rw [if_pos (by omega)]

theorem examples_true (k : Nat) (hk : 10 ≤ k) : bailiwicklaw01_examples.f k = some true := by
  unfold bailiwicklaw01_examples.f
  have h1 := put_some k 258 2 (by decide) (by decide) (by decide) hk
  have h2 := put_some k 256 1 (by decide) (by decide) (by decide) hk
  rw [if_pos (by decide)] at h1
  rw [if_neg (by decide)] at h2
  have h3 := text_short ⟨#[97, 98]⟩ (by decide)
  have h1' : num_Put.f k 258 2 = some (strOfNums (be 2 258), 0) := h1
  have h2' : num_Put.f k 256 1 = some (⟨#[]⟩, 1) := h2
  rw [h1', h2', h3]
  simp only [Option.bind_some]
  have e1 : (strOfNums (be 2 258)).toList = ([1, 2] : List UInt8) := by rw [toList_nums]; decide
  have e2 : (strOfNums [((⟨#[97, 98]⟩ : ByteArray).size : Int)] ++ ⟨#[97, 98]⟩).toList = ([2, 97, 98] : List UInt8) := by rw [ByteArray.toList_eq]; decide
  rw [e1, e2]
  rfl

/-! The law -/
theorem beq_be {s : Nat} {n m : Int} (n0 : 0 ≤ n) (m0 : 0 ≤ m) (hn : n < 256 ^ s) (hm : m < 256 ^ s) :
    ((be s n).map (fun x => UInt8.ofNat x.toNat) == (be s m).map fun x => UInt8.ofNat x.toNat) = (n == m) := by
  rw [Bool.eq_iff_iff, beq_iff_eq, beq_iff_eq]
  constructor
  · intro h
    exact be_inj n0 m0 hn hm (map_inj _ _ (be_byte s n) (be_byte s m) h)
  · intro h
    rw [h]

theorem NumOrder : bailiwicklaw01_NumOrder.Pure := by
  intro n m size hn hm hs
  have n0 : 0 ≤ n := by
    simp [Lit.wf, IntKind.min, IntKind.max, IntKind.signed, IntKind.bits] at hn; omega
  have m0 : 0 ≤ m := by
    simp [Lit.wf, IntKind.min, IntKind.max, IntKind.signed, IntKind.bits] at hm; omega
  refine ⟨10, ?_⟩
  unfold bailiwicklaw01_NumOrder.f
  rw [examples_true 10 (Nat.le_refl _)]
  by_cases c : size < 1 ∨ 8 < size
  · rw [put_none 10 n size c (Nat.le_refl _), put_none 10 m size c (Nat.le_refl _)]
    simp
  · obtain ⟨s, rfl⟩ := Int.eq_ofNat_of_zero_le (show 0 ≤ size by omega)
    rw [put_some 10 n s n0 (by omega) (by omega) (Nat.le_refl _), put_some 10 m s m0 (by omega) (by omega) (Nat.le_refl _)]
    by_cases d : n < 256 ^ s
    · by_cases e : m < 256 ^ s
      · rw [if_pos d, if_pos e]
        simp only [Option.bind_some]
        rw [toList_nums, toList_nums, less_val _ _ (by rw [be_length, be_length]) (be_byte s n) (be_byte s m), val_be s n n0 d, val_be s m m0 e, beq_be n0 m0 d e]
        simp
      · rw [if_pos d, if_neg e]
        simp
    · by_cases e : m < 256 ^ s
      · rw [if_neg d, if_pos e]
        simp
      · rw [if_neg d, if_neg e]
        simp

end Go.Proofs.Ytgfdppkhaanfkaa.Pure
