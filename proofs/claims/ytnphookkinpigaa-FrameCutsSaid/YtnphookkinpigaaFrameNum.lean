/- Put and Take of chapter 1 over numbers and bytes; conditions: those that each theorem names. -/
import Derived.Test.YtnphookkinpigaaPTakex1
import Derived.Test.YtnphookkinpigaaPPutx1
import Derived.Test.YtnphookkinpigaaMath
namespace Go.Proofs.Ytnphookkinpigaa.Frame
open Go.RowKit Go.Proofs.Ytnphookkinpigaa.PTake Go.Proofs.Ytnphookkinpigaa.PPut Go.Proofs.YtnphookkinpigaaW.PrintWords Go.Proofs.YtnphookkinpigaaW.PrintLast Go.Proofs.YtnphookkinpigaaW.PrintMore Go.Proofs.Ytnphookkinpigaa.Math

/-! Put: the loop, and the whole -/
theorem div_div (n : Int) (d : Nat) : n / 256 / 256 ^ d = n / 256 ^ (d + 1) := by
  rw [Int.ediv_ediv_of_nonneg (by decide), Int.pow_succ, Int.mul_comm]

theorem drop_set_at (L : List Int) (d : Nat) (x : Int) (h : d < L.length) : (L.set d x).drop d = x :: L.drop (d + 1) := by
  rw [List.drop_eq_getElem_cons (by simpa using h)]
  simp [List.drop_set]

theorem put_loop (s : Nat) (hs : s ≤ 8) (d : Nat) : ∀ (k : Nat) (n : Int) (L : List Int), d ≤ s → L.length = s → d < k →
    num_Put.l0 k n s L s ((s : Int) - d) = some (if n / 256 ^ d = 0 then (strOfNums (be d n ++ L.drop d), 0) else (⟨#[]⟩, 1)) := by
  induction d with
  | zero =>
    intro k n L _ _ hk
    obtain ⟨k, rfl⟩ : ∃ m, k = m + 1 := ⟨k - 1, by omega⟩
    simp only [num_Put.l0]
    rw [if_neg (by omega)]
    simp only [be, List.nil_append, List.drop_zero, Int.pow_zero, Int.ediv_one]
    split <;> rfl
  | succ d ih =>
    intro k n L hd hL hk
    obtain ⟨k, rfl⟩ : ∃ m, k = m + 1 := ⟨k - 1, by omega⟩
    have e1 : wrap64 (wrap64 ((s : Int) - 1) - ((s : Int) - ((d + 1 : Nat) : Int))) = (d : Int) := by unfold wrap64; omega
    have e2 : wrap64 ((s : Int) - ((d + 1 : Nat) : Int) + 1) = (s : Int) - d := by unfold wrap64; omega
    simp only [num_Put.l0]
    rw [if_pos (by omega), e1, if_pos (by omega), if_pos (by omega), e2, ih k _ _ (by omega) (by simpa using hL) (by omega),
      Int.toNat_natCast, drop_set_at L d _ (by omega), div_div, be, List.append_assoc]
    rfl

theorem small_div {n : Int} {s : Nat} (h0 : 0 ≤ n) : n / 256 ^ s = 0 ↔ n < 256 ^ s := by
  constructor
  · intro h
    have h1 := Int.emod_lt_of_pos n (pow_pos s)
    have h2 := Int.emod_add_mul_ediv n (256 ^ s)
    rw [h, Int.mul_zero] at h2
    omega
  · intro h
    exact Int.ediv_eq_zero_of_lt h0 h

theorem put_some (k : Nat) (n : Int) (s : Nat) (h0 : 0 ≤ n) (s1 : 1 ≤ s) (s8 : s ≤ 8) (hk : 10 ≤ k) :
    num_Put.f k n s = some (if n < 256 ^ s then (strOfNums (be s n), 0) else (⟨#[]⟩, 1)) := by
  obtain ⟨k, rfl⟩ : ∃ m, k = m + 1 := ⟨k - 1, by omega⟩
  unfold num_Put.f
  rw [if_neg (by omega)]
  simp only [num_Put.j0]
  rw [if_neg (by simp; omega), if_pos (by omega), if_pos (by omega)]
  have h := put_loop s s8 s k n (List.replicate (s : Int).toNat 0) (Nat.le_refl _) (by simp) (by omega)
  rw [Int.sub_self] at h
  rw [h]
  simp only [small_div h0]
  rw [List.drop_of_length_le (by simp), List.append_nil]

theorem put_none (k : Nat) (n s : Int) (h : s < 1 ∨ 8 < s) (hk : 10 ≤ k) : num_Put.f k n s = some (⟨#[]⟩, 1) := by
  obtain ⟨k, rfl⟩ : ∃ m, k = m + 1 := ⟨k - 1, by omega⟩
  unfold num_Put.f
  by_cases c : s < 1
  · rw [if_pos c]; simp only [num_Put.j0]; rw [if_pos trivial]
  · rw [if_neg c]; simp only [num_Put.j0]; rw [if_pos (by simp; omega)]

/-! Take: the loop, and the whole -/
theorem take_bounds (b : ByteArray) (i : Nat) (hi : i < 8) :
    (0 ≤ val ((bytesOf b).take i) * 256 ∧ val ((bytesOf b).take i) * 256 < 18446744073709551616) ∧ (0 ≤ bt b i ∧ bt b i < 18446744073709551616) ∧
      (0 ≤ val ((bytesOf b).take i) * 256 + bt b i ∧ val ((bytesOf b).take i) * 256 + bt b i < 18446744073709551616) := by
  have ⟨v0, v1⟩ := take_val_lt (bytesOf b) (bytesOf_byte b) i hi
  have ⟨b0, b1⟩ := bt_range b i
  omega

theorem take_snoc (b : ByteArray) (i : Nat) (hb : i < b.size) : val ((bytesOf b).take i) * 256 + bt b i = val ((bytesOf b).take (i + 1)) := by
  rw [rd_take_succ _ i (by rw [bytesOf_length]; omega), val_snoc, rd_bytesOf]

theorem take_step (b : ByteArray) (i : Nat) (hi : i < 8) (hb : i < b.size) :
    IntKind.u64.wrap (IntKind.u64.wrap (val ((bytesOf b).take i) * 256) + IntKind.u64.wrap (bt b i)) = val ((bytesOf b).take (i + 1)) := by
  have ⟨h1, h2, h3⟩ := take_bounds b i hi
  rw [wrap_u64 h1.1 h1.2, wrap_u64 h2.1 h2.2, wrap_u64 h3.1 h3.2, take_snoc b i hb]

theorem take_loop (b : ByteArray) (s : Nat) (hs : s ≤ 8) (hb : s ≤ b.size) (d : Nat) : ∀ (k i : Nat), i + d = s → d < k →
    num_Take.l0 k b s (val ((bytesOf b).take i)) s i = some (val ((bytesOf b).take s), b.extract s b.size, 0) := by
  induction d with
  | zero =>
    intro k i hi hk
    obtain ⟨k, rfl⟩ : ∃ m, k = m + 1 := ⟨k - 1, by omega⟩
    obtain rfl : i = s := by omega
    simp only [num_Take.l0]
    rw [if_neg (by omega), if_pos (by omega), if_pos (by omega), Int.toNat_natCast]
  | succ d ih =>
    intro k i hi hk
    obtain ⟨k, rfl⟩ : ∃ m, k = m + 1 := ⟨k - 1, by omega⟩
    have e4 : wrap64 ((i : Int) + 1) = ((i + 1 : Nat) : Int) := by unfold wrap64; omega
    simp only [num_Take.l0]
    rw [if_pos (by omega), if_pos (by omega), if_pos (by omega), take_step b i (by omega) (by omega), e4]
    exact ih k (i + 1) (by omega) (by omega)

theorem take_some (k : Nat) (b : ByteArray) (s : Nat) (s1 : 1 ≤ s) (s8 : s ≤ 8) (hb : s ≤ b.size) (hk : 10 ≤ k) :
    num_Take.f k b s = some (val ((bytesOf b).take s), b.extract s b.size, 0) := by
  obtain ⟨k, rfl⟩ : ∃ m, k = m + 1 := ⟨k - 1, by omega⟩
  unfold num_Take.f
  rw [if_neg (by omega)]
  simp only [num_Take.j0]
  rw [if_neg (by simp; omega), if_neg (by omega)]
  exact take_loop b s s8 hb s k 0 (by omega) (by omega)

theorem take_short (k : Nat) (b : ByteArray) (s : Int) (s1 : 1 ≤ s) (s8 : s ≤ 8) (hb : (b.size : Int) < s) (hk : 10 ≤ k) :
    num_Take.f k b s = some (0, ⟨#[]⟩, 2) := by
  obtain ⟨k, rfl⟩ : ∃ m, k = m + 1 := ⟨k - 1, by omega⟩
  unfold num_Take.f
  rw [if_neg (by omega)]
  simp only [num_Take.j0]
  rw [if_neg (by simp; omega), if_pos (by omega)]

theorem take_none (k : Nat) (b : ByteArray) (s : Int) (h : s < 1 ∨ 8 < s) (hk : 10 ≤ k) : num_Take.f k b s = some (0, ⟨#[]⟩, 1) := by
  obtain ⟨k, rfl⟩ : ∃ m, k = m + 1 := ⟨k - 1, by omega⟩
  unfold num_Take.f
  by_cases c : s < 1
  · rw [if_pos c]; simp only [num_Take.j0]; rw [if_pos trivial]
  · rw [if_neg c]; simp only [num_Take.j0]; rw [if_pos (by simp; omega)]

end Go.Proofs.Ytnphookkinpigaa.Frame
