/- NumPieces over numbers and bytes: two numbers read one behind the other are one number of both sizes; conditions: the kinds' own bounds and the text's reach. -/
import Derived.Test.YtgfdppkhaanfkaaPNumPiecesx1
import Derived.Test.YtgfdppkhaanfkaaMath
namespace Go.Proofs.Ytgfdppkhaanfkaa.Pure
open Go.RowKit Go.Proofs.Ytgfdppkhaanfkaa.PNumPieces Go.Proofs.YtgfdppkhaanfkaaW.PrintWords Go.Proofs.YtgfdppkhaanfkaaW.PrintLast Go.Proofs.YtgfdppkhaanfkaaW.PrintMore Go.Proofs.Ytgfdppkhaanfkaa.Math

/-! Put: the loop, and the whole -/
theorem div_div (n : Int) (d : Nat) : n / 256 / 256 ^ d = n / 256 ^ (d + 1) := by
  rw [Int.ediv_ediv_of_nonneg (by decide), Int.pow_succ, Int.mul_comm]

theorem drop_set_at (L : List Int) (d : Nat) (x : Int) (h : d < L.length) : (L.set d x).drop d = x :: L.drop (d + 1) := by
  rw [List.drop_eq_getElem_cons (by simpa using h)]
  simp [List.drop_set]

theorem put_loop (s : Nat) (hs : s ≤ 8) (d : Nat) : ∀ (k : Nat) (n : Int) (L : List Int), d ≤ s → L.length = s → d < k →
    num_Put.l0 k n s L s ((s : Int) - d) = some (if n / 256 ^ d = 0 then (strOfNums (be d n ++ L.drop d), 0) else (⟨#[]⟩, 1)) := by
  induction d with
  | zero =>
    intro k n L _ _ hk
    obtain ⟨k, rfl⟩ : ∃ m, k = m + 1 := ⟨k - 1, by omega⟩
    simp only [num_Put.l0]
    rw [if_neg (by omega)]
    simp only [be, List.nil_append, List.drop_zero, Int.pow_zero, Int.ediv_one]
    split <;> rfl
  | succ d ih =>
    intro k n L hd hL hk
    obtain ⟨k, rfl⟩ : ∃ m, k = m + 1 := ⟨k - 1, by omega⟩
    have e1 : wrap64 (wrap64 ((s : Int) - 1) - ((s : Int) - ((d + 1 : Nat) : Int))) = (d : Int) := by unfold wrap64; omega
    have e2 : wrap64 ((s : Int) - ((d + 1 : Nat) : Int) + 1) = (s : Int) - d := by unfold wrap64; omega
    simp only [num_Put.l0]
    rw [if_pos (by omega), e1, if_pos (by omega), if_pos (by omega), e2, ih k _ _ (by omega) (by simpa using hL) (by omega),
      Int.toNat_natCast, drop_set_at L d _ (by omega), div_div, be, List.append_assoc]
    rfl

theorem small_div {n : Int} {s : Nat} (h0 : 0 ≤ n) : n / 256 ^ s = 0 ↔ n < 256 ^ s := by
  constructor
  · intro h
    have h1 := Int.emod_lt_of_pos n (pow_pos s)
    have h2 := Int.emod_add_mul_ediv n (256 ^ s)
    rw [h, Int.mul_zero] at h2
    omega
  · intro h
    exact Int.ediv_eq_zero_of_lt h0 h

theorem put_some (k : Nat) (n : Int) (s : Nat) (h0 : 0 ≤ n) (s1 : 1 ≤ s) (s8 : s ≤ 8) (hk : 10 ≤ k) :
    num_Put.f k n s = some (if n < 256 ^ s then (strOfNums (be s n), 0) else (⟨#[]⟩, 1)) := by
  obtain ⟨k, rfl⟩ : ∃ m, k = m + 1 := ⟨k - 1, by omega⟩
  unfold num_Put.f
  rw [if_neg (by omega)]
  simp only [num_Put.j0]
  rw [if_neg (by simp; omega), if_pos (by omega), if_pos (by omega)]
  have h := put_loop s s8 s k n (List.replicate (s : Int).toNat 0) (Nat.le_refl _) (by simp) (by omega)
  rw [Int.sub_self] at h
  rw [h]
  simp only [small_div h0]
  rw [List.drop_of_length_le (by simp), List.append_nil]

theorem put_none (k : Nat) (n s : Int) (h : s < 1 ∨ 8 < s) (hk : 10 ≤ k) : num_Put.f k n s = some (⟨#[]⟩, 1) := by
  obtain ⟨k, rfl⟩ : ∃ m, k = m + 1 := ⟨k - 1, by omega⟩
  unfold num_Put.f
  by_cases c : s < 1
  · rw [if_pos c]; simp only [num_Put.j0]; rw [if_pos trivial]
  · rw [if_neg c]; simp only [num_Put.j0]; rw [if_pos (by simp; omega)]

theorem text_long (s : ByteArray) (h : 255 < s.size) : num_Text.f s = some (⟨#[]⟩, 16) := by
  unfold num_Text.f
  rw [if_pos (by omega)]

theorem text_short (s : ByteArray) (h : s.size ≤ 255) : num_Text.f s = some (strOfNums [(s.size : Int)] ++ s, 0) := by
  unfold num_Text.f
  rw [if_neg (by omega)]
  have e : (s.size : Int) % 256 = s.size := by omega
  rw [e]
  simp only [Option.bind_some, strOfNums_size, List.length_singleton]
  rw [if_pos (by omega)]

theorem examples_true (k : Nat) (hk : 10 ≤ k) : bailiwicklaw01_examples.f k = some true := by
  unfold bailiwicklaw01_examples.f
  have h1 := put_some k 258 2 (by decide) (by decide) (by decide) hk
  have h2 := put_some k 256 1 (by decide) (by decide) (by decide) hk
  rw [if_pos (by decide)] at h1
  rw [if_neg (by decide)] at h2
  have h3 := text_short ⟨#[97, 98]⟩ (by decide)
  have h1' : num_Put.f k 258 2 = some (strOfNums (be 2 258), 0) := h1
  have h2' : num_Put.f k 256 1 = some (⟨#[]⟩, 1) := h2
  rw [h1', h2', h3]
  simp only [Option.bind_some]
  have e1 : (strOfNums (be 2 258)).toList = ([1, 2] : List UInt8) := by rw [toList_nums]; decide
  have e2 : (strOfNums [((⟨#[97, 98]⟩ : ByteArray).size : Int)] ++ ⟨#[97, 98]⟩).toList = ([2, 97, 98] : List UInt8) := by rw [ByteArray.toList_eq]; decide
  rw [e1, e2]
  rfl

/-! Take: the loop, and the whole -/
theorem take_bounds (b : ByteArray) (i : Nat) (hi : i < 8) :
    (0 ≤ val ((bytesOf b).take i) * 256 ∧ val ((bytesOf b).take i) * 256 < 18446744073709551616) ∧ (0 ≤ bt b i ∧ bt b i < 18446744073709551616) ∧
      (0 ≤ val ((bytesOf b).take i) * 256 + bt b i ∧ val ((bytesOf b).take i) * 256 + bt b i < 18446744073709551616) := by
  have ⟨v0, v1⟩ := take_val_lt (bytesOf b) (bytesOf_byte b) i hi
  have ⟨b0, b1⟩ := bt_range b i
  omega

theorem take_snoc (b : ByteArray) (i : Nat) (hb : i < b.size) : val ((bytesOf b).take i) * 256 + bt b i = val ((bytesOf b).take (i + 1)) := by
  rw [rd_take_succ _ i (by rw [bytesOf_length]; omega), val_snoc, rd_bytesOf]

theorem take_step (b : ByteArray) (i : Nat) (hi : i < 8) (hb : i < b.size) :
    IntKind.u64.wrap (IntKind.u64.wrap (val ((bytesOf b).take i) * 256) + IntKind.u64.wrap (bt b i)) = val ((bytesOf b).take (i + 1)) := by
  have ⟨h1, h2, h3⟩ := take_bounds b i hi
  rw [wrap_u64 h1.1 h1.2, wrap_u64 h2.1 h2.2, wrap_u64 h3.1 h3.2, take_snoc b i hb]

theorem take_loop (b : ByteArray) (s : Nat) (hs : s ≤ 8) (hb : s ≤ b.size) (d : Nat) : ∀ (k i : Nat), i + d = s → d < k →
    num_Take.l0 k b s (val ((bytesOf b).take i)) s i = some (val ((bytesOf b).take s), b.extract s b.size, 0) := by
  induction d with
  | zero =>
    intro k i hi hk
    obtain ⟨k, rfl⟩ : ∃ m, k = m + 1 := ⟨k - 1, by omega⟩
    obtain rfl : i = s := by omega
    simp only [num_Take.l0]
    rw [if_neg (by omega), if_pos (by omega), if_pos (by omega), Int.toNat_natCast]
  | succ d ih =>
    intro k i hi hk
    obtain ⟨k, rfl⟩ : ∃ m, k = m + 1 := ⟨k - 1, by omega⟩
    have e4 : wrap64 ((i : Int) + 1) = ((i + 1 : Nat) : Int) := by unfold wrap64; omega
    simp only [num_Take.l0]
    rw [if_pos (by omega), if_pos (by omega), if_pos (by omega), take_step b i (by omega) (by omega), e4]
    exact ih k (i + 1) (by omega) (by omega)

theorem take_some (k : Nat) (b : ByteArray) (s : Nat) (s1 : 1 ≤ s) (s8 : s ≤ 8) (hb : s ≤ b.size) (hk : 10 ≤ k) :
    num_Take.f k b s = some (val ((bytesOf b).take s), b.extract s b.size, 0) := by
  obtain ⟨k, rfl⟩ : ∃ m, k = m + 1 := ⟨k - 1, by omega⟩
  unfold num_Take.f
  rw [if_neg (by omega)]
  simp only [num_Take.j0]
  rw [if_neg (by simp; omega), if_neg (by omega)]
  exact take_loop b s s8 hb s k 0 (by omega) (by omega)

theorem take_short (k : Nat) (b : ByteArray) (s : Int) (s1 : 1 ≤ s) (s8 : s ≤ 8) (hb : (b.size : Int) < s) (hk : 10 ≤ k) :
    num_Take.f k b s = some (0, ⟨#[]⟩, 2) := by
  obtain ⟨k, rfl⟩ : ∃ m, k = m + 1 := ⟨k - 1, by omega⟩
  unfold num_Take.f
  rw [if_neg (by omega)]
  simp only [num_Take.j0]
  rw [if_neg (by simp; omega), if_pos (by omega)]

theorem take_none (k : Nat) (b : ByteArray) (s : Int) (h : s < 1 ∨ 8 < s) (hk : 10 ≤ k) : num_Take.f k b s = some (0, ⟨#[]⟩, 1) := by
  obtain ⟨k, rfl⟩ : ∃ m, k = m + 1 := ⟨k - 1, by omega⟩
  unfold num_Take.f
  by_cases c : s < 1
  · rw [if_pos c]; simp only [num_Take.j0]; rw [if_pos trivial]
  · rw [if_neg c]; simp only [num_Take.j0]; rw [if_pos (by simp; omega)]

/-! The law -/
theorem take_take_val (b : ByteArray) (x y : Nat) (h : x + y ≤ b.size) :
    val ((bytesOf b).take (x + y)) = val ((bytesOf b).take x) * 256 ^ y + val ((bytesOf (b.extract x b.size)).take y) := by
  have e : (bytesOf (b.extract x b.size)).take y = ((bytesOf b).drop x).take y := by
    rw [extract_bytesOf, List.take_take, Nat.min_eq_left (by omega)]
  have e2 : (bytesOf b).take (x + y) = (bytesOf b).take x ++ ((bytesOf b).drop x).take y := by rw [List.take_add]
  have e3 : (((bytesOf b).drop x).take y).length = y := by rw [List.length_take, List.length_drop, bytesOf_length]; omega
  rw [e, e2, val_append, e3]

theorem extract_extract_size (b : ByteArray) (x y : Nat) (h : x + y ≤ b.size) : (b.extract x b.size).extract y (b.extract x b.size).size = b.extract (x + y) b.size := by
  apply of_bytesOf
  rw [extract_bytesOf, extract_bytesOf, extract_bytesOf]
  have e1 : ((bytesOf b).drop x).take (b.size - x) = (bytesOf b).drop x := List.take_of_length_le (by rw [List.length_drop, bytesOf_length]; omega)
  have e2 : ((bytesOf b).drop (x + y)).take (b.size - (x + y)) = (bytesOf b).drop (x + y) := List.take_of_length_le (by rw [List.length_drop, bytesOf_length]; omega)
  rw [e1, e2, List.drop_drop]
  apply List.take_of_length_le
  rw [List.length_drop, bytesOf_length, ByteArray.size_extract]
  omega

theorem pow_shl (s : Nat) (s4 : s ≤ 4) : (2 : Int) ^ min (8 * (s : Int)).toNat 64 = 256 ^ s := by
  obtain rfl | rfl | rfl | rfl | rfl : s = 0 ∨ s = 1 ∨ s = 2 ∨ s = 3 ∨ s = 4 := by omega
  all_goals rfl

theorem pow_le4 (s : Nat) (s4 : s ≤ 4) : (256 : Int) ^ s ≤ 4294967296 := by
  obtain rfl | rfl | rfl | rfl | rfl : s = 0 ∨ s = 1 ∨ s = 2 ∨ s = 3 ∨ s = 4 := by omega
  all_goals decide

theorem size_of (a : Int) (h : (Lit.int .u8 a).wf = true) : ∃ x : Nat, 1 ≤ x ∧ x ≤ 4 ∧ wrap64 (1 + wrap64 (Int.tmod a 4)) = (x : Int) := by
  have a0 : 0 ≤ a ∧ a < 256 := by
    simp [Lit.wf, IntKind.min, IntKind.max, IntKind.signed, IntKind.bits] at h; omega
  refine ⟨(a % 4 + 1).toNat, by omega, by omega, ?_⟩
  rw [Int.tmod_eq_emod_of_nonneg a0.1]
  unfold wrap64
  omega

theorem NumPieces : bailiwicklaw01_NumPieces.Pure := by
  intro b i j hb hi hj
  obtain ⟨x, x1, x4, hx⟩ := size_of i hi
  obtain ⟨y, y1, y4, hy⟩ := size_of j hj
  refine ⟨10, ?_⟩
  unfold bailiwicklaw01_NumPieces.f
  have hxy : wrap64 ((x : Int) + y) = ((x + y : Nat) : Int) := by unfold wrap64; omega
  have h8 : wrap64 (8 * (y : Int)) = 8 * (y : Int) := by unfold wrap64; omega
  rw [examples_true 10 (Nat.le_refl _), hx, hy, hxy, h8]
  by_cases c : x + y ≤ b.size
  · have hsz : y ≤ (b.extract x b.size).size := by rw [ByteArray.size_extract]; omega
    rw [take_some 10 b (x + y) (by omega) (by omega) c (Nat.le_refl _), take_some 10 b x x1 (by omega) (by omega) (Nat.le_refl _)]
    simp only [Option.bind_some, if_true]
    rw [take_some 10 (b.extract x b.size) y y1 (by omega) hsz (Nat.le_refl _)]
    simp only [Option.bind_some]
    have hv := take_take_val b x y c
    have he := extract_extract_size b x y c
    have p1 := val_range _ (byte_take (bytesOf_byte b) (x + y))
    have p2 := val_range _ (byte_take (bytesOf_byte b) x)
    have p3 := val_range _ (byte_take (bytesOf_byte (b.extract x b.size)) y)
    have q : (256 : Int) ^ ((bytesOf b).take (x + y)).length ≤ 18446744073709551616 := by
      have l : ((bytesOf b).take (x + y)).length = x + y := by rw [List.length_take, bytesOf_length]; omega
      rw [l]
      have m1 : (256 : Int) ^ x * 256 ^ y ≤ 4294967296 * 256 ^ y := Int.mul_le_mul_of_nonneg_right (pow_le4 x x4) (Int.le_of_lt (pow_pos y))
      have m2 := pow_le4 y y4
      rw [Int.pow_add]
      omega
    have n1 : 0 ≤ val ((bytesOf b).take x) * 256 ^ y := Int.mul_nonneg p2.1 (Int.le_of_lt (pow_pos y))
    have n2 : val ((bytesOf b).take x) * 256 ^ y < 18446744073709551616 := by omega
    have n3 : val ((bytesOf b).take (x + y)) < 18446744073709551616 := by omega
    have n4 : 0 ≤ 8 * (y : Int) := by omega
    have n5 : ¬ (b.size : Int) < ((x + y : Nat) : Int) := by omega
    have n6 : (0 : Int) ≤ ((x + y : Nat) : Int) := by omega
    have n7 : ((x + y : Nat) : Int) ≤ (b.size : Int) := by omega
    have hs : shl .u64 (val ((bytesOf b).take x)) (8 * (y : Int)) = val ((bytesOf b).take x) * 256 ^ y := by
      have e : shl .u64 (val ((bytesOf b).take x)) (8 * (y : Int)) = IntKind.u64.wrap (val ((bytesOf b).take x) * 256 ^ y) := by rw [shl, ← pow_shl y y4]; rfl
      rw [e, wrap_u64 n1 n2]
    have hw : IntKind.u64.wrap (val ((bytesOf b).take x) * 256 ^ y + val ((bytesOf (b.extract x b.size)).take y)) = val ((bytesOf b).take (x + y)) := by
      rw [← hv, wrap_u64 p1.1 n3]
    rw [if_neg n5, hs, hw, he, if_pos n4, if_pos n6, if_pos n7, Int.toNat_natCast]
    simp
  · rw [take_short 10 b ((x + y : Nat) : Int) (by omega) (by omega) (by omega) (Nat.le_refl _)]
    by_cases d : x ≤ b.size
    · have hsz : (b.extract x b.size).size = b.size - x := by rw [ByteArray.size_extract]; omega
      rw [take_some 10 b x x1 (by omega) d (Nat.le_refl _)]
      simp only [Option.bind_some, if_true]
      rw [take_short 10 (b.extract x b.size) y (by omega) (by omega) (by omega) (Nat.le_refl _)]
      simp only [Option.bind_some]
      rw [if_pos (by omega)]
      simp
      omega
    · rw [take_short 10 b x (by omega) (by omega) (by omega) (Nat.le_refl _)]
      simp only [Option.bind_some, if_true]
      rw [take_short 10 ⟨#[]⟩ y (by omega) (by omega) (by show (0 : Int) < y; omega) (Nat.le_refl _)]
      simp only [Option.bind_some]
      rw [if_pos (by omega)]
      simp
      omega

end Go.Proofs.Ytgfdppkhaanfkaa.Pure
