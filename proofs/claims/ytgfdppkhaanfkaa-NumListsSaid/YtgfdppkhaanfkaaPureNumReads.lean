/- NumReads over numbers and bytes: for every text and every size Take and TakeText answer as the document's answer does; conditions: the kinds' own bounds and the text's reach. -/
import Derived.Test.YtgfdppkhaanfkaaPNumReadsx2
import Derived.Test.YtgfdppkhaanfkaaMath
namespace Go.Proofs.Ytgfdppkhaanfkaa.Pure
open Go.RowKit Go.Proofs.Ytgfdppkhaanfkaa.PNumReads Go.Proofs.YtgfdppkhaanfkaaW.PrintWords Go.Proofs.YtgfdppkhaanfkaaW.PrintLast Go.Proofs.YtgfdppkhaanfkaaW.PrintMore Go.Proofs.Ytgfdppkhaanfkaa.Math

/-! Put: the loop, and the whole -/
theorem div_div (n : Int) (d : Nat) : n / 256 / 256 ^ d = n / 256 ^ (d + 1) := by
  rw [Int.ediv_ediv_of_nonneg (by decide), Int.pow_succ, Int.mul_comm]

theorem drop_set_at (L : List Int) (d : Nat) (x : Int) (h : d < L.length) : (L.set d x).drop d = x :: L.drop (d + 1) := by
  rw [List.drop_eq_getElem_cons (by simpa using h)]
  simp [List.drop_set]

theorem put_loop (s : Nat) (hs : s ≤ 8) (d : Nat) : ∀ (k : Nat) (n : Int) (L : List Int), d ≤ s → L.length = s → d < k →
    num_Put.l0 k n s L s ((s : Int) - d) = some (if n / 256 ^ d = 0 then (strOfNums (be d n ++ L.drop d), 0) else (⟨#[]⟩, 1)) := by
  induction d with
  | zero =>
    intro k n L _ _ hk
    obtain ⟨k, rfl⟩ : ∃ m, k = m + 1 := ⟨k - 1, by omega⟩
    simp only [num_Put.l0]
    rw [if_neg (by omega)]
    simp only [be, List.nil_append, List.drop_zero, Int.pow_zero, Int.ediv_one]
    split <;> rfl
  | succ d ih =>
    intro k n L hd hL hk
    obtain ⟨k, rfl⟩ : ∃ m, k = m + 1 := ⟨k - 1, by omega⟩
    have e1 : wrap64 (wrap64 ((s : Int) - 1) - ((s : Int) - ((d + 1 : Nat) : Int))) = (d : Int) := by unfold wrap64; omega
    have e2 : wrap64 ((s : Int) - ((d + 1 : Nat) : Int) + 1) = (s : Int) - d := by unfold wrap64; omega
    simp only [num_Put.l0]
    rw [if_pos (by omega), e1, if_pos (by omega), if_pos (by omega), e2, ih k _ _ (by omega) (by simpa using hL) (by omega),
      Int.toNat_natCast, drop_set_at L d _ (by omega), div_div, be, List.append_assoc]
    rfl

theorem small_div {n : Int} {s : Nat} (h0 : 0 ≤ n) : n / 256 ^ s = 0 ↔ n < 256 ^ s := by
  constructor
  · intro h
    have h1 := Int.emod_lt_of_pos n (pow_pos s)
    have h2 := Int.emod_add_mul_ediv n (256 ^ s)
    rw [h, Int.mul_zero] at h2
    omega
  · intro h
    exact Int.ediv_eq_zero_of_lt h0 h

theorem put_some (k : Nat) (n : Int) (s : Nat) (h0 : 0 ≤ n) (s1 : 1 ≤ s) (s8 : s ≤ 8) (hk : 10 ≤ k) :
    num_Put.f k n s = some (if n < 256 ^ s then (strOfNums (be s n), 0) else (⟨#[]⟩, 1)) := by
  obtain ⟨k, rfl⟩ : ∃ m, k = m + 1 := ⟨k - 1, by omega⟩
  unfold num_Put.f
  rw [if_neg (by omega)]
  simp only [num_Put.j0]
  rw [if_neg (by simp; omega), if_pos (by omega), if_pos (by omega)]
  have h := put_loop s s8 s k n (List.replicate (s : Int).toNat 0) (Nat.le_refl _) (by simp) (by omega)
  rw [Int.sub_self] at h
  rw [h]
  simp only [small_div h0]
  rw [List.drop_of_length_le (by simp), List.append_nil]

theorem put_none (k : Nat) (n s : Int) (h : s < 1 ∨ 8 < s) (hk : 10 ≤ k) : num_Put.f k n s = some (⟨#[]⟩, 1) := by
  obtain ⟨k, rfl⟩ : ∃ m, k = m + 1 := ⟨k - 1, by omega⟩
  unfold num_Put.f
  by_cases c : s < 1
  · rw [if_pos c]; simp only [num_Put.j0]; rw [if_pos trivial]
  · rw [if_neg c]; simp only [num_Put.j0]; rw [if_pos (by simp; omega)]

theorem text_long (s : ByteArray) (h : 255 < s.size) : num_Text.f s = some (⟨#[]⟩, 16) := by
  unfold num_Text.f
  rw [if_pos (by omega)]

theorem text_short (s : ByteArray) (h : s.size ≤ 255) : num_Text.f s = some (strOfNums [(s.size : Int)] ++ s, 0) := by
  unfold num_Text.f
  rw [if_neg (by omega)]
  have e : (s.size : Int) % 256 = s.size := by omega
  rw [e]
  simp only [Option.bind_some, strOfNums_size, List.length_singleton]
  rw [if_pos (by omega)]

theorem examples_true (k : Nat) (hk : 10 ≤ k) : bailiwicklaw01_examples.f k = some true := by
  unfold bailiwicklaw01_examples.f
  have h1 := put_some k 258 2 (by decide) (by decide) (by decide) hk
  have h2 := put_some k 256 1 (by decide) (by decide) (by decide) hk
  rw [if_pos (by decide)] at h1
  rw [if_neg (by decide)] at h2
  have h3 := text_short ⟨#[97, 98]⟩ (by decide)
  have h1' : num_Put.f k 258 2 = some (strOfNums (be 2 258), 0) := h1
  have h2' : num_Put.f k 256 1 = some (⟨#[]⟩, 1) := h2
  rw [h1', h2', h3]
  simp only [Option.bind_some]
  have e1 : (strOfNums (be 2 258)).toList = ([1, 2] : List UInt8) := by rw [toList_nums]; decide
  have e2 : (strOfNums [((⟨#[97, 98]⟩ : ByteArray).size : Int)] ++ ⟨#[97, 98]⟩).toList = ([2, 97, 98] : List UInt8) := by rw [ByteArray.toList_eq]; decide
  rw [e1, e2]
  rfl

/-! Take: the loop, and the whole -/
theorem take_bounds (b : ByteArray) (i : Nat) (hi : i < 8) :
    (0 ≤ val ((bytesOf b).take i) * 256 ∧ val ((bytesOf b).take i) * 256 < 18446744073709551616) ∧ (0 ≤ bt b i ∧ bt b i < 18446744073709551616) ∧
      (0 ≤ val ((bytesOf b).take i) * 256 + bt b i ∧ val ((bytesOf b).take i) * 256 + bt b i < 18446744073709551616) := by
  have ⟨v0, v1⟩ := take_val_lt (bytesOf b) (bytesOf_byte b) i hi
  have ⟨b0, b1⟩ := bt_range b i
  omega

theorem take_snoc (b : ByteArray) (i : Nat) (hb : i < b.size) : val ((bytesOf b).take i) * 256 + bt b i = val ((bytesOf b).take (i + 1)) := by
  rw [rd_take_succ _ i (by rw [bytesOf_length]; omega), val_snoc, rd_bytesOf]

theorem take_step (b : ByteArray) (i : Nat) (hi : i < 8) (hb : i < b.size) :
    IntKind.u64.wrap (IntKind.u64.wrap (val ((bytesOf b).take i) * 256) + IntKind.u64.wrap (bt b i)) = val ((bytesOf b).take (i + 1)) := by
  have ⟨h1, h2, h3⟩ := take_bounds b i hi
  rw [wrap_u64 h1.1 h1.2, wrap_u64 h2.1 h2.2, wrap_u64 h3.1 h3.2, take_snoc b i hb]

theorem take_loop (b : ByteArray) (s : Nat) (hs : s ≤ 8) (hb : s ≤ b.size) (d : Nat) : ∀ (k i : Nat), i + d = s → d < k →
    num_Take.l0 k b s (val ((bytesOf b).take i)) s i = some (val ((bytesOf b).take s), b.extract s b.size, 0) := by
  induction d with
  | zero =>
    intro k i hi hk
    obtain ⟨k, rfl⟩ : ∃ m, k = m + 1 := ⟨k - 1, by omega⟩
    obtain rfl : i = s := by omega
    simp only [num_Take.l0]
    rw [if_neg (by omega), if_pos (by omega), if_pos (by omega), Int.toNat_natCast]
  | succ d ih =>
    intro k i hi hk
    obtain ⟨k, rfl⟩ : ∃ m, k = m + 1 := ⟨k - 1, by omega⟩
    have e4 : wrap64 ((i : Int) + 1) = ((i + 1 : Nat) : Int) := by unfold wrap64; omega
    simp only [num_Take.l0]
    rw [if_pos (by omega), if_pos (by omega), if_pos (by omega), take_step b i (by omega) (by omega), e4]
    exact ih k (i + 1) (by omega) (by omega)

theorem take_some (k : Nat) (b : ByteArray) (s : Nat) (s1 : 1 ≤ s) (s8 : s ≤ 8) (hb : s ≤ b.size) (hk : 10 ≤ k) :
    num_Take.f k b s = some (val ((bytesOf b).take s), b.extract s b.size, 0) := by
  obtain ⟨k, rfl⟩ : ∃ m, k = m + 1 := ⟨k - 1, by omega⟩
  unfold num_Take.f
  rw [if_neg (by omega)]
  simp only [num_Take.j0]
  rw [if_neg (by simp; omega), if_neg (by omega)]
  exact take_loop b s s8 hb s k 0 (by omega) (by omega)

theorem take_short (k : Nat) (b : ByteArray) (s : Int) (s1 : 1 ≤ s) (s8 : s ≤ 8) (hb : (b.size : Int) < s) (hk : 10 ≤ k) :
    num_Take.f k b s = some (0, ⟨#[]⟩, 2) := by
  obtain ⟨k, rfl⟩ : ∃ m, k = m + 1 := ⟨k - 1, by omega⟩
  unfold num_Take.f
  rw [if_neg (by omega)]
  simp only [num_Take.j0]
  rw [if_neg (by simp; omega), if_pos (by omega)]

theorem take_none (k : Nat) (b : ByteArray) (s : Int) (h : s < 1 ∨ 8 < s) (hk : 10 ≤ k) : num_Take.f k b s = some (0, ⟨#[]⟩, 1) := by
  obtain ⟨k, rfl⟩ : ∃ m, k = m + 1 := ⟨k - 1, by omega⟩
  unfold num_Take.f
  by_cases c : s < 1
  · rw [if_pos c]; simp only [num_Take.j0]; rw [if_pos trivial]
  · rw [if_neg c]; simp only [num_Take.j0]; rw [if_pos (by simp; omega)]

/-! TakeText -/
theorem wrap_bt (b : ByteArray) (i : Int) : wrap64 (bt b i) = bt b i := by
  have := bt_range b i
  unfold wrap64
  omega

theorem empty_of {b : ByteArray} (h : b.toList = []) : b.size = 0 := by
  rw [ByteArray.toList_eq] at h
  have := congrArg List.length h
  rw [data_length] at this
  simpa using this

theorem not_empty {b : ByteArray} (h : ¬ b.toList = []) : 0 < b.size := by
  rw [ByteArray.toList_eq] at h
  rcases Nat.eq_zero_or_pos b.size with c | c
  · refine absurd ?_ h
    apply List.eq_nil_of_length_eq_zero
    rw [data_length]; exact c
  · exact c

theorem taketext_none (b : ByteArray) (h : b.size = 0 ∨ (b.size : Int) ≤ bt b 0) (hb : b.size ≤ 9223372036854775807) : num_TakeText.f b = some (⟨#[]⟩, ⟨#[]⟩, 2) := by
  unfold num_TakeText.f
  by_cases c : b.toList = []
  · rw [if_pos c]
  · have := not_empty c
    rw [if_neg c, if_pos (by omega), wrap_bt, if_pos (by omega)]

theorem taketext_some (b : ByteArray) (n : Nat) (hn : bt b 0 = n) (h0 : 0 < b.size) (h : n < b.size) : num_TakeText.f b = some (b.extract 1 (n + 1), b.extract (n + 1) b.size, 0) := by
  have hr := bt_range b 0
  unfold num_TakeText.f
  have c : ¬ b.toList = [] := fun c => by have := empty_of c; omega
  have e : wrap64 ((n : Int) + 1) = ((n + 1 : Nat) : Int) := by unfold wrap64; omega
  rw [if_neg c, if_pos (by omega), wrap_bt, hn, if_neg (by omega), e, if_pos (by omega), if_pos (by omega), if_pos (by omega), Int.toNat_natCast]

/-! The document's answer -/
theorem ref_step (b : ByteArray) (i : Nat) (hi : i < 8) (hb : i < b.size) :
    Go.bits .or .u64 (IntKind.u64.wrap (val ((bytesOf b).take i) * 256)) (IntKind.u64.wrap (bt b i)) = val ((bytesOf b).take (i + 1)) := by
  have ⟨h1, h2, _⟩ := take_bounds b i hi
  have ⟨v0, v1⟩ := take_val_lt (bytesOf b) (bytesOf_byte b) i hi
  have ⟨b0, b1⟩ := bt_range b i
  rw [wrap_u64 h1.1 h1.2, wrap_u64 h2.1 h2.2, or_byte _ _ v0 v1 b0 (by omega), take_snoc b i hb]

theorem ref_loop (b : ByteArray) (s : Nat) (hs : s ≤ 8) (hb : s ≤ b.size) (d : Nat) : ∀ (k i : Nat), i + d = s → d < k →
    bailiwickref01_Take.l0 k b s (val ((bytesOf b).take i)) i = some (val ((bytesOf b).take s), b.extract s b.size, 0) := by
  induction d with
  | zero =>
    intro k i hi hk
    obtain ⟨k, rfl⟩ : ∃ m, k = m + 1 := ⟨k - 1, by omega⟩
    obtain rfl : i = s := by omega
    simp only [bailiwickref01_Take.l0]
    rw [if_neg (by omega), if_pos (by omega), if_pos (by omega), Int.toNat_natCast]
  | succ d ih =>
    intro k i hi hk
    obtain ⟨k, rfl⟩ : ∃ m, k = m + 1 := ⟨k - 1, by omega⟩
    have e4 : wrap64 ((i : Int) + 1) = ((i + 1 : Nat) : Int) := by unfold wrap64; omega
    simp only [bailiwickref01_Take.l0]
    rw [if_pos (by omega), if_pos (by omega), if_pos (by omega), ref_step b i (by omega) (by omega), e4]
    exact ih k (i + 1) (by omega) (by omega)

theorem ref_some (k : Nat) (b : ByteArray) (s : Nat) (s1 : 1 ≤ s) (s8 : s ≤ 8) (hb : s ≤ b.size) (hk : 10 ≤ k) :
    bailiwickref01_Take.f k b s = some (val ((bytesOf b).take s), b.extract s b.size, 0) := by
  obtain ⟨k, rfl⟩ : ∃ m, k = m + 1 := ⟨k - 1, by omega⟩
  unfold bailiwickref01_Take.f
  rw [if_neg (by omega)]
  simp only [bailiwickref01_Take.j0]
  rw [if_neg (by simp; omega), if_neg (by omega)]
  exact ref_loop b s s8 hb s k 0 (by omega) (by omega)

theorem ref_short (k : Nat) (b : ByteArray) (s : Int) (s1 : 1 ≤ s) (s8 : s ≤ 8) (hb : (b.size : Int) < s) (hk : 10 ≤ k) :
    bailiwickref01_Take.f k b s = some (0, ⟨#[]⟩, 2) := by
  obtain ⟨k, rfl⟩ : ∃ m, k = m + 1 := ⟨k - 1, by omega⟩
  unfold bailiwickref01_Take.f
  rw [if_neg (by omega)]
  simp only [bailiwickref01_Take.j0]
  rw [if_neg (by simp; omega), if_pos (by omega)]

theorem ref_none (k : Nat) (b : ByteArray) (s : Int) (h : s < 1 ∨ 8 < s) (hk : 10 ≤ k) : bailiwickref01_Take.f k b s = some (0, ⟨#[]⟩, 1) := by
  obtain ⟨k, rfl⟩ : ∃ m, k = m + 1 := ⟨k - 1, by omega⟩
  unfold bailiwickref01_Take.f
  by_cases c : s < 1
  · rw [if_pos c]; simp only [bailiwickref01_Take.j0]; rw [if_pos trivial]
  · rw [if_neg c]; simp only [bailiwickref01_Take.j0]; rw [if_pos (by simp; omega)]

theorem reftext_none (b : ByteArray) (h : b.size = 0 ∨ (b.size : Int) ≤ bt b 0) (hb : b.size ≤ 9223372036854775807) : bailiwickref01_TakeText.f b = some (⟨#[]⟩, ⟨#[]⟩, false) := by
  unfold bailiwickref01_TakeText.f
  by_cases c : b.toList = []
  · rw [if_pos c]
  · have := not_empty c
    have e : wrap64 ((b.size : Int) - 1) = (b.size : Int) - 1 := by unfold wrap64; omega
    rw [if_neg c, if_pos (by omega), wrap_bt, e, if_pos (by omega)]

theorem reftext_some (b : ByteArray) (n : Nat) (hn : bt b 0 = n) (h0 : 0 < b.size) (h : n < b.size) (hb : b.size ≤ 9223372036854775807) : bailiwickref01_TakeText.f b = some (b.extract 1 (n + 1), b.extract (n + 1) b.size, true) := by
  have hr := bt_range b 0
  unfold bailiwickref01_TakeText.f
  have c : ¬ b.toList = [] := fun c => by have := empty_of c; omega
  have e : wrap64 (1 + (n : Int)) = ((n + 1 : Nat) : Int) := by unfold wrap64; omega
  have e2 : wrap64 ((b.size : Int) - 1) = (b.size : Int) - 1 := by unfold wrap64; omega
  rw [if_neg c, if_pos (by omega), wrap_bt, hn, e2, if_neg (by omega), e, if_pos (by omega), if_pos (by omega), if_pos (by omega), Int.toNat_natCast]

theorem NumReads : bailiwicklaw01_NumReads.Pure := by
  intro b size hb hs
  refine ⟨10, ?_⟩
  unfold bailiwicklaw01_NumReads.f
  rw [examples_true 10 (Nat.le_refl _)]
  have hT : ∃ x y, (num_TakeText.f b = some (x, y, 2) ∧ bailiwickref01_TakeText.f b = some (x, y, false)) ∨ (num_TakeText.f b = some (x, y, 0) ∧ bailiwickref01_TakeText.f b = some (x, y, true)) := by
    by_cases c : b.size = 0 ∨ (b.size : Int) ≤ bt b 0
    · exact ⟨_, _, .inl ⟨taketext_none b c (by omega), reftext_none b c (by omega)⟩⟩
    · have ⟨r0, r1⟩ := bt_range b 0
      obtain ⟨n, hn⟩ := Int.eq_ofNat_of_zero_le r0
      exact ⟨_, _, .inr ⟨taketext_some b n hn (by omega) (by omega), reftext_some b n hn (by omega) (by omega) (by omega)⟩⟩
  have hP : ∃ x y z, num_Take.f 10 b size = some (x, y, z) ∧ bailiwickref01_Take.f 10 b size = some (x, y, z) := by
    by_cases c : size < 1 ∨ 8 < size
    · exact ⟨_, _, _, take_none 10 b size c (Nat.le_refl _), ref_none 10 b size c (Nat.le_refl _)⟩
    · by_cases d : (b.size : Int) < size
      · exact ⟨_, _, _, take_short 10 b size (by omega) (by omega) d (Nat.le_refl _), ref_short 10 b size (by omega) (by omega) d (Nat.le_refl _)⟩
      · obtain ⟨s, rfl⟩ := Int.eq_ofNat_of_zero_le (show 0 ≤ size by omega)
        exact ⟨_, _, _, take_some 10 b s (by omega) (by omega) (by omega) (Nat.le_refl _), ref_some 10 b s (by omega) (by omega) (by omega) (Nat.le_refl _)⟩
  obtain ⟨x, y, hT⟩ := hT
  obtain ⟨u, v, z, p1, p2⟩ := hP
  rcases hT with ⟨a, c⟩ | ⟨a, c⟩ <;> rw [a, c, p1, p2] <;> simp

end Go.Proofs.Ytgfdppkhaanfkaa.Pure
