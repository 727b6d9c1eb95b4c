/- Numbers as bytes, the greatest byte first: plain facts, no program in sight. Conditions: each byte is 0 to 255. -/
import Derived.Test.YtnphookkinpigaaWMore
import Derived.Laws.BitsAllLaws
import Derived.Laws.Strings
namespace Go.Proofs.Ytnphookkinpigaa.Math
open Go.RowKit Go.Proofs.YtnphookkinpigaaW.PrintWords

def be : Nat → Int → List Int
  | 0, _ => []
  | s + 1, n => be s (n / 256) ++ [n % 256]

def val (l : List Int) : Int := l.foldl (fun a b => a * 256 + b) 0

def Byte (l : List Int) : Prop := ∀ x ∈ l, 0 ≤ x ∧ x < 256

theorem be_length (s : Nat) : ∀ n, (be s n).length = s := by
  induction s with
  | zero => intro n; rfl
  | succ s ih => intro n; simp [be, ih]

theorem be_byte (s : Nat) : ∀ n, Byte (be s n) := by
  induction s with
  | zero => intro n x hx; simp [be] at hx
  | succ s ih =>
    intro n x hx
    rw [be, List.mem_append] at hx
    rcases hx with h | h
    · exact ih _ x h
    · rw [List.mem_singleton] at h; subst h; omega

theorem val_nil : val [] = 0 := rfl

theorem val_snoc (l : List Int) (x : Int) : val (l ++ [x]) = val l * 256 + x := by simp [val]

theorem val_cons_from (l : List Int) : ∀ a : Int, l.foldl (fun a b => a * 256 + b) a = a * 256 ^ l.length + val l := by
  induction l with
  | nil => intro a; simp [val]
  | cons x l ih =>
    intro a
    have h1 := ih (a * 256 + x)
    have h2 := ih (0 * 256 + x)
    simp only [val, List.foldl_cons, List.length_cons] at h1 h2 ⊢
    rw [h1, h2, Int.add_mul, Int.pow_succ, Int.mul_assoc, Int.mul_comm 256 (256 ^ l.length), Int.zero_mul, Int.zero_add, Int.add_assoc]

theorem val_append (l m : List Int) : val (l ++ m) = val l * 256 ^ m.length + val m := by
  rw [val, List.foldl_append]
  exact val_cons_from m _

theorem val_cons (x : Int) (l : List Int) : val (x :: l) = x * 256 ^ l.length + val l := by
  have h := val_append [x] l
  simpa [val] using h

theorem pow_pos (s : Nat) : (0 : Int) < 256 ^ s := Int.pow_pos (by decide)

theorem val_range (l : List Int) (h : Byte l) : 0 ≤ val l ∧ val l < 256 ^ l.length := by
  induction l with
  | nil => simp [val]
  | cons x l ih =>
    have ⟨i1, i2⟩ := ih (fun y hy => h y (List.mem_cons_of_mem _ hy))
    have ⟨x1, x2⟩ := h x (List.mem_cons_self ..)
    rw [val_cons, List.length_cons, Int.pow_succ]
    have hp := pow_pos l.length
    have a1 : 0 ≤ x * 256 ^ l.length := Int.mul_nonneg x1 (Int.le_of_lt hp)
    have a2 : x * 256 ^ l.length ≤ 255 * 256 ^ l.length := Int.mul_le_mul_of_nonneg_right (by omega) (Int.le_of_lt hp)
    omega

theorem div_lt {n : Int} {s : Nat} (h : n < 256 ^ (s + 1)) : n / 256 < 256 ^ s := by
  rw [Int.pow_succ] at h
  omega

theorem val_be (s : Nat) : ∀ n, 0 ≤ n → n < 256 ^ s → val (be s n) = n := by
  induction s with
  | zero => intro n h0 h; simp at h; simp [be, val]; omega
  | succ s ih =>
    intro n h0 h
    rw [be, val_snoc, ih _ (by omega) (div_lt h)]
    omega

theorem snoc_of {l : List Int} {s : Nat} (h : l.length = s + 1) : ∃ m x, l = m ++ [x] ∧ m.length = s := by
  have hne : l ≠ [] := by intro e; rw [e] at h; simp at h
  refine ⟨l.dropLast, l.getLast hne, (List.dropLast_concat_getLast hne).symm, ?_⟩
  rw [List.length_dropLast, h]; rfl

theorem be_val (s : Nat) : ∀ l, l.length = s → Byte l → be s (val l) = l := by
  induction s with
  | zero => intro l h _; rw [List.length_eq_zero_iff.1 h]; rfl
  | succ s ih =>
    intro l h hb
    obtain ⟨m, x, rfl, hm⟩ := snoc_of h
    have ⟨x1, x2⟩ := hb x (List.mem_append_right _ (List.mem_singleton.2 rfl))
    have hbm : Byte m := fun y hy => hb y (List.mem_append_left _ hy)
    rw [be, val_snoc, show (val m * 256 + x) / 256 = val m by omega, show (val m * 256 + x) % 256 = x by omega, ih m hm hbm]

theorem be_inj {s : Nat} {n m : Int} (n0 : 0 ≤ n) (m0 : 0 ≤ m) (hn : n < 256 ^ s) (hm : m < 256 ^ s) (h : be s n = be s m) : n = m := by
  rw [← val_be s n n0 hn, h, val_be s m m0 hm]

/-! bytes and their numbers -/
theorem chr_inj {x y : Int} (hx : 0 ≤ x ∧ x < 256) (hy : 0 ≤ y ∧ y < 256) (h : UInt8.ofNat x.toNat = UInt8.ofNat y.toNat) : x = y := by
  have e := congrArg UInt8.toNat h
  simp only [UInt8.toNat_ofNat'] at e
  omega

theorem chr_lt {x y : Int} (hx : 0 ≤ x ∧ x < 256) (hy : 0 ≤ y ∧ y < 256) : (UInt8.ofNat x.toNat < UInt8.ofNat y.toNat) ↔ x < y := by
  rw [UInt8.lt_iff_toNat_lt]
  simp only [UInt8.toNat_ofNat']
  omega

theorem toList_nums (l : List Int) : (strOfNums l).toList = l.map fun n => UInt8.ofNat n.toNat := by
  rw [ByteArray.toList_eq]; rfl

theorem bytes_ext {a b : ByteArray} (h : a.toList = b.toList) : a = b := by
  rw [ByteArray.toList_eq, ByteArray.toList_eq] at h
  cases a; cases b
  congr 1
  exact Array.toList_inj.1 h

theorem map_inj (l : List Int) : ∀ m : List Int, Byte l → Byte m → l.map (fun n => UInt8.ofNat n.toNat) = m.map (fun n => UInt8.ofNat n.toNat) → l = m := by
  induction l with
  | nil => intro m _ _ h; cases m with | nil => rfl | cons _ _ => simp at h
  | cons x l ih =>
    intro m hl hm h
    cases m with
    | nil => simp at h
    | cons y m =>
      simp only [List.map_cons, List.cons.injEq] at h
      rw [chr_inj (hl x (List.mem_cons_self ..)) (hm y (List.mem_cons_self ..)) h.1, ih m (fun z hz => hl z (List.mem_cons_of_mem _ hz)) (fun z hz => hm z (List.mem_cons_of_mem _ hz)) h.2]

/-- Bytes of one length are ordered as their numbers. -/
theorem less_val (l : List Int) : ∀ m : List Int, l.length = m.length → Byte l → Byte m →
    Op.bytesLess (l.map fun n => UInt8.ofNat n.toNat) (m.map fun n => UInt8.ofNat n.toNat) = decide (val l < val m) := by
  induction l with
  | nil =>
    intro m h _ _
    cases m with
    | nil => simp [Op.bytesLess, val]
    | cons _ _ => simp at h
  | cons x l ih =>
    intro m h hl hm
    cases m with
    | nil => simp at h
    | cons y m =>
      have hlen : l.length = m.length := by simpa using h
      have hl' : Byte l := fun z hz => hl z (List.mem_cons_of_mem _ hz)
      have hm' : Byte m := fun z hz => hm z (List.mem_cons_of_mem _ hz)
      have hx := hl x (List.mem_cons_self ..)
      have hy := hm y (List.mem_cons_self ..)
      have ⟨l1, l2⟩ := val_range l hl'
      have ⟨m1, m2⟩ := val_range m hm'
      simp only [List.map_cons, Op.bytesLess]
      rw [ih m hlen hl' hm', val_cons, val_cons, hlen]
      rw [hlen] at l2
      have hp := pow_pos m.length
      generalize (256 : Int) ^ m.length = P at *
      by_cases c : x < y
      · have h3 : (x + 1) * P ≤ y * P := Int.mul_le_mul_of_nonneg_right (by omega) (by omega)
        rw [Int.add_mul, Int.one_mul] at h3
        have h4 : x * P + val l < y * P + val m := by omega
        rw [decide_eq_true h4, decide_eq_true ((chr_lt hx hy).2 c)]
        rfl
      · by_cases d : x = y
        · subst d
          have n1 : ¬ (UInt8.ofNat x.toNat < UInt8.ofNat x.toNat) := fun h => c ((chr_lt hx hy).1 h)
          rw [decide_eq_false n1, beq_self_eq_true, Bool.false_or, Bool.true_and, decide_eq_decide]
          omega
        · have h3 : (y + 1) * P ≤ x * P := Int.mul_le_mul_of_nonneg_right (by omega) (by omega)
          rw [Int.add_mul, Int.one_mul] at h3
          have n1 : ¬ (UInt8.ofNat x.toNat < UInt8.ofNat y.toNat) := fun h => c ((chr_lt hx hy).1 h)
          have n2 : (UInt8.ofNat x.toNat == UInt8.ofNat y.toNat) = false := beq_eq_false_iff_ne.2 fun h => d (chr_inj hx hy h)
          have h4 : ¬ (x * P + val l < y * P + val m) := by omega
          rw [decide_eq_false n1, n2, decide_eq_false h4]
          rfl

/-! a text's bytes as numbers -/
theorem bytesOf_byte (b : ByteArray) : Byte (bytesOf b) := by
  intro x hx
  rw [bytesOf, List.mem_map] at hx
  obtain ⟨c, _, rfl⟩ := hx
  have := c.toNat_lt
  omega

theorem str_bytesOf (b : ByteArray) : strOfNums (bytesOf b) = b := by
  apply bytes_ext
  rw [toList_nums, bytesOf, List.map_map, ByteArray.toList_eq]
  conv => rhs; rw [← List.map_id b.data.toList]
  apply List.map_congr_left
  intro c _
  simp

theorem bytesOf_str (l : List Int) (h : Byte l) : bytesOf (strOfNums l) = l := by
  unfold bytesOf
  rw [strOfNums_data, List.map_map]
  conv => rhs; rw [← List.map_id l]
  apply List.map_congr_left
  intro x hx
  have := h x hx
  simp
  omega

theorem bytesOf_append (a b : ByteArray) : bytesOf (a ++ b) = bytesOf a ++ bytesOf b := by
  simp [bytesOf]

theorem byte_take {l : List Int} (h : Byte l) (n : Nat) : Byte (l.take n) := fun x hx => h x (List.mem_of_mem_take hx)
theorem byte_drop {l : List Int} (h : Byte l) (n : Nat) : Byte (l.drop n) := fun x hx => h x (List.mem_of_mem_drop hx)

theorem rd_take_succ (l : List Int) (i : Nat) (h : i < l.length) : l.take (i + 1) = l.take i ++ [rd l i] := by
  rw [List.take_succ_eq_append_getElem h]
  simp [rd, List.getD_eq_getElem?_getD, List.getElem?_eq_getElem h]

theorem extract_bytesOf (b : ByteArray) (i j : Nat) : bytesOf (b.extract i j) = ((bytesOf b).drop i).take (j - i) := by
  simp [bytesOf, ByteArray.data_extract, Array.toList_extract, List.extract_eq_take_drop, List.map_take, List.map_drop]

theorem of_bytesOf {a b : ByteArray} (h : bytesOf a = bytesOf b) : a = b := by
  rw [← str_bytesOf a, h, str_bytesOf]

theorem take_val_lt (l : List Int) (h : Byte l) (i : Nat) (hi : i < 8) : 0 ≤ val (l.take i) ∧ val (l.take i) < 72057594037927936 := by
  have ⟨h1, h2⟩ := val_range _ (byte_take h i)
  have h3 : (l.take i).length ≤ 7 := by rw [List.length_take]; omega
  have h4 : (256 : Nat) ^ (l.take i).length ≤ 256 ^ 7 := Nat.pow_le_pow_right (by decide) h3
  have h5 : ((256 : Nat) ^ (l.take i).length : Int) = (256 : Int) ^ (l.take i).length := by simp
  have h6 : (256 : Nat) ^ 7 = 72057594037927936 := rfl
  omega

theorem wrap_u64 {x : Int} (h0 : 0 ≤ x) (h : x < 18446744073709551616) : IntKind.u64.wrap x = x := by
  simp only [IntKind.wrap, IntKind.bits, IntKind.signed]
  simp
  omega

theorem or_byte (x y : Int) (x0 : 0 ≤ x) (hx : x < 72057594037927936) (y0 : 0 ≤ y) (hy : y < 256) : Go.bits .or .u64 (x * 256) y = x * 256 + y := by
  obtain ⟨n, rfl⟩ := Int.eq_ofNat_of_zero_le x0
  obtain ⟨m, rfl⟩ := Int.eq_ofNat_of_zero_le y0
  have e : ((n : Int) * 256) = ((n * 256 : Nat) : Int) := by omega
  rw [e, u64_or_nat (n * 256) m (by omega) (by omega)]
  have h := Nat.shiftLeft_add_eq_or_of_lt (i := 8) (b := m) (by omega) n
  rw [Nat.shiftLeft_eq] at h
  rw [show (2 : Nat) ^ 8 = 256 from rfl] at h
  rw [← h]
  omega

end Go.Proofs.Ytnphookkinpigaa.Math
