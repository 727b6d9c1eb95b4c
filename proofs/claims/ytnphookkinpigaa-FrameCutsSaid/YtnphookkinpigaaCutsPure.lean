/- A stream of frames over bytes: however it is added, Next tells its texts in order; conditions: texts of at most 200 bytes. -/
import Derived.Test.YtnphookkinpigaaNext
namespace Go.Proofs.Ytnphookkinpigaa.CutsPure
open Go.RowKit Go.Proofs.YtnphookkinpigaaW.PrintWords Go.Proofs.YtnphookkinpigaaW.PrintLast Go.Proofs.YtnphookkinpigaaW.PrintMore Go.Proofs.Ytnphookkinpigaa.Math Go.Proofs.Ytnphookkinpigaa.Frame
attribute [local go_sem] min2_int min_two

/-! A stream of frames, and how far it has been read -/
/-- A text, cut to at most 200 bytes. -/
def cut (s : ByteArray) : ByteArray := s.extract 0 (min s.size 200)

theorem cut_size (s : ByteArray) : (cut s).size ≤ 200 := by
  rw [cut, ByteArray.size_extract]
  omega

theorem len_cut (s : ByteArray) : ∃ m : Nat, Aside0 (m ≤ s.size) ∧ (if (200 : Int) < (s.size : Int) then 200 else (s.size : Int)) = (m : Int) ∧ s.extract 0 m = cut s := by
  refine ⟨min s.size 200, ⟨Nat.min_le_left _ _⟩, ?_, rfl⟩
  split <;> omega

/-- Texts as frames, one behind the other. -/
def flat : List ByteArray → ByteArray
  | [] => ⟨#[]⟩
  | s :: l => frm s ++ flat l

theorem flat_snoc (l : List ByteArray) (s : ByteArray) : flat (l ++ [s]) = flat l ++ frm s := by
  induction l with
  | nil =>
    show frm s ++ ⟨#[]⟩ = ⟨#[]⟩ ++ frm s
    rw [app_empty, empty_app]
  | cons x l ih =>
    show frm x ++ flat (l ++ [s]) = frm x ++ flat l ++ frm s
    rw [ih, app_assoc]

theorem flat_size (l : List ByteArray) (h : ∀ c ∈ l, c.size ≤ 200) : (flat l).size ≤ 202 * l.length := by
  induction l with
  | nil => exact Nat.le_refl _
  | cons x l ih =>
    have h1 := h x (List.mem_cons_self ..)
    have h2 := ih fun c hc => h c (List.mem_cons_of_mem _ hc)
    show (frm x ++ flat l).size ≤ _
    rw [ByteArray.size_append, List.length_cons, frm_size]
    omega

/-- So many texts have been told, these bytes lie in the reader, those are still to be added. -/
def Inv (L : List ByteArray) (k : Nat) (p a : ByteArray) : Prop := k ≤ L.length ∧ p ++ a = flat (L.drop k)
/-- The reader holds no whole frame. -/
def Inc (L : List ByteArray) (k : Nat) (p : ByteArray) : Prop := ∀ c, L[k]? = some c → p.size < (frm c).size

theorem size_empty : (⟨#[]⟩ : ByteArray).size = 0 := rfl

theorem of_size {a : ByteArray} (h : a.size = 0) : a = ⟨#[]⟩ := by
  apply of_bytesOf
  have : (bytesOf a).length = 0 := by rw [bytesOf_length, h]
  rw [List.eq_nil_of_length_eq_zero this]
  rfl

theorem add_step {L : List ByteArray} {k : Nat} {p a : ByteArray} (n : Nat) (h : Inv L k p a) : Inv L k (p ++ a.extract 0 n) (a.extract n a.size) := by
  refine ⟨h.1, ?_⟩
  rw [← h.2, app_assoc]
  congr 1
  apply of_bytesOf
  rw [bytesOf_append, extract_bytesOf, extract_bytesOf, List.drop_zero, Nat.sub_zero, List.take_of_length_le (l := (bytesOf a).drop n) (by rw [List.length_drop, bytesOf_length]; omega), List.take_append_drop]

theorem next_step {L : List ByteArray} (hL : ∀ c ∈ L, c.size ≤ 200) {k : Nat} {p a : ByteArray} (h : Inv L k p a) :
    (nextF p false = (⟨#[]⟩, false, 0, p, false) ∧ Inc L k p) ∨ ∃ c q, L[k]? = some c ∧ nextF p false = (c, true, 0, q, false) ∧ Inv L (k + 1) q a := by
  obtain ⟨h1, h2⟩ := h
  by_cases e : k < L.length
  · have hc : L[k]? = some L[k] := List.getElem?_eq_getElem e
    have hs : L[k].size ≤ 200 := hL _ (List.getElem_mem e)
    rw [List.drop_eq_getElem_cons e] at h2
    have h3 : p ++ a = frm L[k] ++ flat (L.drop (k + 1)) := h2
    generalize L[k] = c at hc hs h3
    by_cases d : p.size < (frm c).size
    · left
      have hp : p = (frm c ++ flat (L.drop (k + 1))).extract 0 p.size := by rw [← h3, extract_left]
      refine ⟨nextF_part p c _ hs p.size (by rw [frm_size] at d; omega) hp, fun c' hc' => ?_⟩
      rw [hc] at hc'
      rw [← Option.some.inj hc']
      exact d
    · right
      have hb := congrArg bytesOf h3
      rw [bytesOf_append, bytesOf_append] at hb
      have hl : (bytesOf (frm c)).length ≤ (bytesOf p).length := by rw [bytesOf_length, bytesOf_length]; omega
      have hp : bytesOf p = bytesOf (frm c) ++ (bytesOf p).drop (bytesOf (frm c)).length := by
        have t1 := congrArg (List.take (bytesOf (frm c)).length) hb
        rw [List.take_append_of_le_length hl, List.take_left' rfl] at t1
        conv => lhs; rw [← List.take_append_drop (bytesOf (frm c)).length (bytesOf p), t1]
      have hq : (bytesOf p).drop (bytesOf (frm c)).length ++ bytesOf a = bytesOf (flat (L.drop (k + 1))) := by
        rw [hp, List.append_assoc] at hb
        exact List.append_cancel_left hb
      have hby : Byte ((bytesOf p).drop (bytesOf (frm c)).length) := byte_drop (bytesOf_byte p) _
      refine ⟨c, strOfNums ((bytesOf p).drop (bytesOf (frm c)).length), hc, ?_, by omega, ?_⟩
      · have e1 : p = frm c ++ strOfNums ((bytesOf p).drop (bytesOf (frm c)).length) := by
          apply of_bytesOf
          rw [bytesOf_append, bytesOf_str _ hby]
          exact hp
        have e2 := nextF_frm c (strOfNums ((bytesOf p).drop (bytesOf (frm c)).length)) hs
        rw [← e1] at e2
        exact e2
      · apply of_bytesOf
        rw [bytesOf_append, bytesOf_str _ hby]
        exact hq
  · left
    have hk : L.drop k = [] := List.drop_of_length_le (by omega)
    rw [hk] at h2
    have hz := congrArg ByteArray.size h2
    rw [ByteArray.size_append] at hz
    have hz2 : p.size + a.size = 0 := hz
    refine ⟨nextF_short p (by omega), fun c hc => ?_⟩
    rw [List.getElem?_eq_none (by omega)] at hc
    cases hc

theorem at_end {L : List ByteArray} {k : Nat} {p : ByteArray} (h : Inv L k p ⟨#[]⟩) (hi : Inc L k p) : k = L.length ∧ p = ⟨#[]⟩ := by
  obtain ⟨h1, h2⟩ := h
  rw [app_empty] at h2
  by_cases e : k < L.length
  · exfalso
    have hc : L[k]? = some L[k] := List.getElem?_eq_getElem e
    have := hi _ hc
    rw [List.drop_eq_getElem_cons e] at h2
    have h3 : p = frm L[k] ++ flat (L.drop (k + 1)) := h2
    rw [h3, ByteArray.size_append] at this
    omega
  · have hk : L.drop k = [] := List.drop_of_length_le (by omega)
    rw [hk] at h2
    exact ⟨by omega, h2⟩

theorem inv_start (L : List ByteArray) : Inv L 0 ⟨#[]⟩ (flat L) := ⟨Nat.zero_le _, by rw [empty_app, List.drop_zero]⟩

theorem inc_start (L : List ByteArray) (k : Nat) : Inc L k ⟨#[]⟩ := fun c _ => by
  rw [frm_size]
  show 0 < _
  omega

end Go.Proofs.Ytnphookkinpigaa.CutsPure
