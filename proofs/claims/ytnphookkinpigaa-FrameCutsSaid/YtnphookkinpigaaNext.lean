/- What Next tells of frames, over bytes; conditions: texts of at most 200 bytes, where a theorem names them. -/
import Derived.Test.YtnphookkinpigaaCalls
namespace Go.Proofs.Ytnphookkinpigaa.Frame
open Go.RowKit Go.Proofs.Ytnphookkinpigaa.PTake Go.Proofs.Ytnphookkinpigaa.PPut Go.Proofs.YtnphookkinpigaaW.PrintWords Go.Proofs.YtnphookkinpigaaW.PrintLast Go.Proofs.YtnphookkinpigaaW.PrintMore Go.Proofs.Ytnphookkinpigaa.Math

/-! What Next tells of frames -/
theorem pow2 : (256 : Int) ^ 2 = 65536 := by decide

theorem nextF_short (b : ByteArray) (h : b.size < 2) : nextF b false = (⟨#[]⟩, false, 0, b, false) := by
  unfold nextF
  rw [if_neg (by decide), if_pos h]

theorem nextF_long (b : ByteArray) (n : Nat) (h : 2 ≤ b.size) (hn : val ((bytesOf b).take 2) = (n : Int)) (hl : 200 < n) : nextF b false = (⟨#[]⟩, false, 16, ⟨#[]⟩, true) := by
  unfold nextF
  rw [if_neg (by decide), if_neg (by omega), hn, Int.toNat_natCast, if_pos hl]

theorem nextF_wait (b : ByteArray) (n : Nat) (h : 2 ≤ b.size) (hn : val ((bytesOf b).take 2) = (n : Int)) (hl : n ≤ 200) (hw : b.size < 2 + n) : nextF b false = (⟨#[]⟩, false, 0, b, false) := by
  unfold nextF
  rw [if_neg (by decide), if_neg (by omega), hn, Int.toNat_natCast, if_neg (by omega), if_pos hw]

theorem nextF_tell (b : ByteArray) (n : Nat) (h : 2 + n ≤ b.size) (hn : val ((bytesOf b).take 2) = (n : Int)) (hl : n ≤ 200) : nextF b false = (b.extract 2 (2 + n), true, 0, b.extract (2 + n) b.size, false) := by
  unfold nextF
  rw [if_neg (by decide), if_neg (by omega), hn, Int.toNat_natCast, if_neg (by omega), if_neg (by omega)]

/-- Two bytes that say n, and what stands behind. -/
theorem head_val (n : Nat) (hn : n < 65536) (rest : ByteArray) : val ((bytesOf (strOfNums (be 2 n) ++ rest)).take 2) = (n : Int) := by
  have hl : (be 2 (n : Int)).length = 2 := be_length 2 _
  rw [bytesOf_append, bytesOf_str _ (be_byte 2 n), List.take_left' hl]
  exact val_be 2 n (by omega) (by rw [pow2]; omega)

theorem head_size (n : Nat) (rest : ByteArray) : (strOfNums (be 2 n) ++ rest).size = 2 + rest.size := by
  rw [ByteArray.size_append, strOfNums_size, be_length]

theorem head_extract (n : Nat) (rest : ByteArray) (i j : Nat) : (strOfNums (be 2 n) ++ rest).extract (2 + i) (2 + j) = rest.extract i j := by
  apply of_bytesOf
  have hl : (be 2 (n : Int)).length = 2 := be_length 2 _
  rw [extract_bytesOf, extract_bytesOf, bytesOf_append, bytesOf_str _ (be_byte 2 n), List.drop_append, List.drop_of_length_le (by omega), List.nil_append, hl, Nat.add_sub_cancel_left, Nat.add_sub_add_left]

theorem extract_left (a b : ByteArray) : (a ++ b).extract 0 a.size = a := by
  apply of_bytesOf
  rw [extract_bytesOf, bytesOf_append, List.drop_zero, Nat.sub_zero, List.take_left' (bytesOf_length a)]

theorem extract_right (a b : ByteArray) : (a ++ b).extract a.size (a.size + b.size) = b := by
  apply of_bytesOf
  rw [extract_bytesOf, bytesOf_append, List.drop_left' (bytesOf_length a), Nat.add_sub_cancel_left, List.take_of_length_le (by rw [bytesOf_length]; exact Nat.le_refl _)]

theorem app_empty (a : ByteArray) : a ++ (⟨#[]⟩ : ByteArray) = a := by
  apply of_bytesOf
  rw [bytesOf_append]
  exact List.append_nil _

theorem empty_app (a : ByteArray) : (⟨#[]⟩ : ByteArray) ++ a = a := by
  apply of_bytesOf
  rw [bytesOf_append]
  rfl

theorem app_assoc (a b c : ByteArray) : a ++ b ++ c = a ++ (b ++ c) := by
  apply of_bytesOf
  simp only [bytesOf_append, List.append_assoc]

/-- A whole frame ahead: its text is told, and what stands behind it is left. -/
theorem nextF_frm (s rest : ByteArray) (h : s.size ≤ 200) : nextF (frm s ++ rest) false = (s, true, 0, rest, false) := by
  have e : frm s ++ rest = strOfNums (be 2 s.size) ++ (s ++ rest) := by rw [frm, app_assoc]
  have hz : (strOfNums (be 2 s.size) ++ (s ++ rest)).size = 2 + (s.size + rest.size) := by rw [head_size, ByteArray.size_append]
  rw [e, nextF_tell _ s.size (by omega) (head_val s.size (by omega) _) h]
  have e1 := head_extract s.size (s ++ rest) 0 s.size
  have e2 := head_extract s.size (s ++ rest) s.size (s.size + rest.size)
  rw [extract_left] at e1
  rw [extract_right] at e2
  rw [Nat.add_zero] at e1
  rw [e1, hz, e2]

theorem nextF_frm0 (s rest : ByteArray) (h : s.size ≤ 200) : nextF (⟨#[]⟩ ++ (frm s ++ rest)) false = (s, true, 0, rest, false) := by
  rw [empty_app, nextF_frm s rest h]

/-- A frame's beginning alone tells nothing. -/
theorem nextF_part (b s rest : ByteArray) (h : s.size ≤ 200) (j : Nat) (hj : j < s.size + 2) (hb : b = (frm s ++ rest).extract 0 j) : nextF b false = (⟨#[]⟩, false, 0, b, false) := by
  have hz : (frm s ++ rest).size = s.size + 2 + rest.size := by rw [ByteArray.size_append, frm_size]
  have hbz : b.size = j := by rw [hb, ByteArray.size_extract]; omega
  by_cases c : j < 2
  · exact nextF_short b (by omega)
  · have hv : val ((bytesOf b).take 2) = (s.size : Int) := by
      rw [hb, extract_bytesOf, List.drop_zero, Nat.sub_zero, List.take_take, Nat.min_eq_left (by omega), frm, app_assoc]
      exact head_val s.size (by omega) _
    exact nextF_wait b s.size (by omega) hv h (by omega)

end Go.Proofs.Ytnphookkinpigaa.Frame
