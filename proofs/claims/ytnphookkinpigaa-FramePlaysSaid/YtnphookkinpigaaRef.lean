/- The document's answer to chapter 20 and what it stands on: contracts; conditions: its reader's block holds a text and a bool. -/
import Derived.Test.YtnphookkinpigaaNext
namespace Go.Proofs.Ytnphookkinpigaa.Ref
open Go.RowKit Go.Proofs.YtnphookkinpigaaW.PrintWords Go.Proofs.YtnphookkinpigaaW.PrintLast Go.Proofs.YtnphookkinpigaaW.PrintMore Go.Proofs.Ytnphookkinpigaa.Math Go.Proofs.Ytnphookkinpigaa.Frame
attribute [local go_sem] min2_int min_two

/-! The document's answer: Take of chapter 1 at two bytes -/
set_option maxHeartbeats 1000000 in
set_option maxRecDepth 100000 in
theorem rtake_short (b : ByteArray) (w : World) (h : b.size < 2) :
    Calls Try.prog 21 #[.string b, .int .i64 2] w fun e w' => e = .returned (.tuple #[.int .u64 0, .string ⟨#[]⟩, .int .i64 2]) ∧ w = w' := by
  have h1 : (b.size : Int) < 2 := by omega
  go_enter Try.func21, Try.ntmps21
  go_wp2
  go_ret3
  exact ⟨rfl, rfl⟩

/-- At a round's head: so much of the two bytes has been read. -/
def RT (b : ByteArray) (vn vi : Value) : Prop :=
  (vi = .int .i64 0 ∧ vn = .int .u64 0) ∨ (vi = .int .i64 1 ∧ vn = .int .u64 (bt b 0)) ∨ (vi = .int .i64 2 ∧ vn = .int .u64 (bt b 0 * 256 + bt b 1))

theorem val2 (b : ByteArray) (h : 2 ≤ b.size) : val ((bytesOf b).take 2) = bt b 0 * 256 + bt b 1 := by
  have hl := bytesOf_length b
  rw [rd_take_succ _ 1 (by omega), rd_take_succ _ 0 (by omega), List.take_zero, List.nil_append, ← rd_bytesOf, ← rd_bytesOf]
  show val [rd (bytesOf b) 0, rd (bytesOf b) 1] = _
  rw [val_cons, val_cons, val_nil]
  simp

theorem or0 (b : ByteArray) (h : 0 < b.size) : Go.bits .or .u64 0 (IntKind.u64.wrap ((b[0]'h).toNat : Int)) = bt b 0 := by
  have e : ((b[0]'h).toNat : Int) = bt b 0 := bt_at b 0 h
  have r := bt_range b 0
  have o := or_byte 0 (bt b 0) (by omega) (by omega) r.1 (by omega)
  rw [e, wrap_u64 r.1 (by omega)]
  simpa using o

theorem or1 (b : ByteArray) (h : 1 < b.size) : Go.bits .or .u64 (bt b 0 * 256) (IntKind.u64.wrap ((b[1]'h).toNat : Int)) = bt b 0 * 256 + bt b 1 := by
  have e : ((b[1]'h).toNat : Int) = bt b 1 := bt_at b 1 h
  have r := bt_range b 1
  have q := bt_range b 0
  have o := or_byte (bt b 0) (bt b 1) q.1 (by omega) r.1 (by omega)
  rw [e, wrap_u64 r.1 (by omega)]
  exact o

set_option maxHeartbeats 1000000 in
set_option maxRecDepth 100000 in
theorem rtake_some (b : ByteArray) (w : World) (h : 2 ≤ b.size) :
    Calls Try.prog 21 #[.string b, .int .i64 2] w fun e w' => e = .returned (.tuple #[.int .u64 (val ((bytesOf b).take 2)), .string (b.extract 2 b.size), .int .i64 0]) ∧ Drawn0 w w' := by
  have h1 : (2 : Int) ≤ (b.size : Int) := by omega
  have hr0 := bt_range b 0
  have hr1 := bt_range b 1
  have hv := Aside0.mk (val2 b h)
  go_enter Try.func21, Try.ntmps21
  go_wp2
  go_loop [7, 8] (fun vn vi => RT b vn vi) (fun _ vi => 2 - (intOf vi).toNat)
  case atStart => exact .inl ⟨rfl, rfl⟩
  case round =>
    rcases hrel with ⟨rfl, rfl⟩ | ⟨rfl, rfl⟩ | ⟨rfl, rfl⟩
    · go_wp2
      go_round
      case rel => exact .inr (.inl ⟨rfl, congrArg (Value.int .u64) (or0 b (by omega))⟩)
      case measure => decide
    · go_wp2
      go_round
      case rel => exact .inr (.inr ⟨rfl, congrArg (Value.int .u64) (or1 b (by omega))⟩)
      case measure => decide
    · go_wp2
      go_quiet (fail)
      go_wp2
      go_ret3
      refine ⟨?_, ⟨_, rfl⟩⟩
      rw [hv.out]
      rfl

/-! and Put -/
theorem mk2 (W : World) : (Instr.makeSlice 45 (.int .i64 2) (.int .i64 2)).run Try.prog W = .ok (.slice (some ⟨W.heap.size, 0, none⟩) 2 2) (W.alloc (.cells #[.int .u8 0, .int .u8 0] 5)) := by
  obtain ⟨i0, hi, hz0, hz1, hz2⟩ := info_parts PPut.info5
  have h := run_makeSlice (P := Try.prog) W 45 5 i0 (.int .u8 0) Try.underlying45 hi hz0 .i64 .i64 2 2 (by decide) (by decide) (by rw [hz1]; decide) (by rw [hz2]; decide) (by decide)
  have hm : madeCells (Value.int IntKind.u8 0).cells (Int.toNat 2 * 1) = #[.int .u8 0, .int .u8 0] := by kernel_rfl
  rw [hz1, hm] at h
  exact h

def RP (B : Nat) (w : World) (n : Int) (vn vi : Value) (W : World) : Prop :=
  ((vi = .int .i64 1 ∧ vn = .int .u64 n ∧ W.heap[B]? = some (.cells #[.int .u8 0, .int .u8 0] 5 (0, 0))) ∨
    (vi = .int .i64 0 ∧ vn = .int .u64 0 ∧ W.heap[B]? = some (.cells #[.int .u8 0, .int .u8 n] 5 (0, 0))) ∨
    (vi = .int .i64 (-1) ∧ vn = .int .u64 0 ∧ W.heap[B]? = some (.cells #[.int .u8 0, .int .u8 n] 5 (0, 0)))) ∧ Below w.heap.size w W ∧ B = w.heap.size

/-- A block of two bytes, as a text. -/
theorem conv_at (W : World) (B : Nat) (x y : Int) (h : W.heap[B]? = some (.cells #[.int .u8 x, .int .u8 y] 5 (0, 0))) : (convert 45 9 (.slice (some ⟨B, 0, none⟩) 2 2)).run Try.prog W = .ok (.string (strOfNums [x, y])) W := by
  refine run_convert_bytes_arg _ 45 5 Try.underlying45 Try.underlying5 B 0 2 2 [x, y] rfl ?_ 9 Try.underlying9
  intro i hi
  obtain rfl | rfl : i = 0 ∨ i = 1 := by omega
  · exact (blk_cell h 0).trans rfl
  · exact (blk_cell h 1).trans rfl

set_option maxHeartbeats 1000000 in
set_option maxRecDepth 100000 in
theorem rput (n : Nat) (w : World) (h : n ≤ 200) :
    Calls Try.prog 23 #[.int .u64 n, .int .i64 2] w fun e w' => e = .returned (.tuple #[.string (strOfNums (be 2 n)), .bool true]) ∧ Below w.heap.size w w' := by
  have h1 : (n : Int) ≤ 200 := by omega
  have h0 : (0 : Int) ≤ (n : Int) := Int.natCast_nonneg _
  have hmk := mk2
  go_enter Try.func23, Try.ntmps23
  go_wp2
  go_loopw [0, 7] (fun vn vi W => RP w.heap.size w n vn vi W) (fun _ vi _ => (intOf vi + 1).toNat)
  case atStart => exact ⟨.inl ⟨rfl, rfl, heap_alloc_new w _⟩, (Below.refl _ _).alloc (Nat.le_refl _) _, rfl⟩
  case round =>
    clear hmk
    obtain ⟨hr, HB, _⟩ := hrel
    have HB := Aside0.mk HB
    rcases hr with ⟨rfl, rfl, hb⟩ | ⟨rfl, rfl, hb⟩ | ⟨rfl, rfl, hb⟩
    · have h0 := blk_cell hb 0
      have h1 := blk_cell hb 1
      have f0 := blk_frozen hb 0
      have f1 := blk_frozen hb 1
      have H := Aside0.mk hb
      clear hb
      go_wp2
      go_roundw
      case rel =>
        have q := blk_set H.out 1 (.int .u8 n)
        have e : (n : Int) / 256 = 0 := by omega
        exact ⟨.inr (.inl ⟨rfl, by rw [e], by simpa using q⟩), below_set HB.out (Nat.le_refl _), rfl⟩
      case measure => decide
    · have h0 := blk_cell hb 0
      have h1 := blk_cell hb 1
      have f0 := blk_frozen hb 0
      have f1 := blk_frozen hb 1
      have H := Aside0.mk hb
      clear hb
      go_wp2
      go_roundw
      case rel =>
        have q := blk_set H.out 0 (.int .u8 0)
        exact ⟨.inr (.inr ⟨rfl, rfl, by simpa using q⟩), below_set HB.out (Nat.le_refl _), rfl⟩
      case measure => decide
    · have H := Aside0.mk hb
      have hcv := conv_at wr w.heap.size 0 n hb
      have hbe := Aside0.mk (show strOfNums [0, (n : Int)] = strOfNums (be 2 n) from (by
        have e : be 2 (n : Int) = [(n : Int) / 256 % 256, (n : Int) % 256] := rfl
        rw [e, show (n : Int) / 256 % 256 = 0 by omega, show (n : Int) % 256 = n by omega]))
      clear hb
      go_wp2
      go_ret2
      refine ⟨?_, HB.out⟩
      rw [← hbe.out]
      rfl

set_option maxHeartbeats 1000000 in
set_option maxRecDepth 100000 in
theorem rput_short (s : ByteArray) (w : World) (h : s.size ≤ 200) :
    Calls Try.prog 17 #[.string s] w fun e w' => e = .returned (.tuple #[.string (frm s), .bool true]) ∧ Below w.heap.size w w' := by
  have hz : (strOfNums (be 2 s.size)).size ≤ 2 := by rw [strOfNums_size, be_length]; exact Nat.le_refl _
  go_enter Try.func17, Try.ntmps17
  go_wp2_with (first | (go_at_call 23; refine (rput s.size _ h).mono ?_; rintro e1 w1 ⟨rfl, hb⟩; have HB := Aside0.mk hb; clear hb))
  go_ret2
  exact ⟨rfl, HB.out⟩

set_option maxHeartbeats 1000000 in
set_option maxRecDepth 100000 in
theorem rput_long (s : ByteArray) (w : World) (h : 200 < s.size) :
    Calls Try.prog 17 #[.string s] w fun e w' => e = .returned (.tuple #[.string ⟨#[]⟩, .bool false]) ∧ Below w.heap.size w w' := by
  go_enter Try.func17, Try.ntmps17
  go_wp2
  go_ret2
  exact ⟨rfl, Below.refl _ _⟩

/-! Its reader -/
def RefR (w0 W : World) (g : Nat) (s : ByteArray) (bad : Bool) : Prop := W.heap[g]? = some (.cells #[.string s, .bool bad] 28 (0, 0)) ∧ w0.heap.size ≤ g

theorem cellF_0 {W : World} {g : Nat} {s : ByteArray} {bad : Bool} (h : W.heap[g]? = some (.cells #[.string s, .bool bad] 28 (0, 0))) : W.cell? ⟨g, 0, none⟩ = some (.string s) := (blk_cell h 0).trans rfl
theorem cellF_1 {W : World} {g : Nat} {s : ByteArray} {bad : Bool} (h : W.heap[g]? = some (.cells #[.string s, .bool bad] 28 (0, 0))) : W.cell? ⟨g, 1, none⟩ = some (.bool bad) := (blk_cell h 1).trans rfl
theorem RefR.set_0 {w0 W : World} {g : Nat} {s : ByteArray} {bad : Bool} (h : RefR w0 W g s bad) (x : ByteArray) : RefR w0 (W.setCell ⟨g, 0, none⟩ (.string x)) g x bad := by
  obtain ⟨hb, hg⟩ := h
  exact ⟨by simpa using blk_set hb 0 (.string x), hg⟩
theorem RefR.set_1 {w0 W : World} {g : Nat} {s : ByteArray} {bad : Bool} (h : RefR w0 W g s bad) (x : Bool) : RefR w0 (W.setCell ⟨g, 1, none⟩ (.bool x)) g s x := by
  obtain ⟨hb, hg⟩ := h
  exact ⟨by simpa using blk_set hb 1 (.bool x), hg⟩
theorem RefR.drewN {w0 W : World} {g : Nat} {s : ByteArray} {bad : Bool} (h : RefR w0 W g s bad) (m : Nat) : RefR w0 (W.drewN m) g s bad := h
theorem RefR.below {w0 W W1 : World} {g : Nat} {s : ByteArray} {bad : Bool} (h : RefR w0 W g s bad) (hw : Below W.heap.size W W1) : RefR w0 W1 g s bad :=
  ⟨blk_grown h.1 (grown_of_below hw none) (by simp), h.2⟩

theorem apart {w0 W : World} {g h : Nat} {s t : ByteArray} {a b : Bool} (hr : Rdr w0 W g s a) (hf : RefR w0 W h t b) : g ≠ h := by
  rintro rfl
  have := hr.1.symm.trans hf.1
  simp at this

/-- The one's call leaves the other alone. -/
theorem RefR.keep {w0 W W1 : World} {g h : Nat} {s t : ByteArray} {a b : Bool} (hf : RefR w0 W h t b) (hr : Rdr w0 W g s a) (hk : KeepBut W W1 g none) : RefR w0 W1 h t b :=
  ⟨hk.blk hf.1 (fun e => apart hr hf e.symm) (by simp), hf.2⟩
theorem keepR {w0 W W1 : World} {g h : Nat} {s t : ByteArray} {a b : Bool} (hr : Rdr w0 W g s a) (hf : RefR w0 W h t b) (hk : KeepBut W W1 h none) : Rdr w0 W1 g s a :=
  ⟨hk.blk hr.1 (apart hr hf) (by simp), hr.2⟩

def LeftF (w0 w : World) (g : Nat) (r1 : ByteArray) (r2 : Bool) (r3 : Int) (r4 : ByteArray) (r5 : Bool) (e : Ending) (w' : World) : Prop :=
  e = .returned (.tuple #[.string r1, .bool r2, .int .i64 r3]) ∧ RefR w0 w' g r4 r5 ∧ Below w0.heap.size w0 w' ∧ KeepBut w w' g none

set_option maxHeartbeats 1000000 in
set_option maxRecDepth 100000 in
theorem radd_good (g : Nat) (s b : ByteArray) (w0 w : World) (hI : RefR w0 w g s false) (hB : Below w0.heap.size w0 w) (hs : s.size + b.size ≤ 9223372036854775807) :
    Calls Try.prog 11 #[.pointer (some ⟨g, 0, none⟩), .string b] w fun e w' => e = .returned (.int .i64 0) ∧ RefR w0 w' g (s ++ b) false ∧ Below w0.heap.size w0 w' ∧ KeepBut w w' g none := by
  have HI := Aside0.mk hI
  have HB := Aside0.mk hB
  have h0 := cellF_0 hI.1
  have h1 := cellF_1 hI.1
  have f0 := blk_frozen hI.1 0
  clear hI hB
  go_enter Try.func11, Try.ntmps11
  go_wp2
  go_ret
  exact ⟨rfl, HI.out.set_0 _, below_set HB.out HI.out.2, (KeepBut.refl w g none).set_ _ _⟩

set_option maxHeartbeats 1000000 in
set_option maxRecDepth 100000 in
theorem radd_bad (g : Nat) (s b : ByteArray) (w0 w : World) (hI : RefR w0 w g s true) (hB : Below w0.heap.size w0 w) :
    Calls Try.prog 11 #[.pointer (some ⟨g, 0, none⟩), .string b] w fun e w' => e = .returned (.int .i64 6) ∧ RefR w0 w' g s true ∧ Below w0.heap.size w0 w' ∧ KeepBut w w' g none := by
  have HI := Aside0.mk hI
  have HB := Aside0.mk hB
  have h1 := cellF_1 hI.1
  clear hI hB
  go_enter Try.func11, Try.ntmps11
  go_wp2
  go_ret
  exact ⟨rfl, HI.out, HB.out, KeepBut.refl w g none⟩

set_option maxHeartbeats 1000000 in
set_option maxRecDepth 100000 in
theorem rnext_bad (g : Nat) (s : ByteArray) (w0 w : World) (hI : RefR w0 w g s true) (hB : Below w0.heap.size w0 w) :
    Calls Try.prog 13 #[.pointer (some ⟨g, 0, none⟩)] w (LeftF w0 w g ⟨#[]⟩ false 6 s true) := by
  have HI := Aside0.mk hI
  have HB := Aside0.mk hB
  have h1 := cellF_1 hI.1
  clear hI hB
  go_enter Try.func13, Try.ntmps13
  go_wp2
  go_ret3
  exact ⟨rfl, HI.out, HB.out, KeepBut.refl w g none⟩

set_option maxHeartbeats 1000000 in
set_option maxRecDepth 100000 in
theorem rnext_short (g : Nat) (s : ByteArray) (w0 w : World) (hI : RefR w0 w g s false) (hB : Below w0.heap.size w0 w) (hs : s.size < 2) :
    Calls Try.prog 13 #[.pointer (some ⟨g, 0, none⟩)] w (LeftF w0 w g ⟨#[]⟩ false 0 s false) := by
  have HI := Aside0.mk hI
  have HB := Aside0.mk hB
  have h0 := cellF_0 hI.1
  have h1 := cellF_1 hI.1
  clear hI hB
  go_enter Try.func13, Try.ntmps13
  go_wp2_with (first | (go_at_call 21; refine (rtake_short s _ hs).mono ?_; rintro e1 w1 ⟨rfl, rfl⟩))
  go_ret3
  exact ⟨rfl, HI.out, HB.out, KeepBut.refl w g none⟩

set_option maxHeartbeats 1000000 in
set_option maxRecDepth 100000 in
theorem rnext_long (g : Nat) (s : ByteArray) (n : Nat) (w0 w : World) (hI : RefR w0 w g s false) (hB : Below w0.heap.size w0 w) (hs : 2 ≤ s.size) (hn : val ((bytesOf s).take 2) = (n : Int)) (hl : 200 < n) :
    Calls Try.prog 13 #[.pointer (some ⟨g, 0, none⟩)] w (LeftF w0 w g ⟨#[]⟩ false 16 ⟨#[]⟩ true) := by
  have HI := Aside0.mk hI
  have HB := Aside0.mk hB
  have h0 := cellF_0 hI.1
  have h1 := cellF_1 hI.1
  have f0 := blk_frozen hI.1 0
  have f1 := blk_frozen hI.1 1
  have ht := fun W => rtake_some s W hs
  rw [hn] at ht
  have HT := Aside0.mk ht
  have g0 : (0 : Int) ≤ (n : Int) := Int.natCast_nonneg _
  have g1 : (200 : Int) < (n : Int) := by omega
  clear hI hB hn ht
  go_enter Try.func13, Try.ntmps13
  go_wp2_with (first | (go_at_call 21; refine (HT.out _).mono ?_; rintro e1 w1 ⟨rfl, ⟨nd, rfl⟩⟩))
  go_ret3
  exact ⟨rfl, ((HI.out.drewN _).set_1 _).set_0 _, below_set (below_set (pw_below_drewN HB.out _) HI.out.2) HI.out.2, ((keep_drewN (KeepBut.refl w g none) _).set_ _ _).set_ _ _⟩

set_option maxHeartbeats 1000000 in
set_option maxRecDepth 100000 in
theorem rnext_wait (g : Nat) (s : ByteArray) (n : Nat) (w0 w : World) (hI : RefR w0 w g s false) (hB : Below w0.heap.size w0 w) (hs : 2 ≤ s.size) (hn : val ((bytesOf s).take 2) = (n : Int)) (hl : n ≤ 200) (hw : s.size < 2 + n) :
    Calls Try.prog 13 #[.pointer (some ⟨g, 0, none⟩)] w (LeftF w0 w g ⟨#[]⟩ false 0 s false) := by
  have HI := Aside0.mk hI
  have HB := Aside0.mk hB
  have h0 := cellF_0 hI.1
  have h1 := cellF_1 hI.1
  have f0 := blk_frozen hI.1 0
  have f1 := blk_frozen hI.1 1
  have ht := fun W => rtake_some s W hs
  rw [hn] at ht
  have HT := Aside0.mk ht
  have g0 : (0 : Int) ≤ (n : Int) := Int.natCast_nonneg _
  have g1 : (n : Int) ≤ 200 := by omega
  have e1 : (s.extract 2 s.size).size = s.size - 2 := by rw [ByteArray.size_extract]; omega
  have g2 : ((s.extract 2 s.size).size : Int) < (n : Int) := by omega
  clear e1
  clear hI hB hn ht
  go_enter Try.func13, Try.ntmps13
  go_wp2_with (first | (go_at_call 21; refine (HT.out _).mono ?_; rintro e1 w1 ⟨rfl, ⟨nd, rfl⟩⟩))
  go_ret3
  exact ⟨rfl, HI.out.drewN _, pw_below_drewN HB.out _, keep_drewN (KeepBut.refl w g none) _⟩

theorem ext_left (s : ByteArray) (n : Nat) : (s.extract 2 s.size).extract 0 n = s.extract 2 (2 + n) := by
  apply of_bytesOf
  rw [extract_bytesOf, extract_bytesOf, extract_bytesOf, List.drop_zero, Nat.sub_zero, List.take_take, Nat.add_sub_cancel_left]
  by_cases h : n ≤ s.size - 2
  · rw [Nat.min_eq_left h]
  · rw [Nat.min_eq_right (by omega), List.take_of_length_le (by rw [List.length_drop, bytesOf_length]; omega), List.take_of_length_le (by rw [List.length_drop, bytesOf_length]; omega)]

theorem ext_right (s : ByteArray) (n : Nat) : (s.extract 2 s.size).extract n (s.extract 2 s.size).size = s.extract (2 + n) s.size := by
  apply of_bytesOf
  rw [extract_bytesOf, extract_bytesOf, extract_bytesOf]
  have e1 : ((bytesOf s).drop 2).take (s.size - 2) = (bytesOf s).drop 2 := List.take_of_length_le (by rw [List.length_drop, bytesOf_length]; omega)
  have e2 : ((bytesOf s).drop (2 + n)).take (s.size - (2 + n)) = (bytesOf s).drop (2 + n) := List.take_of_length_le (by rw [List.length_drop, bytesOf_length]; omega)
  rw [e1, e2, List.drop_drop]
  apply List.take_of_length_le
  rw [List.length_drop, bytesOf_length, ByteArray.size_extract]
  omega

set_option maxHeartbeats 1000000 in
set_option maxRecDepth 100000 in
theorem rnext_tell (g : Nat) (s : ByteArray) (n : Nat) (w0 w : World) (hI : RefR w0 w g s false) (hB : Below w0.heap.size w0 w) (hs : 2 ≤ s.size) (hn : val ((bytesOf s).take 2) = (n : Int)) (hl : n ≤ 200) (hw : 2 + n ≤ s.size) :
    Calls Try.prog 13 #[.pointer (some ⟨g, 0, none⟩)] w (LeftF w0 w g (s.extract 2 (2 + n)) true 0 (s.extract (2 + n) s.size) false) := by
  have HI := Aside0.mk hI
  have HB := Aside0.mk hB
  have h0 := cellF_0 hI.1
  have h1 := cellF_1 hI.1
  have f0 := blk_frozen hI.1 0
  have f1 := blk_frozen hI.1 1
  have ht := fun W => rtake_some s W hs
  rw [hn] at ht
  have HT := Aside0.mk ht
  have g0 : (0 : Int) ≤ (n : Int) := Int.natCast_nonneg _
  have g1 : (n : Int) ≤ 200 := by omega
  have e1 : (s.extract 2 s.size).size = s.size - 2 := by rw [ByteArray.size_extract]; omega
  have g2 : (n : Int) ≤ ((s.extract 2 s.size).size : Int) := by omega
  clear e1
  clear hI hB hn ht
  go_enter Try.func13, Try.ntmps13
  go_wp2_with (first | (go_at_call 21; refine (HT.out _).mono ?_; rintro e1 w1 ⟨rfl, ⟨nd, rfl⟩⟩))
  go_ret3
  refine ⟨?_, ?_, below_set (pw_below_drewN HB.out _) HI.out.2, (keep_drewN (KeepBut.refl w g none) _).set_ _ _⟩
  · rw [← ext_left s n]
    rfl
  · have q := ext_right s n
    rw [show (s.extract 2 s.size).size = s.size - 2 by rw [ByteArray.size_extract]; omega] at q
    rw [← q]
    exact (HI.out.drewN _).set_0 _


theorem rnext_calls (g : Nat) (s : ByteArray) (bad : Bool) (r1 : ByteArray) (r2 : Bool) (r3 : Int) (r4 : ByteArray) (r5 : Bool) (w0 w : World) (hI : RefR w0 w g s bad) (hB : Below w0.heap.size w0 w)
    (h : nextF s bad = (r1, r2, r3, r4, r5)) : Calls Try.prog 13 #[.pointer (some ⟨g, 0, none⟩)] w (LeftF w0 w g r1 r2 r3 r4 r5) := by
  cases bad with
  | true =>
    have e : nextF s true = (⟨#[]⟩, false, 6, s, true) := rfl
    rw [e] at h
    simp only [Prod.mk.injEq] at h
    obtain ⟨rfl, rfl, rfl, rfl, rfl⟩ := h
    exact rnext_bad g s w0 w hI hB
  | false =>
    by_cases c : s.size < 2
    · rw [nextF_short s c] at h
      simp only [Prod.mk.injEq] at h
      obtain ⟨rfl, rfl, rfl, rfl, rfl⟩ := h
      exact rnext_short g s w0 w hI hB c
    · have hr := val_range _ (byte_take (bytesOf_byte s) 2)
      obtain ⟨n, hn⟩ := Int.eq_ofNat_of_zero_le hr.1
      by_cases d : 200 < n
      · rw [nextF_long s n (by omega) hn d] at h
        simp only [Prod.mk.injEq] at h
        obtain ⟨rfl, rfl, rfl, rfl, rfl⟩ := h
        exact rnext_long g s n w0 w hI hB (by omega) hn d
      · by_cases e : s.size < 2 + n
        · rw [nextF_wait s n (by omega) hn (by omega) e] at h
          simp only [Prod.mk.injEq] at h
          obtain ⟨rfl, rfl, rfl, rfl, rfl⟩ := h
          exact rnext_wait g s n w0 w hI hB (by omega) hn (by omega) e
        · rw [nextF_tell s n (by omega) hn (by omega)] at h
          simp only [Prod.mk.injEq] at h
          obtain ⟨rfl, rfl, rfl, rfl, rfl⟩ := h
          exact rnext_tell g s n w0 w hI hB (by omega) hn (by omega) (by omega)

end Go.Proofs.Ytnphookkinpigaa.Ref
