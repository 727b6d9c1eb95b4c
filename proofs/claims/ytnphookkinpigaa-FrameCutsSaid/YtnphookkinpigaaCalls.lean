/- What the laws of chapter 20 call, and the chapter's example: contracts; conditions: the reader's block holds a text and a bool, and what is added fits an int. -/
import Derived.Test.YtnphookkinpigaaFrame
namespace Go.Proofs.Ytnphookkinpigaa.Frame
open Go.RowKit Go.Proofs.Ytnphookkinpigaa.PTake Go.Proofs.Ytnphookkinpigaa.PPut Go.Proofs.YtnphookkinpigaaW.PrintWords Go.Proofs.YtnphookkinpigaaW.PrintLast Go.Proofs.YtnphookkinpigaaW.PrintMore Go.Proofs.Ytnphookkinpigaa.Math

/-! The other calls -/
theorem new_calls (w0 w : World) (hB : Below w0.heap.size w0 w) :
    Calls Try.prog 9 #[] w fun e w' => ∃ g : Nat, e = .returned (.pointer (some ⟨g, 0, none⟩)) ∧ Rdr w0 w' g ⟨#[]⟩ false ∧ Below w0.heap.size w0 w' ∧ Below w.heap.size w w' :=
  PNew.frame_New.calls _ _ w0 w hB rfl

theorem add_good (g : Nat) (s b : ByteArray) (w0 w : World) (hI : Rdr w0 w g s false) (hB : Below w0.heap.size w0 w) (hs : s.size + b.size ≤ 9223372036854775807) :
    Calls Try.prog 10 #[.pointer (some ⟨g, 0, none⟩), .string b] w fun e w' => e = .returned (.int .i64 0) ∧ Rdr w0 w' g (s ++ b) false ∧ Below w0.heap.size w0 w' ∧ KeepBut w w' g none :=
  PAdd.frame_Reader_Add.calls g s false b _ _ _ w0 w hI hB (by unfold PAdd.frame_Reader_Add.f; rw [if_neg (by decide), if_pos hs])

theorem add_bad (g : Nat) (s b : ByteArray) (w0 w : World) (hI : Rdr w0 w g s true) (hB : Below w0.heap.size w0 w) :
    Calls Try.prog 10 #[.pointer (some ⟨g, 0, none⟩), .string b] w fun e w' => e = .returned (.int .i64 6) ∧ Rdr w0 w' g s true ∧ Below w0.heap.size w0 w' ∧ KeepBut w w' g none :=
  PAdd.frame_Reader_Add.calls g s true b _ _ _ w0 w hI hB rfl

theorem rest_calls (g : Nat) (s : ByteArray) (bad : Bool) (w0 w : World) (hI : Rdr w0 w g s bad) (hB : Below w0.heap.size w0 w) :
    Calls Try.prog 14 #[.pointer (some ⟨g, 0, none⟩)] w fun e w' => e = .returned (.int .i64 (s.size : Int)) ∧ Rdr w0 w' g s bad ∧ Below w0.heap.size w0 w' ∧ KeepBut w w' g none :=
  PRest.frame_Reader_Rest.calls g s bad _ _ _ w0 w hI hB rfl

theorem bad_calls (g : Nat) (s : ByteArray) (bad : Bool) (w0 w : World) (hI : Rdr w0 w g s bad) (hB : Below w0.heap.size w0 w) :
    Calls Try.prog 15 #[.pointer (some ⟨g, 0, none⟩)] w fun e w' => e = .returned (.bool bad) ∧ Rdr w0 w' g s bad ∧ Below w0.heap.size w0 w' ∧ KeepBut w w' g none :=
  PBad.frame_Reader_Bad.calls g s bad _ _ _ w0 w hI hB rfl

/-- A text as a frame. -/
def frm (s : ByteArray) : ByteArray := strOfNums (be 2 s.size) ++ s

theorem put2 (s : ByteArray) (h : s.size ≤ 200) : num_Put.f 10 (s.size : Int) 2 = some (strOfNums (be 2 s.size), 0) := by
  have ht := put_some 10 s.size 2 (by omega) (by decide) (by decide) (Nat.le_refl _)
  have hp : (256 : Int) ^ 2 = 65536 := by decide
  rw [if_pos (by omega)] at ht
  exact ht

theorem frm_size (s : ByteArray) : (frm s).size = s.size + 2 := by
  rw [frm, ByteArray.size_append, strOfNums_size, be_length]
  omega

set_option maxHeartbeats 1000000 in
set_option maxRecDepth 100000 in
theorem put_short (s : ByteArray) (w : World) (h : s.size ≤ 200) :
    Calls Try.prog 16 #[.string s] w fun e w' => e = .returned (.tuple #[.string (frm s), .int .i64 0]) ∧ Below w.heap.size w w' := by
  have HP := Aside0.mk (put2 s h)
  have hz : (strOfNums (be 2 s.size)).size ≤ 2 := by rw [strOfNums_size, be_length]; exact Nat.le_refl _
  go_enter Try.func16, Try.ntmps16
  go_wp2_with (first | (go_at_call 22; (with_reducible refine (num_Put.calls 10 _ _ _ _ _ HP.out).mono ?_); rintro e1 w1 ⟨rfl, hb⟩; have HB := Aside0.mk hb; clear hb))
  go_ret2
  exact ⟨rfl, HB.out⟩

set_option maxHeartbeats 1000000 in
set_option maxRecDepth 100000 in
theorem put_long (s : ByteArray) (w : World) (h : 200 < s.size) :
    Calls Try.prog 16 #[.string s] w fun e w' => e = .returned (.tuple #[.string ⟨#[]⟩, .int .i64 16]) ∧ Below w.heap.size w w' := by
  go_enter Try.func16, Try.ntmps16
  go_wp2
  go_ret2
  exact ⟨rfl, Below.refl _ _⟩

/-! The chapter's example -/
theorem frm_ab : frm ⟨#[97, 98]⟩ = ⟨#[0, 2, 97, 98]⟩ := by rfl
theorem next_ab : nextF (⟨#[]⟩ ++ (⟨#[0, 2, 97, 98]⟩ ++ ⟨#[0]⟩)) false = (⟨#[97, 98]⟩, true, 0, ⟨#[0]⟩, false) := by rfl

set_option maxHeartbeats 1000000 in
set_option maxRecDepth 100000 in
theorem examples_calls (w : World) : Calls Try.prog 8 #[] w fun e w' => e = .returned (.bool true) ∧ Below w.heap.size w w' := by
  have HB := Aside0.mk (Below.refl w.heap.size w)
  have hput := fun w1 : World => put_short ⟨#[97, 98]⟩ w1 (by decide)
  rw [frm_ab] at hput
  have HPut := Aside0.mk hput
  clear hput
  go_enter Try.func8, Try.ntmps8
  go_wp2_with (first | (go_at_call 9; refine (new_calls w _ HB.out).mono ?_; rintro e1 w1 ⟨g, rfl, hi, hb, hb2⟩; have HI := Aside0.mk hi; clear HB; have HB := Aside0.mk hb; clear hi hb hb2) | (go_at_call 16; refine (HPut.out _).mono ?_; rintro e1 w2 ⟨rfl, hb⟩; have hi := Aside0.mk (HI.out.below hb); clear HI; have HI := hi; have h2 := Aside0.mk (below_step HB.out hb); clear HB; have HB := h2; clear h2 hi hb) | (go_at_call 10; refine (add_good g _ _ w _ HI.out HB.out (by decide)).mono ?_; rintro e1 w3 ⟨rfl, hi, hb, hk⟩; clear HI HB; have HI := Aside0.mk hi; have HB := Aside0.mk hb; clear hi hb hk) | (go_at_call 12; refine (next_calls g _ _ _ _ _ _ _ w _ HI.out HB.out next_ab).mono ?_; rintro e1 w4 ⟨rfl, hi, hb, hk⟩; clear HI HB; have HI := Aside0.mk hi; have HB := Aside0.mk hb; clear hi hb hk) | (go_at_call 14; refine (rest_calls g _ _ w _ HI.out HB.out).mono ?_; rintro e1 w5 ⟨rfl, hi, hb, hk⟩; clear HI HB; have HI := Aside0.mk hi; have HB := Aside0.mk hb; clear hi hb hk) | (go_at_call 15; refine (bad_calls g _ _ w _ HI.out HB.out).mono ?_; rintro e1 w6 ⟨rfl, hi, hb, hk⟩; clear HI HB; have HI := Aside0.mk hi; have HB := Aside0.mk hb; clear hi hb hk))
  go_ret
  exact ⟨rfl, HB.out⟩

end Go.Proofs.Ytnphookkinpigaa.Frame
