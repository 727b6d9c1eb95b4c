/- FrameCuts: the given row holds: for every slice of texts and every slice of bytes, nil too, that can be read the call returns true and its arguments read as they did; conditions: none of its own. -/
import Derived.Test.YtnphookkinpigaaRows
import Derived.Test.YtnphookkinpigaaCuts
import Derived.WalkKit
import Derived.ProofKit
import Derived.OpenShut
import Derived.ShutString
import Derived.SliceStrings
import Derived.ChangeSlices
import Derived.Carry
import Derived.ChangeOld
import Derived.Below
import Derived.SizedLaws
namespace Go.Proofs.Ytnphookkinpigaa.CutsRow
open Go.ChangeShapes Go.WideShapes Go.ChangeAt Go.RowKit
set_option linter.unusedVariables false

theorem own : ownKnob Try.prog.godebug = none := by kernel_rfl
theorem laidOut : laidOutB Try.prog = true := by kernel_rfl
theorem cells9 : Try.prog.cellsOf 9 = 1 := by kernel_rfl
theorem bytes9 : Try.prog.bytesOf 9 = 16 := by kernel_rfl
theorem cells5 : Try.prog.cellsOf 5 = 1 := by kernel_rfl
theorem bytes5 : Try.prog.bytesOf 5 = 1 := by kernel_rfl

theorem u8_range {n : Int} (h : (Lit.int .u8 n).wf = true) : 0 ≤ n ∧ n ≤ 255 := by
  simp [Lit.wf, IntKind.min, IntKind.max, IntKind.signed, IntKind.bits] at h
  omega

/-- What the walk wants of the second argument. -/
def Bytes (W : World) (a : Option Addr) (n : Nat) : Prop :=
  ∃ (b off : Nat) (cs : Nat → Int), (0 < n → a = some ⟨b, off, none⟩) ∧ n ≤ 140737488351232 ∧ ∀ j, j < n → W.cell? ⟨b, off + j, none⟩ = some (.int .u8 (cs j)) ∧ 0 ≤ cs j ∧ cs j ≤ 255

theorem bytes_zero (W : World) (a : Option Addr) : Bytes W a 0 := ⟨0, 0, fun _ => 0, fun h => absurd h (by omega), by omega, fun j hj => absurd hj (by omega)⟩

set_option maxHeartbeats 1000000 in
set_option maxRecDepth 100000 in
theorem lifted (os : Os) (started : os.Started) (H : Type) (enc : TypeId × Value → H) :
    ReturnsInHanded {} Try.checked os 4 .any (Rows.frameCutsSpec.pre6 enc Try.prog Try.f4 Rows.frameCutsRow.domain false) (Rows.frameCutsSpec.post enc Try.prog Try.f4 false true false false) := by
  refine returnsInHanded_of_change_sized (C := Try.checked) own started (by kernel_rfl) Try.func4
    (ChangeSpec.witness6 (enc := enc) (C := Try.checked) false ⟨#[], #[.slice none 0 0, .slice none 0 0], []⟩ 8 (by kernel_rfl) (by kernel_rfl) (by kernel_rfl) (by kernel_rfl)) ?_
  intro W base args ds gs before hval0 hW _ hsz0 _
  have hsz : (DataW.weightsEach Try.prog (Try.f4.params.toList ++ Rows.frameCutsSpec.plain.varTypes Try.prog) (ds ++ gs)).all (· ≤ reachBytes) = true := hsz0
  clear hsz0
  have hval : ∀ (j : Nat) t v, Try.f4.params[j]? = some t → args[j]? = some v → Value.okWide Try.prog W .any base t v := hval0
  have hW' := hW
  obtain ⟨p, q, hA0, hV, rfl, _, _⟩ := hW
  have hA : DataW.TrodAll enc Try.prog W 0 (fun _ => true) true Try.f4.params.toList args.toList ds p := hA0
  rw [Try.params4] at hA hval hsz
  obtain ⟨v0, vs0, d0, ds0, p0, q0, hargs, rfl, rfl, h0, r0⟩ := trodAll_cons hA
  obtain ⟨v1, vs1, d1, ds1, p1, q1, rfl, rfl, rfl, h1, r1⟩ := trodAll_cons r0
  obtain ⟨rfl, rfl, rfl⟩ := trodAll_nil r1
  obtain rfl : args = #[v0, v1] := by cases args; simp_all
  obtain ⟨rfl, rfl⟩ := trodVars_none hV
  obtain ⟨a0, len, cap, rfl⟩ := okWide_slice Try.underlying44 (hval 0 44 v0 rfl rfl)
  obtain ⟨a1, clen, ccap, rfl⟩ := okWide_slice Try.underlying45 (hval 1 45 v1 rfl rfl)
  have h0k := h0
  have h1k := h1
  obtain ⟨fuel, hf⟩ := h0
  obtain ⟨fuel1, hf1⟩ := h1
  clear hA0 hval0
  simp only [List.append_nil] at hW'
  have hlt : ∀ x ∈ p0 ++ p1, x.block < W.heap.size := fun x hx => by simpa using hW'.lt x hx
  have fin : ∀ W' : World, Below W.heap.size W W' → Rows.frameCutsSpec.post enc Try.checked.prog Try.f4 false true false false W #[.slice a0 len cap, .slice a1 clen ccap] (.bool true) W' := by
    intro W' hnx
    refine ⟨_, _, _, [] ++ [], p0 ++ (p1 ++ []), [], hW', trodAll_mk1 (shut_bool Try.underlying4 _), ?_, rfl, hnx.frame _, fun h => by cases h⟩
    exact trodAll_cons_mk (Below.trod laidOut (by kernel_rfl) (of_decide_eq_true (by kernel_rfl)) h0k hnx fun x hx => hlt x (List.mem_append_left _ hx))
      (trodAll_cons_mk (Below.trod laidOut (by kernel_rfl) (of_decide_eq_true (by kernel_rfl)) h1k hnx fun x hx => hlt x (List.mem_append_right _ hx)) trodAll_mk0)
  have none_end : len = 0 → Calls Try.checked.prog 4 #[.slice a0 len cap, .slice a1 clen ccap] W fun e W' => ∃ v, e = Ending.returned v ∧ Rows.frameCutsSpec.post enc Try.checked.prog Try.f4 false true false false W #[.slice a0 len cap, .slice a1 clen ccap] v W' := by
    intro hl0
    subst hl0
    refine (Cuts.walk0 a0 a1 cap clen ccap W).mono fun e W' ⟨he, hw⟩ => ?_
    subst he
    exact ⟨_, rfl, fin _ hw⟩
  have hbytes : Bytes W a1 clen := by
    rcases open_ints Try.underlying45 Try.underlying5 cells5 hf1 with ⟨hcs, hx⟩ | ⟨a, len', cap', zs, hcs, _, hl, hm, hz, hx, hcell, hwz⟩
    · simp [Value.cells] at hcs
      obtain ⟨rfl, rfl, rfl⟩ := hcs
      exact bytes_zero W _
    · simp [Value.cells] at hcs
      obtain ⟨rfl, rfl, rfl⟩ := hcs
      simp only [Prod.mk.injEq] at hx
      obtain ⟨rfl, _⟩ := hx
      simp only [if_true] at hz
      by_cases hl0 : clen = 0
      · rw [hl0]; exact bytes_zero W _
      · have hreach : clen ≤ 140737488351232 := by
          have := sized_slice hsz (j := 1) (t := 45) (e := 5) rfl rfl Try.underlying45
          rw [bytes5] at this
          simp only [lits, List.length_map, List.length_take, List.length_drop, reachBytes] at this
          omega
        obtain ⟨b, off, spot⟩ := a
        have hspot : spot = none := by simpa [Addr.add] using World.cell?_spot (hcell 0 (by omega))
        subst hspot
        refine ⟨b, off, fun j => zs.getD j 0, fun _ => rfl, hreach, fun j hj => ⟨by rw [← add_plain]; exact hcell j (by omega), ?_⟩⟩
        have hm : zs.getD j 0 ∈ zs := by
          rw [List.getD_eq_getElem?_getD, List.getElem?_eq_getElem (show j < zs.length by omega)]
          exact List.getElem_mem _
        exact u8_range (hwz _ hm)
  obtain ⟨b2, off2, cs, hA2, hcl, hcs2⟩ := hbytes
  rcases open_strings Try.underlying44 Try.underlying9 cells9 hf with ⟨hcs, hx⟩ | ⟨a, len', cap', ss, hcs, _, hl, hm, hz, hx, hcell, hws⟩
  · simp [Value.cells] at hcs
    obtain ⟨rfl, rfl, rfl⟩ := hcs
    exact none_end rfl
  · simp [Value.cells] at hcs
    obtain ⟨rfl, rfl, rfl⟩ := hcs
    simp only [Prod.mk.injEq] at hx
    obtain ⟨rfl, rfl⟩ := hx
    simp only [if_true] at hz
    by_cases hl0 : len = 0
    · exact none_end hl0
    · have hreach : len * 16 ≤ 140737488351232 := by
        have := sized_slice hsz (j := 0) (t := 44) (e := 9) rfl rfl Try.underlying44
        rw [bytes9] at this
        simp only [strs, List.length_map, List.length_take, List.length_drop, reachBytes] at this
        omega
      obtain ⟨b, off, spot⟩ := a
      have hspot : spot = none := by simpa [Addr.add] using World.cell?_spot (hcell 0 (by omega))
      subst hspot
      refine (Cuts.walk b off len cap b2 off2 clen ccap a1 hA2 ss cs W (by omega) (by omega) hcl (by omega) (fun j hj => by rw [← add_plain]; exact hcell j (by omega)) hcs2).mono fun e W' ⟨he, hnx⟩ => ?_
      subst he
      exact ⟨_, rfl, fin _ hnx⟩
end Go.Proofs.Ytnphookkinpigaa.CutsRow
namespace Go.Proofs.Ytnphookkinpigaa
theorem frameCuts_holds : Rows.FrameCutsSaid :=
  OpenClaim.holds_of_wide 4 Try.f4 rfl rfl rfl rfl rfl rfl rfl ⟨rfl, rfl, rfl, rfl, rfl⟩ rfl rfl rfl rfl rfl (by kernel_rfl) Try.func4 (by kernel_rfl)
    (of_decide_eq_true (by kernel_rfl)) (by unfold Func.isWrapper; first | (rw [if_pos (by decide +kernel)]; kernel_rfl) | (rw [if_neg (by decide +kernel)]; exact ⟨rfl, rfl⟩))
    (fun os started H enc _ => CutsRow.lifted os started H enc)
end Go.Proofs.Ytnphookkinpigaa
