/- FramePlays: the given row holds: for every slice of deeds, nil too, and any text that can be read the call returns true and its arguments read as they did; conditions: none of its own. -/
import Derived.Test.YtnphookkinpigaaRows
import Derived.Test.YtnphookkinpigaaPlays
import Derived.WalkKit
import Derived.ProofKit
import Derived.OpenShut
import Derived.ShutString
import Derived.Carry
import Derived.ChangeOld
import Derived.Below
import Derived.SizedLaws
import Derived.Deep.SlicePairs
namespace Go.Proofs.Ytnphookkinpigaa.PlaysRow
open Go.ChangeShapes Go.WideShapes Go.ChangeAt Go.RowKit
open Go.ChangeMaps (open_string shut_string)
set_option linter.unusedVariables false

theorem own : ownKnob Try.prog.godebug = none := by kernel_rfl
theorem laidOut : laidOutB Try.prog = true := by kernel_rfl
theorem cells32 : Try.prog.cellsOf 32 = 2 := by kernel_rfl
theorem cells9 : Try.prog.cellsOf 9 = 1 := by kernel_rfl
theorem cells3 : Try.prog.cellsOf 3 = 1 := by kernel_rfl

theorem mem_all {H : Type} {P : Program} {e : TypeId} {d : DataW H} {n : Nat} (hn : n ∈ d.weights P e) (l : List (DataW H)) (hd : d ∈ l) : n ∈ DataW.weightsAll P e l := by
  induction l with
  | nil => simp at hd
  | cons x l ih =>
    rw [DataW.weightsAll, List.mem_append]
    rcases List.mem_cons.1 hd with h | h
    · subst h
      exact .inl hn
    · exact .inr (ih h)

/-- A deed's text is within the reach. -/
theorem deed_sized {H : Type} {ds : List (DataW H)} (hsz : (DataW.weightsEach Try.prog [22, 9] ds).all (· ≤ reachBytes) = true) {elems spare : List (DataW H)} (hd : ds[0]? = some (.slice elems spare)) {s : ByteArray} {d1 : DataW H}
    (hm : DataW.agg [.lit (.string s.data.toList), d1] ∈ elems) : s.size ≤ 140737488351232 := by
  have h1 : s.data.toList.length ∈ (DataW.agg [DataW.lit (H := H) (.string s.data.toList), d1]).weights Try.prog 32 := by
    simp [DataW.weights, Try.underlying32, DataW.weightsEach]
  have h2 : s.data.toList.length ∈ (DataW.slice elems spare).weights Try.prog 22 := by
    simp only [DataW.weights, Try.underlying22, List.mem_cons, List.mem_append]
    exact .inr (.inl (mem_all h1 elems hm))
  have h3 := List.all_eq_true.1 hsz _ (DataW.weights_mem_each (j := 0) (t := 22) rfl hd _ h2)
  have h4 : s.data.toList.length ≤ reachBytes := by simpa using h3
  rw [Array.length_toList] at h4
  exact h4

def strAt (v : Value) : ByteArray := match v with | .string s => s | _ => ⟨#[]⟩
def intAt (v : Value) : Int := match v with | .int _ n => n | _ => 0

set_option maxHeartbeats 1000000 in
set_option maxRecDepth 100000 in
theorem lifted (os : Os) (started : os.Started) (H : Type) (enc : TypeId × Value → H) :
    ReturnsInHanded {} Try.checked os 3 .any (Rows.framePlaysSpec.pre6 enc Try.prog Try.f3 Rows.framePlaysRow.domain false) (Rows.framePlaysSpec.post enc Try.prog Try.f3 false true false false) := by
  refine returnsInHanded_of_change_sized (C := Try.checked) own started (by kernel_rfl) Try.func3
    (ChangeSpec.witness6 (enc := enc) (C := Try.checked) false ⟨#[], #[.slice none 0 0, .string ⟨#[]⟩], []⟩ 8 (by kernel_rfl) (by kernel_rfl) (by kernel_rfl) (by kernel_rfl)) ?_
  intro W base args ds gs before hval0 hW _ hsz0 _
  have hsz : (DataW.weightsEach Try.prog (Try.f3.params.toList ++ Rows.framePlaysSpec.plain.varTypes Try.prog) (ds ++ gs)).all (· ≤ reachBytes) = true := hsz0
  clear hsz0
  have hval : ∀ (j : Nat) t v, Try.f3.params[j]? = some t → args[j]? = some v → Value.okWide Try.prog W .any base t v := hval0
  have hW' := hW
  obtain ⟨p, q, hA0, hV, rfl, _, _⟩ := hW
  have hA : DataW.TrodAll enc Try.prog W 0 (fun _ => true) true Try.f3.params.toList args.toList ds p := hA0
  rw [Try.params3] at hA hval hsz
  obtain ⟨v0, vs0, d0, ds0, p0, q0, hargs, rfl, rfl, h0, r0⟩ := trodAll_cons hA
  obtain ⟨v1, vs1, d1, ds1, p1, q1, rfl, rfl, rfl, h1, r1⟩ := trodAll_cons r0
  obtain ⟨rfl, rfl, rfl⟩ := trodAll_nil r1
  obtain rfl : args = #[v0, v1] := by cases args; simp_all
  obtain ⟨rfl, rfl⟩ := trodVars_none hV
  obtain ⟨a1, rfl, rfl, rfl, y1⟩ := open_string Try.underlying9 (hval 1 9 v1 rfl rfl) h1
  have w1 : a1.size ≤ 140737488351232 := by
    have z := sized_string hsz (j := 1) (t := 9) rfl rfl
    rw [Array.length_toList] at z
    exact z
  obtain ⟨a0, len, cap, rfl⟩ := okWide_slice Try.underlying22 (hval 0 22 v0 rfl rfl)
  have h0k := h0
  obtain ⟨fuel, hf⟩ := h0
  clear hA0 hval0
  simp only [List.append_nil] at hW'
  have hlt : ∀ x ∈ p0, x.block < W.heap.size := fun x hx => by simpa using hW'.lt x hx
  have fin : ∀ W' : World, Below W.heap.size W W' → Rows.framePlaysSpec.post enc Try.checked.prog Try.f3 false true false false W #[.slice a0 len cap, .string a1] (.bool true) W' := by
    intro W' hnx
    refine ⟨_, _, _, [] ++ [], p0 ++ ([] ++ []), [], hW', trodAll_mk1 (shut_bool Try.underlying4 _), ?_, rfl, hnx.frame _, fun h => by cases h⟩
    exact trodAll_cons_mk (Below.trod laidOut (by kernel_rfl) (of_decide_eq_true (by kernel_rfl)) h0k hnx hlt) (trodAll_cons_mk (shut_string Try.underlying9 y1) trodAll_mk0)
  have none_end : len = 0 → Calls Try.checked.prog 3 #[.slice a0 len cap, .string a1] W fun e W' => ∃ v, e = Ending.returned v ∧ Rows.framePlaysSpec.post enc Try.checked.prog Try.f3 false true false false W #[.slice a0 len cap, .string a1] v W' := by
    intro hl0
    subst hl0
    refine (Plays.walk0 a0 cap a1 W w1).mono fun e W' ⟨he, hw⟩ => ?_
    subst he
    exact ⟨_, rfl, fin _ hw⟩
  rcases Deep.open_slice_pairs Try.underlying22 Try.underlying32 cells32 rfl rfl cells9 cells3 hf with ⟨hcs, hx⟩ | ⟨a, len', cap', m, n, V0, V1, D0, D1, P0, P1, hcs, _, hl, hm, hz, hx, hcell⟩
  · simp [Value.cells] at hcs
    obtain ⟨rfl, rfl, rfl⟩ := hcs
    exact none_end rfl
  · simp [Value.cells] at hcs
    obtain ⟨rfl, rfl, rfl⟩ := hcs
    simp only [Prod.mk.injEq] at hx
    obtain ⟨rfl, rfl⟩ := hx
    simp only [if_true] at hz
    by_cases hl0 : len = 0
    · exact none_end hl0
    · obtain ⟨b, off, spot⟩ := a
      have hspot : spot = none := by simpa [Addr.add] using World.cell?_spot (hcell 0 (by omega)).1
      subst hspot
      refine (Plays.walk b off len cap (fun i => strAt (V0 i)) (fun i => intAt (V1 i)) a1 W (fun i hi => ?_) w1).mono fun e W' ⟨he, hnx⟩ => ?_
      · obtain ⟨c0, c1, t0, t1⟩ := hcell i (by omega)
        obtain ⟨s, e0, x0, _⟩ := DataW.trod_string Try.underlying9 t0
        obtain ⟨k, e1, x1, _⟩ := DataW.trod_int Try.underlying3 t1
        simp only [List.cons.injEq, and_true] at e0 e1
        simp only [Prod.mk.injEq] at x0
        rw [add_plain] at c0 c1
        rw [e0] at c0
        rw [e1] at c1
        refine ⟨by rw [e0]; exact c0, by rw [e1]; exact c1, ?_⟩
        show (strAt (V0 i)).size ≤ _
        rw [e0]
        refine deed_sized hsz rfl (s := s) (d1 := D1 i) ?_
        rw [List.mem_map]
        exact ⟨i, List.mem_range.2 hi, by rw [x0.1]⟩
      · subst he
        exact ⟨_, rfl, fin _ hnx⟩
end Go.Proofs.Ytnphookkinpigaa.PlaysRow
namespace Go.Proofs.Ytnphookkinpigaa
theorem framePlays_holds : Rows.FramePlaysSaid :=
  OpenClaim.holds_of_wide 3 Try.f3 rfl rfl rfl rfl rfl rfl rfl ⟨rfl, rfl, rfl, rfl, rfl⟩ rfl rfl rfl rfl rfl (by kernel_rfl) Try.func3 (by kernel_rfl)
    (of_decide_eq_true (by kernel_rfl)) (by unfold Func.isWrapper; first | (rw [if_pos (by decide +kernel)]; kernel_rfl) | (rw [if_neg (by decide +kernel)]; exact ⟨rfl, rfl⟩))
    (fun os started H enc _ => PlaysRow.lifted os started H enc)
end Go.Proofs.Ytnphookkinpigaa
