/- NumLists: for every slice of texts the call returns true, and nothing that existed has changed; conditions: the slice's length is within the reach. -/
import Derived.Test.YtgfdppkhaanfkaaPureNumReads
import Derived.Test.YtgfdppkhaanfkaaBack
namespace Go.Proofs.Ytgfdppkhaanfkaa.Lists
open Go.RowKit Go.Proofs.Ytgfdppkhaanfkaa.PNumReads Go.Proofs.YtgfdppkhaanfkaaW.PrintWords Go.Proofs.YtgfdppkhaanfkaaW.PrintLast Go.Proofs.YtgfdppkhaanfkaaW.PrintMore Go.Proofs.Ytgfdppkhaanfkaa.Math Go.Proofs.Ytgfdppkhaanfkaa.Pure Go.Proofs.Ytgfdppkhaanfkaa.Back
attribute [local go_sem] min2_int min_two

/-- A text, cut to at most 255 bytes. -/
def cut (s : ByteArray) : ByteArray := s.extract 0 (min s.size 255)
/-- It, with its length ahead. -/
def piece (s : ByteArray) : ByteArray := strOfNums [((cut s).size : Int)] ++ cut s
/-- Such texts one behind the other. -/
def flat : List ByteArray → ByteArray
  | [] => ⟨#[]⟩
  | s :: l => piece s ++ flat l

theorem cut_size (s : ByteArray) : (cut s).size ≤ 255 := by
  rw [cut, ByteArray.size_extract]
  omega

theorem piece_size (s : ByteArray) : (piece s).size ≤ 256 := by
  have := cut_size s
  rw [piece, ByteArray.size_append, strOfNums_size, List.length_singleton]
  omega

theorem empty_append (a : ByteArray) : (⟨#[]⟩ : ByteArray) ++ a = a := by
  apply of_bytesOf
  rw [bytesOf_append]
  rfl

theorem append_empty (a : ByteArray) : a ++ (⟨#[]⟩ : ByteArray) = a := by
  apply of_bytesOf
  rw [bytesOf_append]
  exact List.append_nil _

theorem append_assoc (a b c : ByteArray) : a ++ b ++ c = a ++ (b ++ c) := by
  apply of_bytesOf
  simp only [bytesOf_append, List.append_assoc]

theorem flat_snoc (l : List ByteArray) (s : ByteArray) : flat (l ++ [s]) = flat l ++ piece s := by
  induction l with
  | nil =>
    show piece s ++ ⟨#[]⟩ = ⟨#[]⟩ ++ piece s
    rw [append_empty, empty_append]
  | cons x l ih =>
    show piece x ++ flat (l ++ [s]) = piece x ++ flat l ++ piece s
    rw [ih, append_assoc]

theorem flat_size (l : List ByteArray) : (flat l).size ≤ 256 * l.length := by
  induction l with
  | nil => exact Nat.le_refl _
  | cons x l ih =>
    have := piece_size x
    show (piece x ++ flat l).size ≤ _
    rw [ByteArray.size_append, List.length_cons]
    omega

def at' (ss : List ByteArray) (k : Nat) : ByteArray := ss.getD k ByteArray.empty

theorem flat_take (ss : List ByteArray) (k : Nat) (h : k < ss.length) : flat (ss.take (k + 1)) = flat (ss.take k) ++ piece (at' ss k) := by
  rw [List.take_succ_eq_append_getElem h, flat_snoc, at', List.getD_eq_getElem?_getD, List.getElem?_eq_getElem h]
  rfl

theorem flat_take_size (ss : List ByteArray) (k : Nat) (h : k ≤ 10) : (flat (ss.take k)).size ≤ 2560 := by
  have h1 := flat_size (ss.take k)
  have h2 : (ss.take k).length ≤ k := List.length_take_le _ _
  omega

theorem flat_drop (ss : List ByteArray) (n k : Nat) (h : k < n) (hn : n ≤ ss.length) : flat ((ss.take n).drop k) = piece (at' ss k) ++ flat ((ss.take n).drop (k + 1)) := by
  have hl : k < (ss.take n).length := by rw [List.length_take]; omega
  rw [List.drop_eq_getElem_cons hl]
  show piece _ ++ _ = _
  rw [List.getElem_take, at', List.getD_eq_getElem?_getD, List.getElem?_eq_getElem (show k < ss.length by omega)]
  rfl

theorem text_cut (s : ByteArray) : num_Text.f (cut s) = some (piece s, 0) := text_short (cut s) (cut_size s)
theorem taketext_piece (s rest : ByteArray) : num_TakeText.f (piece s ++ rest) = some (cut s, rest, 0) := taketext_text (cut s) rest (cut_size s)

theorem len_cut (s : ByteArray) : ∃ m : Nat, Aside0 (m ≤ s.size ∧ num_Text.f (s.extract 0 m) = some (piece s, 0)) ∧ (if (255 : Int) < (s.size : Int) then 255 else (s.size : Int)) = (m : Int) := by
  refine ⟨min s.size 255, ⟨Nat.min_le_left _ _, text_cut s⟩, ?_⟩
  split <;> omega

theorem cut_len {s : ByteArray} (m : Nat) (h : (if (255 : Int) < (s.size : Int) then 255 else (s.size : Int)) = (m : Int)) : cut s = s.extract 0 m := by
  have e : m = min s.size 255 := by
    split at h <;> omega
  rw [e]
  rfl

theorem flat_nil : (flat []).toList = [] := by rw [ByteArray.toList_eq]; rfl

set_option maxHeartbeats 4000000 in
set_option maxRecDepth 100000 in
theorem walk (b off len cap : Nat) (ss : List ByteArray) (w : World) (hlen : 0 < len) (hl : len ≤ 140737488351232) (hs : len ≤ ss.length)
    (hc : ∀ j, j < len → w.cell? ⟨b, off + j, none⟩ = some (.string (at' ss j))) :
    Calls Try.prog 6 #[.slice (some ⟨b, off, none⟩) len cap] w fun e w' => e = .returned (.bool true) ∧ Below w.heap.size w w' := by
  have HE := Aside0.mk (examples_true 10 (Nat.le_refl _))
  have HB := Aside0.mk (Below.refl w.heap.size w)
  have HC := Aside0.mk hc
  clear hc
  go_enter Try.func6, Try.ntmps6
  go_wp2_with (first | (go_at_call 10; refine (bailiwicklaw01_examples.calls 10 true _ HE.out).mono ?_; rintro e1 w1 ⟨rfl, hb1⟩; have hn := Aside0.mk (below_step HB.out hb1); clear hb1 HB; have HB := hn; clear hn))
  go_loopw [4, 5] (fun v4 v5 W => ∃ k : Nat, k ≤ len ∧ k ≤ 10 ∧ v4 = .string (flat (ss.take k)) ∧ v5 = .int .i64 k ∧ Aside0 (Below w.heap.size w W)) (fun _ v5 _ => 10 - (intOf v5).toNat)
  case atStart => exact ⟨0, Nat.zero_le _, by omega, rfl, rfl, HB⟩
  case round =>
    clear HB
    obtain ⟨k, k1, k2, rfl, rfl, HB⟩ := hrel
    by_cases c : k < len ∧ k < 10
    · obtain ⟨c1, c2⟩ := c
      have hz := flat_take_size ss k (by omega)
      have hp := piece_size (at' ss k)
      have hcell := HC.out k c1
      obtain ⟨m, hm, hx⟩ := len_cut (at' ss k)
      have hm1 : (m : Int) ≤ ((at' ss k).size : Int) := by have := hm.out.1; omega
      have hm0 : (0 : Int) ≤ (m : Int) := Int.natCast_nonneg _
      have HT := Aside0.mk hm.out.2
      have hk0 : (0 : Int) ≤ (k : Int) := Int.natCast_nonneg _
      have hk1 : (k : Int) < (len : Int) := by omega
      have hw : wr.cell? ⟨b, off + k, none⟩ = some (.string (at' ss k)) := (HB.out.cell (World.block_lt_of_cell? w _ hcell)).trans hcell
      clear hm
      go_wp2
      go_region_held3 (fun w' => w'.cell? ⟨b, off + k, none⟩ = some (.string (at' ss k)))
        (first | go_keep)
        (first | (go_simp; go_at_call 13; (with_reducible refine (num_Text.calls _ _ _ _ HT.out).mono ?_); rintro e2 w2 ⟨rfl, hb2⟩; have hn := Aside0.mk (below_step (below_drew1 HB.out) hb2); have hw2 : w2.cell? ⟨b, off + k, none⟩ = some (.string (at' ss k)) := (hn.out.cell (World.block_lt_of_cell? w _ hcell)).trans hcell; clear hb2))
      have hf := Aside0.mk (flat_take ss k (by omega))
      clear HB hw hw2 HT
      go_wp2
      go_roundw
      case rel => exact ⟨k + 1, by omega, by omega, by rw [hf.out], by go_num, hn⟩
      case measure => simp [intOf]; omega
    · have hn : ¬ k < len ∨ (k < len ∧ ¬ k < 10) := by omega
      have hT := Aside0.mk (show k ≤ ss.length by omega)
      rcases hn with n1 | ⟨n1, n2⟩
      all_goals
        clear c
        go_wp2
        go_loopw [4, 8] (fun v4 v8 W => ∃ j : Nat, j ≤ k ∧ v4 = .string (flat ((ss.take k).drop j)) ∧ v8 = .int .i64 j ∧ Aside0 (Below w.heap.size w W)) (fun _ v8 _ => 10 - (intOf v8).toNat)
        case atStart => exact ⟨0, Nat.zero_le _, rfl, rfl, HB⟩
        case round =>
          clear HB
          obtain ⟨j, j1, rfl, rfl, HB⟩ := hrel
          by_cases c : j < k
          · have c1 : j < len := by omega
            have c2 : j < 10 := by omega
            have hcell := HC.out j c1
            obtain ⟨m, hm, hx⟩ := len_cut (at' ss j)
            have hm1 : (m : Int) ≤ ((at' ss j).size : Int) := by have := hm.out.1; omega
            have hm0 : (0 : Int) ≤ (m : Int) := Int.natCast_nonneg _
            have HT2 := Aside0.mk ((congrArg num_TakeText.f (flat_drop ss k j c hT.out)).trans (taketext_piece (at' ss j) (flat ((ss.take k).drop (j + 1)))))
            go_wp2_with (first | (go_at_call 15; (with_reducible refine (num_TakeText.calls _ _ _ _ _ HT2.out).mono ?_); rintro e2 w2 ⟨rfl, hb2⟩; have hn := Aside0.mk (below_step HB.out hb2.below); clear hb2))
            have hw2 : w2.cell? ⟨b, off + j, none⟩ = some (.string (at' ss j)) := (hn.out.cell (World.block_lt_of_cell? w _ hcell)).trans hcell
            have hq : (!((cut (at' ss j)).toList == ((at' ss j).extract 0 m).toList)) = false := by rw [cut_len m hx, beq_self_eq_true]; rfl
            have hj0 : (0 : Int) ≤ (j : Int) := Int.natCast_nonneg _
            have hj1 : (j : Int) < (len : Int) := by omega
            clear hm HT2 HB
            go_quiet (fail)
            go_wp2
            go_roundw
            case rel => exact ⟨j + 1, by omega, rfl, by go_num, Aside0.mk (pw_below_drewN hn.out _)⟩
            case measure => simp [intOf]; omega
          · have c1 : j = k := by omega
            subst c1
            go_wp2
            go_ret
            refine ⟨?_, HB.out⟩
            simp [flat_nil]

set_option maxHeartbeats 1000000 in
set_option maxRecDepth 100000 in
theorem walk0 (a0 : Option Addr) (cap : Nat) (w : World) :
    Calls Try.prog 6 #[.slice a0 0 cap] w fun e w' => e = .returned (.bool true) ∧ Below w.heap.size w w' := by
  have HE := Aside0.mk (examples_true 10 (Nat.le_refl _))
  have HB := Aside0.mk (Below.refl w.heap.size w)
  go_enter Try.func6, Try.ntmps6
  go_wp2_with (first | (go_at_call 10; refine (bailiwicklaw01_examples.calls 10 true _ HE.out).mono ?_; rintro e1 w1 ⟨rfl, hb1⟩; have hn := Aside0.mk (below_step HB.out hb1); clear hb1 HB; have HB := hn; clear hn))
  go_loop [4, 5] (fun v4 v5 => v4 = .string ⟨#[]⟩ ∧ v5 = .int .i64 0) (fun _ _ => 0)
  case atStart => exact ⟨rfl, rfl⟩
  case round =>
    obtain ⟨rfl, rfl⟩ := hrel
    go_wp2
    go_loop [4, 8] (fun v4 v8 => v4 = .string ⟨#[]⟩ ∧ v8 = .int .i64 0) (fun _ _ => 0)
    case atStart => exact ⟨rfl, rfl⟩
    case round =>
      obtain ⟨rfl, rfl⟩ := hrel
      go_wp2
      go_ret
      refine ⟨?_, HB.out⟩
      simp
end Go.Proofs.Ytgfdppkhaanfkaa.Lists
