/- NumSizes: for every number of 64 bits and every size the call returns true, and nothing that existed has changed; conditions: the kinds' own bounds. -/
import Derived.Test.YtgfdppkhaanfkaaPureNumReads
namespace Go.Proofs.Ytgfdppkhaanfkaa.Sizes
open Go.RowKit Go.Proofs.Ytgfdppkhaanfkaa.PNumReads Go.Proofs.YtgfdppkhaanfkaaW.PrintWords Go.Proofs.YtgfdppkhaanfkaaW.PrintLast Go.Proofs.YtgfdppkhaanfkaaW.PrintMore Go.Proofs.Ytgfdppkhaanfkaa.Math Go.Proofs.Ytgfdppkhaanfkaa.Pure

/-- What stands at a round's head: so many bytes are needed at least, and this is left. -/
def Inv (n need m : Int) : Prop := 1 ≤ need ∧ need ≤ 8 ∧ 0 ≤ m ∧ m ≤ 72057594037927935 ∧ m = n / 256 ^ need.toNat ∧ (need = 1 ∨ 256 ^ (need.toNat - 1) ≤ n)

theorem pow8 : (256 : Int) ^ 8 = 18446744073709551616 := by decide

theorem pow_mono {a b : Nat} (h : a ≤ b) : (256 : Int) ^ a ≤ 256 ^ b := by
  obtain ⟨c, rfl⟩ : ∃ c, b = a + c := ⟨b - a, by omega⟩
  rw [Int.pow_add]
  have h1 := pow_pos a
  have h2 := pow_pos c
  have h3 : (256 : Int) ^ a * 1 ≤ 256 ^ a * 256 ^ c := Int.mul_le_mul_of_nonneg_left (by omega) (by omega)
  omega

theorem inv_start (n : Int) (h0 : 0 ≤ n) (h : n < 18446744073709551616) : Inv n 1 (n / 256) := by
  refine ⟨by omega, by omega, by omega, by omega, ?_, .inl rfl⟩
  rfl

theorem inv_step (n need m : Int) (h0 : 0 ≤ n) (h : n < 18446744073709551616) (hi : Inv n need m) (hm : 0 < m) : Inv n (need + 1) (m / 256) := by
  obtain ⟨a, b, c, d, e, f⟩ := hi
  obtain ⟨k, rfl⟩ := Int.eq_ofNat_of_zero_le (show 0 ≤ need by omega)
  rw [Int.toNat_natCast] at e
  have g : (256 : Int) ^ k ≤ n := by
    rcases Int.lt_or_le n (256 ^ k) with c1 | c1
    · rw [Int.ediv_eq_zero_of_lt h0 c1] at e; omega
    · exact c1
  have k8 : k < 8 := by
    rcases Nat.lt_or_ge k 8 with c1 | c1
    · exact c1
    · have := pow_mono c1
      rw [pow8] at this
      omega
  have t1 : ((k : Int) + 1).toNat = k + 1 := by omega
  refine ⟨by omega, by omega, by omega, by omega, ?_, .inr ?_⟩
  · rw [t1, e, Int.ediv_ediv_of_nonneg (Int.le_of_lt (pow_pos k)), Int.pow_succ]
  · rw [t1, Nat.add_sub_cancel]; exact g

/-- At the end: the sizes that serve are those from 'need' to 8. -/
theorem inv_end (n need m : Int) (s : Nat) (s1 : 1 ≤ s) (h0 : 0 ≤ n) (hi : Inv n need m) (hm : ¬ 0 < m) : need ≤ (s : Int) ↔ n < 256 ^ s := by
  obtain ⟨a, b, c, d, e, f⟩ := hi
  obtain ⟨k, rfl⟩ := Int.eq_ofNat_of_zero_le (show 0 ≤ need by omega)
  rw [Int.toNat_natCast] at e f
  have e0 : n / 256 ^ k = 0 := by omega
  have g : n < 256 ^ k := (small_div h0).1 e0
  constructor
  · intro hs
    have := pow_mono (show k ≤ s by omega)
    omega
  · intro hs
    rcases f with f | f
    · omega
    · rcases Nat.lt_or_ge s k with z | z
      · have := pow_mono (show s ≤ k - 1 by omega)
        omega
      · omega

theorem put_tells (n size : Int) (h0 : 0 ≤ n) : ∃ t e, num_Put.f 10 n size = some (t, e) ∧ ((e = 0 ∧ ∃ s : Nat, 1 ≤ s ∧ s ≤ 8 ∧ size = s ∧ n < 256 ^ s) ∨ (e = 1 ∧ ((size < 1 ∨ 8 < size) ∨ ∃ s : Nat, 1 ≤ s ∧ s ≤ 8 ∧ size = s ∧ ¬ n < 256 ^ s))) := by
  by_cases c : size < 1 ∨ 8 < size
  · exact ⟨_, _, put_none 10 n size c (Nat.le_refl _), .inr ⟨rfl, .inl c⟩⟩
  · obtain ⟨s, rfl⟩ := Int.eq_ofNat_of_zero_le (show 0 ≤ size by omega)
    have h := put_some 10 n s h0 (by omega) (by omega) (Nat.le_refl _)
    by_cases d : n < 256 ^ s
    · rw [if_pos d] at h
      exact ⟨_, _, h, .inl ⟨rfl, s, by omega, by omega, rfl, d⟩⟩
    · rw [if_neg d] at h
      exact ⟨_, _, h, .inr ⟨rfl, .inr ⟨s, by omega, by omega, rfl, d⟩⟩⟩

theorem inv_bounds {n need m : Int} (h : Inv n need m) : 1 ≤ need ∧ need ≤ 8 ∧ 0 ≤ m ∧ m ≤ 72057594037927935 := ⟨h.1, h.2.1, h.2.2.1, h.2.2.2.1⟩

set_option maxHeartbeats 1000000 in
set_option maxRecDepth 100000 in
theorem walk (n size : Int) (h0 : 0 ≤ n) (h1 : n < 18446744073709551616) (w : World) :
    Calls Try.prog 5 #[.int .u64 n, .int .i64 size] w fun e w' => e = .returned (.bool true) ∧ Below w.heap.size w w' := by
  have HE := examples_true 10 (Nat.le_refl _)
  have H8 : num_Put.f 10 n 8 = some (strOfNums (be 8 n), 0) := by
    have h := put_some 10 n 8 h0 (by decide) (by decide) (Nat.le_refl _)
    rw [if_pos (by rw [pow8]; exact h1)] at h
    exact h
  obtain ⟨t, e, HP, ht⟩ := put_tells n size h0
  have HE' := Aside0.mk HE
  have H8' := Aside0.mk H8
  have HP' := Aside0.mk HP
  have HT := Aside0.mk ht
  have HB := Aside0.mk (Below.refl w.heap.size w)
  have hI := Aside0.mk (inv_start n h0 h1)
  have hn := Aside0.mk h1
  have hd : Int.tdiv n 256 = n / 256 := Int.tdiv_eq_ediv_of_nonneg h0
  have hn2 : n ≤ 18446744073709551615 := by omega
  clear HE H8 HP ht h1 hd
  go_enter Try.func5, Try.ntmps5
  go_wp2_with (first | (go_at_call 10; refine (bailiwicklaw01_examples.calls 10 true _ HE'.out).mono ?_; rintro e1 w1 ⟨rfl, hb1⟩; have HB1 := Aside0.mk (below_step HB.out hb1); clear hb1) | (go_at_call 11; (with_reducible refine (num_Put.calls 10 n 8 _ _ _ H8'.out).mono ?_); rintro e1 w2 ⟨rfl, hb2⟩; have HB2 := Aside0.mk (below_step HB1.out hb2); clear hb2) | (go_at_call 11; (with_reducible refine (num_Put.calls 10 n size _ _ _ HP'.out).mono ?_); rintro e1 w3 ⟨rfl, hb3⟩; have HB3 := Aside0.mk (below_step HB2.out hb3); clear hb3))
  go_loop [10, 11] (fun v10 v11 => ∃ need m : Int, v10 = .int .i64 need ∧ v11 = .int .u64 m ∧ Aside0 (Inv n need m)) (fun v10 _ => 9 - (intOf v10).toNat)
  case atStart => exact ⟨1, n / 256, rfl, rfl, hI⟩
  case round =>
    obtain ⟨need, m, rfl, rfl, hinv⟩ := hrel
    clear hI
    obtain ⟨b1, b2, b3, b4⟩ := inv_bounds hinv.out
    by_cases hm : 0 < m
    · have hs := Aside0.mk (inv_step n need m h0 hn.out hinv.out hm)
      have hk := (hs.out).2.1
      go_wp2
      go_round
      case rel => exact ⟨need + 1, m / 256, by first | rfl | go_num, by first | rfl | go_num, hs⟩
      case measure => simp [intOf]; omega
    · have he := Aside0.mk (fun s s1 => inv_end n need m s s1 h0 hinv.out hm)
      rcases HT.out with ⟨rfl, s, s1, s8, rfl, hlt⟩ | ⟨rfl, hno⟩
      · have g1 : need ≤ (s : Int) := (he.out s s1).2 hlt
        have g2 : (s : Int) ≤ 8 := by omega
        clear hlt
        go_wp2
        go_ret
        exact ⟨rfl, HB3.out⟩
      · by_cases g1 : need ≤ size
        · have g2 : ¬ size ≤ 8 := by
            rcases hno with hno | ⟨s, s1, s8, rfl, hge⟩
            · omega
            · exact absurd ((he.out s s1).1 g1) (by omega)
          clear hno
          go_wp2
          go_ret
          exact ⟨rfl, HB3.out⟩
        · clear hno
          go_wp2
          go_ret
          exact ⟨rfl, HB3.out⟩
end Go.Proofs.Ytgfdppkhaanfkaa.Sizes
