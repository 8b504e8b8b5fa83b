/- Contracts of the small functions on a cache's geometry (power, Valid, Line, Set and the reference's own): what each call returns, and that nothing that was there has turned. -/
import Derived.Test.YtgbmbehobemocaaProg
import Derived.WalkKit
import Derived.KernelRfl
import Derived.Deep.QuietTactic
import Derived.BigQuiet
import Derived.Deep.RegionHeld3
import Derived.Lib.Hide
namespace Go.Proofs.Ytgbmbehobemocaa
open Go.RowKit
set_option linter.unusedVariables false
set_option linter.unusedSimpArgs false

theorem bcell {W w1 : World} {n : Nat} (hb : Below n W w1) : (∀ b o, b < n → w1.cell? ⟨b, o, none⟩ = W.cell? ⟨b, o, none⟩) :=
  fun b o h => hb.cell (p := ⟨b, o, none⟩) h

/-- A power of two up to a limit, as the program tests it. -/
def powB (n most : Int) : Bool := decide (1 ≤ n) && (decide (n ≤ most) && decide (bits .and .i64 n (wrap64 (n - 1)) = 0))
def valB (S W L : Int) : Bool := powB S 64 && (decide (1 ≤ W) && (decide (W ≤ 8) && powB L 16))

theorem ret_bool {a b : Bool} (h : a = b) : Ending.returned (.bool a) = .returned (.bool b) := by rw [h]
theorem ret_int {k : IntKind} {a b : Int} (h : a = b) : Ending.returned (.int k a) = .returned (.int k b) := by rw [h]

theorem power_any (n most : Int) (w : World) :
    Calls Try.prog 32 #[.int .i64 n, .int .i64 most] w fun e w' => e = .returned (.bool (powB n most)) ∧ w = w' := by
  obtain ⟨r, hr⟩ : ∃ r, r = powB n most := ⟨_, rfl⟩
  rw [← hr]
  have HR := Lib.hid hr
  clear hr
  go_enter Try.func32, Try.ntmps32
  go_wp2
  · go_ret
    exact ⟨ret_bool (by rw [HR.out]; unfold powB; rw [decide_eq_true (by assumption), decide_eq_true (by assumption)]; simp; rfl), rfl⟩
  · go_ret
    exact ⟨ret_bool (by rw [HR.out]; unfold powB; rw [decide_eq_false (p := n ≤ most) (by omega)]; simp), rfl⟩
  · go_ret
    exact ⟨ret_bool (by rw [HR.out]; unfold powB; rw [decide_eq_false (p := 1 ≤ n) (by omega)]; simp), rfl⟩

theorem powB_two (k most : Nat) (hk : 2 ^ k ≤ most) (hm : most ≤ 64) : powB ((2 ^ k : Nat) : Int) most = true := by
  have h : ∀ k : Fin 7, decide (bits .and .i64 ((2 ^ k.val : Nat) : Int) (wrap64 (((2 ^ k.val : Nat) : Int) - 1)) = 0) = true := by decide +kernel
  have hk7 : k < 7 := by
    rcases Nat.lt_or_ge k 7 with h | h
    · exact h
    · have : 2 ^ 7 ≤ 2 ^ k := Nat.pow_le_pow_right (by omega) h
      omega
  unfold powB
  rw [h ⟨k, hk7⟩, decide_eq_true (p := (1 : Int) ≤ _) (by have := Nat.one_le_two_pow (n := k); omega), decide_eq_true (p := _ ≤ (most : Int)) (by omega)]
  rfl

theorem powB_spec : ∀ (n : Fin 65), powB (n.val : Int) 64 = true → ∃ k : Fin 7, n.val = 2 ^ k.val := by
  decide +kernel

theorem powB_of {n : Int} {most : Nat} (hm : most ≤ 64) (h : powB n most = true) : ∃ k, n = ((2 ^ k : Nat) : Int) ∧ 2 ^ k ≤ most := by
  unfold powB at h
  simp only [Bool.and_eq_true, decide_eq_true_eq] at h
  obtain ⟨h1, h2, h3⟩ := h
  obtain ⟨m, rfl⟩ := Int.eq_ofNat_of_zero_le (show 0 ≤ n by omega)
  have h64 : powB ((⟨m, by omega⟩ : Fin 65).val : Int) 64 = true := by
    unfold powB
    simp only [Bool.and_eq_true, decide_eq_true_eq]
    exact ⟨h1, by show (m : Int) ≤ 64; omega, h3⟩
  obtain ⟨k, hk⟩ := powB_spec ⟨m, by omega⟩ h64
  exact ⟨k.val, by rw [← hk], by rw [← hk]; show m ≤ most; omega⟩

/-- The reference's test comes to the same. -/
theorem rpower_any (n : Int) (most : Nat) (hm : most ≤ 64) (w : World) :
    Calls Try.prog 31 #[.int .i64 n, .int .i64 most] w fun e w' => e = .returned (.bool (powB n most)) ∧ w = w' := by
  obtain ⟨r, hr⟩ : ∃ r, r = powB n most := ⟨_, rfl⟩
  rw [← hr]
  have HR := Lib.hid hr
  clear hr
  go_enter Try.func31, Try.ntmps31
  go_wp2
  go_loop [5] (fun p => ∃ k : Nat, k ≤ 7 ∧ p = .int .i64 ((2 ^ k : Nat) : Int) ∧ Hid (∀ j, j < k → n ≠ ((2 ^ j : Nat) : Int))) (fun p => 128 - (intOf p).toNat)
  case atStart => exact ⟨0, by omega, rfl, fun j hj => by omega⟩
  case round =>
    obtain ⟨k, hk, rfl, H⟩ := hrel
    have e2 : 2 ^ k ≤ 2 ^ 7 := Nat.pow_le_pow_right (by omega) hk
    have e1 : 1 ≤ 2 ^ k := Nat.one_le_two_pow
    have HE : Hid ((2 ^ (k + 1) : Nat) = 2 * 2 ^ k) := by show (2 ^ (k + 1) : Nat) = 2 * 2 ^ k; rw [Nat.pow_succ]; omega
    obtain ⟨q, hq⟩ : ∃ q : Nat, q = 2 ^ k := ⟨_, rfl⟩
    rw [← hq] at HE e1 e2 ⊢
    have HQ := Lib.hid hq
    clear hq
    by_cases hlt : q ≤ most
    · by_cases heq : (q : Int) = n
      · subst heq
        go_wp2
        go_ret
        exact ⟨ret_bool (by rw [HR.out, HQ.out]; exact (powB_two k most (by rw [← HQ.out]; omega) hm).symm), rfl⟩
      · have hne : ((q : Int) == n) = false := by simpa using heq
        have hk7 : k < 7 := by
          rcases Nat.lt_or_ge k 7 with h | h
          · exact h
          · have : k = 7 := by omega
            have h2 := HQ.out
            rw [this] at h2
            omega
        go_wp2
        go_round
        case rel =>
          refine ⟨k + 1, by omega, ?_, fun j hj => ?_⟩
          · rw [HE.out]; first | rfl | go_num
          · rcases Nat.lt_or_ge j k with h | h
            · exact H.out j h
            · have : j = k := by omega
              subst this
              rw [← HQ.out]
              exact fun h => heq h.symm
        case measure => simp [intOf]; omega
    · go_wp2
      go_ret
      refine ⟨ret_bool ?_, rfl⟩
      rw [HR.out]
      cases hp : powB n most with
      | false => rfl
      | true =>
        exfalso
        obtain ⟨j, hj, hj2⟩ := powB_of hm hp
        refine H.out j ?_ hj
        have h2 := HQ.out
        rcases Nat.lt_or_ge j k with h | h
        · exact h
        · have : 2 ^ k ≤ 2 ^ j := Nat.pow_le_pow_right (by omega) h
          omega



/-- What a boxed geometry leaves. -/
theorem box3 {w w1 : World} {S W L : Int} (hb : Below (w.alloc (.cells #[.int .i64 S, .int .i64 W, .int .i64 L] 23)).heap.size (w.alloc (.cells #[.int .i64 S, .int .i64 W, .int .i64 L] 23)) w1) :
    w1.cell? ⟨w.heap.size, 0, none⟩ = some (.int .i64 S) ∧ w1.cell? ⟨w.heap.size, 1, none⟩ = some (.int .i64 W) ∧ w1.cell? ⟨w.heap.size, 2, none⟩ = some (.int .i64 L) ∧ w.heap.size < w1.heap.size ∧ Below w.heap.size w w1 := by
  have hs := hb.size
  simp at hs
  refine ⟨?_, ?_, ?_, by omega, ((Below.refl _ _).alloc (Nat.le_refl _) _).trans (hb.mono (by simp))⟩ <;>
    (rw [bcell hb _ _ (by simp)]; simp)

theorem valid_any (S W L : Int) (w : World) :
    Calls Try.prog 14 #[.agg #[.int .i64 S, .int .i64 W, .int .i64 L]] w fun e w' => e = .returned (.bool (valB S W L)) ∧ Below w.heap.size w w' := by
  obtain ⟨r, hr⟩ : ∃ r, r = valB S W L := ⟨_, rfl⟩
  rw [← hr]
  have HR := Lib.hid hr
  clear hr
  obtain ⟨p, hp⟩ : ∃ p, p = powB S 64 := ⟨_, rfl⟩
  obtain ⟨q, hq⟩ : ∃ q, q = powB L 16 := ⟨_, rfl⟩
  have C1 := fun w => power_any S 64 w
  have C2 := fun w => power_any L 16 w
  rw [← hp] at C1
  rw [← hq] at C2
  have HP := Lib.hid hp
  have HQ := Lib.hid hq
  clear hp hq
  go_enter Try.func14, Try.ntmps14
  go_wp2_with (go_at_call 32; ((with_reducible first | refine (C1 _).mono ?_ | refine (C2 _).mono ?_); rintro e w' ⟨rfl, rfl⟩))
  all_goals
    go_ret
    refine ⟨ret_bool ?_, ((Below.refl _ _).alloc (Nat.le_refl _) _)⟩
    rw [HR.out]
    unfold valB
    rw [← HP.out]
  · rw [← HQ.out, decide_eq_true (p := 1 ≤ W) (by assumption), decide_eq_true (p := W ≤ 8) (by assumption)]; simp_all
  · rw [decide_eq_false (p := W ≤ 8) (by omega)]; simp
  · rw [decide_eq_false (p := 1 ≤ W) (by omega)]; simp
  · simp_all



theorem rvalid_any (S W L : Int) (w : World) :
    Calls Try.prog 13 #[.agg #[.int .i64 S, .int .i64 W, .int .i64 L]] w fun e w' => e = .returned (.bool (valB S W L)) ∧ Below w.heap.size w w' := by
  obtain ⟨r, hr⟩ : ∃ r, r = valB S W L := ⟨_, rfl⟩
  rw [← hr]
  have HR := Lib.hid hr
  clear hr
  obtain ⟨p, hp⟩ : ∃ p, p = powB S 64 := ⟨_, rfl⟩
  obtain ⟨q, hq⟩ : ∃ q, q = powB L 16 := ⟨_, rfl⟩
  have C1 := fun w => rpower_any S 64 (by omega) w
  have C2 := fun w => rpower_any L 16 (by omega) w
  simp only [Int.cast_ofNat_Int] at C1 C2
  rw [← hp] at C1
  rw [← hq] at C2
  have HP := Lib.hid hp
  have HQ := Lib.hid hq
  clear hp hq
  go_enter Try.func13, Try.ntmps13
  go_wp2_with (go_at_call 31; ((with_reducible first | refine (C1 _).mono ?_ | refine (C2 _).mono ?_); rintro e w' ⟨rfl, rfl⟩))
  all_goals
    go_ret
    refine ⟨ret_bool ?_, ((Below.refl _ _).alloc (Nat.le_refl _) _)⟩
    rw [HR.out]
    unfold valB
    rw [← HP.out]
  · rw [← HQ.out, decide_eq_true (p := 1 ≤ W) (by assumption), decide_eq_true (p := W ≤ 8) (by assumption)]; simp_all
  · rw [decide_eq_false (p := W ≤ 8) (by omega)]; simp
  · rw [decide_eq_false (p := 1 ≤ W) (by omega)]; simp
  · simp_all

theorem valB_spec {S W L : Int} (h : valB S W L = true) : (∃ k, S = ((2 ^ k : Nat) : Int)) ∧ (∃ k, L = ((2 ^ k : Nat) : Int)) ∧ 1 ≤ S ∧ S ≤ 64 ∧ 1 ≤ W ∧ W ≤ 8 ∧ 1 ≤ L ∧ L ≤ 16 := by
  unfold valB at h
  simp only [Bool.and_eq_true, decide_eq_true_eq] at h
  obtain ⟨h1, h2, h3, h4⟩ := h
  obtain ⟨k, hk, hk2⟩ := powB_of (most := 64) (by omega) h1
  obtain ⟨j, hj, hj2⟩ := powB_of (most := 16) (by omega) h4
  have := Nat.one_le_two_pow (n := k)
  have := Nat.one_le_two_pow (n := j)
  exact ⟨⟨k, hk⟩, ⟨j, hj⟩, by omega, by omega, h2, h3, by omega, by omega⟩

/-- The line of an address, the set of a line. -/
def lineF (S W L a : Int) : Int := if valB S W L = true ∧ 0 ≤ a then a / L else -1
def setF (S W L l : Int) : Int := if valB S W L = true ∧ 0 ≤ l then l % S else -1

theorem line_any (S W L a : Int) (ha : a ≤ 9223372036854775807) (w : World) :
    Calls Try.prog 15 #[.agg #[.int .i64 S, .int .i64 W, .int .i64 L], .int .i64 a] w fun e w' => e = .returned (.int .i64 (lineF S W L a)) ∧ Below w.heap.size w w' := by
  obtain ⟨v, hv⟩ : ∃ v, v = valB S W L := ⟨_, rfl⟩
  have C1 := fun w => valid_any S W L w
  rw [← hv] at C1
  obtain ⟨r, hr⟩ : ∃ r, r = lineF S W L a := ⟨_, rfl⟩
  rw [← hr]
  unfold lineF at hr
  rw [← hv] at hr
  have HR := Lib.hid hr
  clear hr
  cases v with
  | false =>
    clear hv
    go_enter Try.func15, Try.ntmps15
    go_wp2_with (go_at_call 14; ((with_reducible refine (C1 _).mono ?_); rintro e w1 ⟨rfl, hb1⟩; obtain ⟨hc0, hc1, hc2, hz, HB⟩ := box3 hb1; clear hb1))
    go_ret
    exact ⟨ret_int (by rw [HR.out]; simp), HB⟩
  | true =>
    obtain ⟨-, -, -, -, -, -, hL1, hL16⟩ := valB_spec hv.symm
    clear hv
    by_cases h : 0 ≤ a
    · go_enter Try.func15, Try.ntmps15
      go_wp2_with (go_at_call 14; ((with_reducible refine (C1 _).mono ?_); rintro e w1 ⟨rfl, hb1⟩; obtain ⟨hc0, hc1, hc2, hz, HB⟩ := box3 hb1; clear hb1))
      go_ret
      exact ⟨ret_int (by rw [HR.out, if_pos ⟨by trivial, h⟩]), HB⟩
    · go_enter Try.func15, Try.ntmps15
      go_wp2_with (go_at_call 14; ((with_reducible refine (C1 _).mono ?_); rintro e w1 ⟨rfl, hb1⟩; obtain ⟨hc0, hc1, hc2, hz, HB⟩ := box3 hb1; clear hb1))
      go_ret
      exact ⟨ret_int (by rw [HR.out, if_neg (by omega)]), HB⟩


theorem subdiv {a L : Int} (h : 0 ≤ a) (hL : 1 ≤ L) : (a - a % L) / L = a / L := by
  rw [show a - a % L = L * (a / L) by have := Int.mul_ediv_add_emod a L; omega]
  exact Int.mul_ediv_cancel_left _ (by omega)

theorem Below.drewN_ {B : Nat} (w : World) (n : Nat) : Below B w (w.drewN n) := ⟨rfl, rfl, rfl, Nat.le_refl _, fun _ _ => rfl⟩

theorem set_any (S W L a : Int) (ha : a ≤ 9223372036854775807) (w : World) :
    Calls Try.prog 17 #[.agg #[.int .i64 S, .int .i64 W, .int .i64 L], .int .i64 a] w fun e w' => e = .returned (.int .i64 (setF S W L a)) ∧ Below w.heap.size w w' := by
  obtain ⟨v, hv⟩ : ∃ v, v = valB S W L := ⟨_, rfl⟩
  have C1 := fun w => valid_any S W L w
  rw [← hv] at C1
  obtain ⟨r, hr⟩ : ∃ r, r = setF S W L a := ⟨_, rfl⟩
  rw [← hr]
  unfold setF at hr
  rw [← hv] at hr
  have HR := Lib.hid hr
  clear hr
  cases v with
  | false =>
    clear hv
    go_enter Try.func17, Try.ntmps17
    go_wp2_with (go_at_call 14; ((with_reducible refine (C1 _).mono ?_); rintro e w1 ⟨rfl, hb1⟩; obtain ⟨hc0, hc1, hc2, hz, HB⟩ := box3 hb1; clear hb1))
    go_ret
    exact ⟨ret_int (by rw [HR.out]; simp), HB⟩
  | true =>
    obtain ⟨-, -, hS1, hS64, -, -, hL1, hL16⟩ := valB_spec hv.symm
    clear hv
    by_cases h : 0 ≤ a
    · go_enter Try.func17, Try.ntmps17
      go_wp2_with (go_at_call 14; ((with_reducible refine (C1 _).mono ?_); rintro e w1 ⟨rfl, hb1⟩; obtain ⟨hc0, hc1, hc2, hz, HB⟩ := box3 hb1; clear hb1))
      go_ret
      exact ⟨ret_int (by rw [HR.out, if_pos ⟨by trivial, h⟩]), HB⟩
    · go_enter Try.func17, Try.ntmps17
      go_wp2_with (go_at_call 14; ((with_reducible refine (C1 _).mono ?_); rintro e w1 ⟨rfl, hb1⟩; obtain ⟨hc0, hc1, hc2, hz, HB⟩ := box3 hb1; clear hb1))
      go_ret
      exact ⟨ret_int (by rw [HR.out, if_neg (by omega)]), HB⟩

theorem rset_any (S W L a : Int) (ha : a ≤ 9223372036854775807) (w : World) :
    Calls Try.prog 18 #[.agg #[.int .i64 S, .int .i64 W, .int .i64 L], .int .i64 a] w fun e w' => e = .returned (.int .i64 (setF S W L a)) ∧ Below w.heap.size w w' := by
  obtain ⟨v, hv⟩ : ∃ v, v = valB S W L := ⟨_, rfl⟩
  have C1 := fun w => rvalid_any S W L w
  rw [← hv] at C1
  obtain ⟨r, hr⟩ : ∃ r, r = setF S W L a := ⟨_, rfl⟩
  rw [← hr]
  unfold setF at hr
  rw [← hv] at hr
  have HR := Lib.hid hr
  clear hr
  cases v with
  | false =>
    clear hv
    go_enter Try.func18, Try.ntmps18
    go_wp2_with (go_at_call 13; ((with_reducible refine (C1 _).mono ?_); rintro e w1 ⟨rfl, hb1⟩; obtain ⟨hc0, hc1, hc2, hz, HB⟩ := box3 hb1; clear hb1))
    go_ret
    exact ⟨ret_int (by rw [HR.out]; simp), HB⟩
  | true =>
    obtain ⟨-, -, hS1, hS64, -, -, hL1, hL16⟩ := valB_spec hv.symm
    clear hv
    by_cases h : 0 ≤ a
    · go_enter Try.func18, Try.ntmps18
      go_wp2_with (go_at_call 13; ((with_reducible refine (C1 _).mono ?_); rintro e w1 ⟨rfl, hb1⟩; obtain ⟨hc0, hc1, hc2, hz, HB⟩ := box3 hb1; clear hb1))
      go_ret
      exact ⟨ret_int (by rw [HR.out, if_pos ⟨by trivial, h⟩]), HB⟩
    · go_enter Try.func18, Try.ntmps18
      go_wp2_with (go_at_call 13; ((with_reducible refine (C1 _).mono ?_); rintro e w1 ⟨rfl, hb1⟩; obtain ⟨hc0, hc1, hc2, hz, HB⟩ := box3 hb1; clear hb1))
      go_ret
      exact ⟨ret_int (by rw [HR.out, if_neg (by omega)]), HB⟩

theorem rline_any (S W L a : Int) (ha : a ≤ 9223372036854775807) (w : World) :
    Calls Try.prog 16 #[.agg #[.int .i64 S, .int .i64 W, .int .i64 L], .int .i64 a] w fun e w' => e = .returned (.int .i64 (lineF S W L a)) ∧ Below w.heap.size w w' := by
  obtain ⟨v, hv⟩ : ∃ v, v = valB S W L := ⟨_, rfl⟩
  have C1 := fun w => rvalid_any S W L w
  rw [← hv] at C1
  obtain ⟨r, hr⟩ : ∃ r, r = lineF S W L a := ⟨_, rfl⟩
  rw [← hr]
  unfold lineF at hr
  rw [← hv] at hr
  have HR := Lib.hid hr
  clear hr
  cases v with
  | false =>
    clear hv
    go_enter Try.func16, Try.ntmps16
    go_wp2_with (go_at_call 13; ((with_reducible refine (C1 _).mono ?_); rintro e w1 ⟨rfl, hb1⟩; obtain ⟨hc0, hc1, hc2, hz, HB⟩ := box3 hb1; clear hb1))
    go_ret
    exact ⟨ret_int (by rw [HR.out]; simp), HB⟩
  | true =>
    obtain ⟨-, -, hS1, hS64, -, -, hL1, hL16⟩ := valB_spec hv.symm
    clear hv
    by_cases h : 0 ≤ a
    · go_enter Try.func16, Try.ntmps16
      go_wp2_with (go_at_call 13; ((with_reducible refine (C1 _).mono ?_); rintro e w1 ⟨rfl, hb1⟩; obtain ⟨hc0, hc1, hc2, hz, HB⟩ := box3 hb1; clear hb1))
      have m0 : 0 ≤ a % L := Int.emod_nonneg _ (by omega)
      have m1 : a % L ≤ a := by
        have e1 := Int.mul_ediv_add_emod a L
        have e2 := Int.mul_nonneg (show 0 ≤ L by omega) (Int.ediv_nonneg h (show 0 ≤ L by omega))
        omega
      go_quiet (fail)
      go_wp2
      go_ret
      exact ⟨ret_int (by rw [HR.out, if_pos ⟨by trivial, h⟩]; exact subdiv h hL1), HB.trans (Below.drewN_ _ _)⟩
    · go_enter Try.func16, Try.ntmps16
      go_wp2_with (go_at_call 13; ((with_reducible refine (C1 _).mono ?_); rintro e w1 ⟨rfl, hb1⟩; obtain ⟨hc0, hc1, hc2, hz, HB⟩ := box3 hb1; clear hb1))
      go_ret
      exact ⟨ret_int (by rw [HR.out, if_neg (by omega)]), HB⟩


end Go.Proofs.Ytgbmbehobemocaa
