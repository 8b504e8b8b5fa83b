/- CacheAges is true. -/
import Derived.Test.YtgbmbehobemocaaM4
namespace Go.Proofs.Ytgbmbehobemocaa
open Go.RowKit
set_option linter.unusedVariables false
set_option linter.unusedSimpArgs false

theorem ages_bad (S W L z : Int) (hv : valB S W L = false) (u : Value) (l : List Int) (w : World) (hu : RdI w u l) (hl : l.length ≤ 9223372036854775807) :
    Calls Try.prog 6 #[.agg #[.int .i64 S, .int .i64 W, .int .i64 L], u, .int .i64 z] w fun e w' => e = .returned (.bool true) ∧ Below w.heap.size w w' := by
  obtain ⟨B, d, rfl⟩ := hu.slice
  have C19 := fun v w => made_bad S W L v w hv
  have C20 := fun w h => great_any w (.slice B l.length d) l h hl
  obtain ⟨g1, hg1⟩ : ∃ g1, g1 = greatB l := ⟨_, rfl⟩
  rw [← hg1] at C20
  have HU := Lib.hid hu
  clear hv hu hg1
  go_enter Try.func6, Try.ntmps6
  go_wp2_with (fail)
  obtain ⟨wb, hwb⟩ : ∃ wb, wb = w.alloc (.cells #[.int .i64 S, .int .i64 W, .int .i64 L] 23) := ⟨_, rfl⟩
  obtain ⟨n0, hn0⟩ : ∃ n0, n0 = w.heap.size := ⟨_, rfl⟩
  have hw0 : wb.cell? ⟨n0, 0, none⟩ = some (.int .i64 S) ∧ wb.cell? ⟨n0, 1, none⟩ = some (.int .i64 W) ∧ wb.cell? ⟨n0, 2, none⟩ = some (.int .i64 L) ∧ n0 < wb.heap.size ∧ Below n0 w wb := by
    rw [hwb, hn0]
    exact ⟨by simp, by simp, by simp, by simp, (Below.refl _ _).alloc (Nat.le_refl _) _⟩
  rw [← hwb, ← hn0]
  have HN0 := Lib.hid hn0
  clear hwb hn0
  obtain ⟨c0, c1, c2, hn, hb0⟩ := hw0
  refine (awake_any wb).mono ?_
  rintro e w1 ⟨rfl, hb⟩
  obtain ⟨c0, c1, c2, hn, hb0⟩ := step_box hb c0 c1 c2 hn hb0
  go_wp2_with (first
    | (go_at_call 19; (with_reducible refine (C19 _ _).mono ?_); rintro e w1 ⟨rfl, hb⟩; obtain ⟨c0, c1, c2, hn, hb0⟩ := step_box hb c0 c1 c2 hn hb0; have hB : Below w.heap.size w w1 := (by rw [← HN0.out]; exact hb0))
    | (go_at_call 20; (with_reducible refine (C20 _ (HU.out.below hB)).mono ?_); rintro e w' ⟨rfl, rfl⟩))
  all_goals
    go_ret
    exact ⟨rfl, hB⟩

/-- What the law asks of the contents: each line at its age, in its set; what is not there has none. -/
theorem age_absent {s : Nat} {M : Int} {xss : List (List Int)} (h : Inv s M xss) (hs : 1 ≤ s) {z : Int} (hz : 0 ≤ z) (hn : ∀ i, i < s → z ∉ xss.getD i []) : ageF s xss z = -1 := by
  unfold ageF
  have m0 : 0 ≤ z % s := Int.emod_nonneg _ (by omega)
  have m1 : z % s < s := Int.emod_lt_of_pos _ (by omega)
  obtain ⟨i, hi⟩ := Int.eq_ofNat_of_zero_le m0
  rw [hi, Int.toNat_natCast]
  exact (idx_mem z _).2 (hn i (by omega))

theorem div_back {k : Int} {ln : Nat} (hl : 1 ≤ ln) : k * ln / ln = k ∧ (k * ln + ln - 1) / ln = k := by
  have hp : (0 : Int) < ln := by omega
  refine ⟨Int.mul_ediv_cancel _ (by omega), ?_⟩
  rw [show k * (ln : Int) + ln - 1 = (ln - 1) + k * ln by omega, Int.add_mul_ediv_right _ _ (by omega), Int.ediv_eq_zero_of_lt (by omega) (by omega)]
  omega

set_option maxRecDepth 100000 in
set_option maxHeartbeats 2000000 in
theorem ages_good (s W ln : Nat) (z : Int) (hz : z ≤ 9223372036854775807) (hv : valB s W ln = true) (u : Value) (l : List Int) (w : World) (hu : RdI w u l) (hl : l.length ≤ 9223372036854775807) (hil : I64s l) :
    Calls Try.prog 6 #[.agg #[.int .i64 s, .int .i64 W, .int .i64 ln], u, .int .i64 z] w fun e w' => e = .returned (.bool true) ∧ Below w.heap.size w w' := by
  obtain ⟨A, c, rfl⟩ := hu.slice
  have C19 := fun w1 hB => made_ok s W ln (.slice A l.length c) l w w1 hv hu hB hl hil
  have C20 := fun w h => great_any w (.slice A l.length c) l h hl
  obtain ⟨g1, hg1⟩ : ∃ g1, g1 = greatB l := ⟨_, rfl⟩
  rw [← hg1] at C20
  have HU := Lib.hid hu
  have HVB := Lib.hid hv
  have HG1 := Lib.hid hg1
  obtain ⟨-, -, hs1, hs2, hW1, hW2, hL1, hL2⟩ := valB_spec hv
  clear hv hu hg1 hil
  go_enter Try.func6, Try.ntmps6
  go_wp2_with (fail)
  obtain ⟨wb, hwb⟩ : ∃ wb, wb = w.alloc (.cells #[.int .i64 s, .int .i64 W, .int .i64 ln] 23) := ⟨_, rfl⟩
  obtain ⟨n0, hn0⟩ : ∃ n0, n0 = w.heap.size := ⟨_, rfl⟩
  have hw0 : wb.cell? ⟨n0, 0, none⟩ = some (.int .i64 s) ∧ wb.cell? ⟨n0, 1, none⟩ = some (.int .i64 W) ∧ wb.cell? ⟨n0, 2, none⟩ = some (.int .i64 ln) ∧ n0 < wb.heap.size ∧ Below n0 w wb := by
    rw [hwb, hn0]
    exact ⟨by simp, by simp, by simp, by simp, (Below.refl _ _).alloc (Nat.le_refl _) _⟩
  rw [← hwb, ← hn0]
  have HN0 := Lib.hid hn0
  clear hwb hn0
  obtain ⟨c0, c1, c2, hn, hb0⟩ := hw0
  refine (awake_any wb).mono ?_
  rintro e w1 ⟨rfl, hb⟩
  obtain ⟨c0, c1, c2, hn, hb0⟩ := step_box hb c0 c1 c2 hn hb0
  have hB1 : Hid (Below w.heap.size w w1) := by rw [← HN0.out]; exact hb0
  have HB1 := hB1
  clear hB1
  go_wp2_with (first
    | (go_at_call 19; (with_reducible refine (C19 _ HB1.out).mono ?_); rintro e w2 ⟨hb, b, rfl, hc2⟩; obtain ⟨c0, c1, c2, hn, hb0⟩ := step_box hb c0 c1 c2 hn hb0; have HC2 := Lib.hid hc2; have HB2 : Hid (Below w.heap.size w w2) := (by rw [← HN0.out]; exact hb0); clear hc2)
    | (go_at_call 20; (with_reducible refine (C20 _ (HU.out.below HB2.out)).mono ?_); rintro e w' ⟨rfl, rfl⟩))
  · go_ret
    exact ⟨rfl, HB2.out⟩
  · go_ret
    exact ⟨rfl, HB2.out⟩
  have g1f : g1 = false := Bool.eq_false_iff.2 (by assumption)
  have hz5 : z ≤ 100000 := by assumption
  obtain ⟨gl1, gl2⟩ := great_spec (HG1.out.symm.trans g1f)
  have hinv := inv_run s W ln 100000 (by omega) l (Inv.empty s 100000) gl2
  obtain ⟨xst, hxst⟩ : ∃ xst, xst = runF s W ln (emptyF s) l := ⟨_, rfl⟩
  rw [← hxst] at hinv HC2
  have HLW : Hid (∀ i, i < s → (xst.getD i []).length ≤ W) := fun i hi => by
    obtain ⟨_, _, _, hw⟩ := HC2.out
    exact hw _ (getD_mem (by rw [hinv.lx]; exact hi))
  have HINV := Lib.hid hinv
  have L1 := lines_ca _ w2 b s W ln xst HC2.out HVB.out
  have C17 := fun w y (h0 : 0 ≤ y) (h1 : y ≤ 100000) => set_any s W ln y (by omega) w
  clear g1f gl2 hinv hxst C19 C20 hb hb0
  refine L1.mono ?_
  rintro e w5 ⟨hb5, g, us, rfl, hmat⟩
  obtain ⟨c0, c1, c2, hn5⟩ : w5.cell? ⟨n0, 0, none⟩ = some (.int .i64 s) ∧ w5.cell? ⟨n0, 1, none⟩ = some (.int .i64 W) ∧ w5.cell? ⟨n0, 2, none⟩ = some (.int .i64 ln) ∧ n0 < w5.heap.size :=
    ⟨(bcell hb5 n0 0 hn).trans c0, (bcell hb5 n0 1 hn).trans c1, (bcell hb5 n0 2 hn).trans c2, Nat.lt_of_lt_of_le hn hb5.size⟩
  have HM5 := Lib.hid hmat
  have HC5 := Lib.hid (HC2.out.below hb5)
  have HB5 : Hid (Below w.heap.size w w5) := HB2.out.trans (hb5.mono HB2.out.size)
  clear L1 hb5 hmat HC2
  try clear hHeld
  go_wp2
  go_loopw [8, 31] (fun f i wr => ∃ i' : Nat, ∃ fnd : Bool, i' ≤ s ∧ i = .int .i64 i' ∧ f = .bool fnd ∧ Hid (fnd = true ↔ ∃ p, p < i' ∧ z ∈ xst.getD p []) ∧ Hid (Below w5.heap.size w5 wr)) (fun _ i _ => s - (intOf i).toNat)
  case atStart => exact ⟨0, false, by omega, rfl, rfl, ⟨(fun h => by cases h), (fun ⟨p, hp, _⟩ => by omega)⟩, Below.refl _ _⟩
  case round =>
    obtain ⟨i, fnd, hi, rfl, rfl, HF, HB⟩ := hrel
    have r0 := (bcell HB.out n0 0 hn5).trans c0
    have r1 := (bcell HB.out n0 1 hn5).trans c1
    have r2 := (bcell HB.out n0 2 hn5).trans c2
    by_cases his : i < s
    · obtain ⟨A0, cc, hgi, hrow⟩ := HM5.out.at his
      have hgl := lt_of_heap HM5.out.arr
      have hg7 := (bcell HB.out g i hgl).trans hgi
      obtain ⟨xs, hxs⟩ : ∃ xs, xs = xst.getD i [] := ⟨_, rfl⟩
      have hxlen : xs.length ≤ W := by rw [hxs]; exact HLW.out i his
      have HAT : Hid (∀ j, j < xs.length → ageF s xst (xs.getD j 0) = j ∧ 0 ≤ xs.getD j 0 ∧ xs.getD j 0 ≤ 100000 ∧ setF s W ln (xs.getD j 0) = i) := by
        rw [hxs]
        intro j hj
        have h1 := HINV.out.age his hj
        obtain ⟨h2, h3, h4⟩ := HINV.out.at_ i his _ (getD_memI _ hj)
        exact ⟨h1, h2, h4, by rw [setF_ok HVB.out h2, h3]⟩
      rw [← hxs] at hg7 hrow
      have hdW : decide (W < xs.length) = false := decide_eq_false (by omega)
      have HXS := Lib.hid hxs
      have HROW := Lib.hid hrow
      clear hxs hrow hgi
      go_wp2
      obtain ⟨wo, rfl⟩ : ∃ wo : World, wo = wr := ⟨_, rfl⟩
      go_loopw [8, 43] (fun f j w8 => ∃ j' : Nat, ∃ fnd : Bool, j' ≤ xs.length ∧ j = .int .i64 j' ∧ f = .bool fnd ∧ Hid (fnd = true ↔ (∃ p, p < i ∧ z ∈ xst.getD p []) ∨ ∃ p, p < j' ∧ xs.getD p 0 = z) ∧ Hid (Below w5.heap.size w5 w8)) (fun _ j _ => xs.length - (intOf j).toNat)
      case atStart => exact ⟨0, fnd, by omega, rfl, rfl, HF.out.trans ⟨fun h => .inl h, fun h => by rcases h with h | ⟨p, hp, _⟩; exact h; omega⟩, HB.out⟩
      case round =>
        obtain ⟨j, fnd', hj, rfl, rfl, HF', HB8⟩ := hrel
        have t0 := (bcell HB8.out n0 0 hn5).trans c0
        have t1 := (bcell HB8.out n0 1 hn5).trans c1
        have t2 := (bcell HB8.out n0 2 hn5).trans c2
        have tn : n0 < wr.heap.size := Nat.lt_of_lt_of_le hn5 HB8.out.size
        by_cases hjt : j < xs.length
        · obtain ⟨b2, off2, rfl, hlb2, hcy⟩ := HROW.out.at HB8.out hjt
          obtain ⟨y, hy⟩ : ∃ y, y = xs.getD j 0 := ⟨_, rfl⟩
          obtain ⟨a1, a2, a3, a4⟩ := HAT.out j hjt
          rw [← hy] at hcy a1 a2 a3 a4
          have D17 := fun w => C17 w y a2 a3
          rw [a4] at D17
          have A3 := fun w (hb : Below w5.heap.size w5 w) => age_ca _ w b s W ln xst (HC5.out.below hb) HVB.out y a2 (by omega)
          rw [a1] at A3
          have hp : y * ln ≤ 100000 * 16 := Int.mul_le_mul a3 (by omega) (by omega) (by omega)
          have hp0 : 0 ≤ y * ln := Int.mul_nonneg a2 (by omega)
          obtain ⟨v1, v2⟩ := div_back (k := y) (ln := ln) (by omega)
          have P1 := fun w (hb : Below w5.heap.size w5 w) => probe_ca _ w b s W ln xst (HC5.out.below hb) HVB.out (y * ln) hp0 (by omega)
          have P2 := fun w (hb : Below w5.heap.size w5 w) => probe_ca _ w b s W ln xst (HC5.out.below hb) HVB.out (y * ln + ln - 1) (by omega) (by omega)
          have e1 : hitF s ln xst (y * ln) = true := by unfold hitF; rw [v1, a1]; simp
          have e2 : hitF s ln xst (y * ln + ln - 1) = true := by unfold hitF; rw [v2, a1]; simp
          rw [e1] at P1
          rw [e2] at P2
          have HY := Lib.hid hy
          clear hy a1 a4 v1 v2 e1 e2
          cases fnd' with
          | true =>
            go_wp2_with (first
              | (go_at_call 17; (with_reducible refine (D17 _).mono ?_); rintro e w9 ⟨rfl, hb9⟩; have HB9 := Lib.hid (HB8.out.trans (hb9.mono HB8.out.size)); have t2 := (bcell hb9 n0 2 tn).trans t2; clear hb9)
              | (go_at_call 25; (with_reducible refine (A3 _ HB9.out).mono ?_); rintro e w10 ⟨rfl, hb10⟩; have HB10 := Lib.hid (HB9.out.trans (hb10.mono HB9.out.size)); have t2 : w10.cell? ⟨n0, 2, none⟩ = some (.int .i64 ln) := (bcell HB10.out n0 2 hn5).trans c2; clear hb10)
              | (go_at_call 26; (with_reducible refine (P1 _ HB10.out).mono ?_); rintro e w11 ⟨rfl, hb11⟩; have HB11 := Lib.hid (HB10.out.trans (hb11.mono HB10.out.size)); have t2 : w11.cell? ⟨n0, 2, none⟩ = some (.int .i64 ln) := (bcell HB11.out n0 2 hn5).trans c2; clear hb11)
              | (go_at_call 26; (with_reducible refine (P2 _ HB11.out).mono ?_); rintro e w12 ⟨rfl, hb12⟩; have HB12 := Lib.hid (HB11.out.trans (hb12.mono HB11.out.size)); clear hb12))
            go_roundw
            case rel => exact ⟨j + 1, true, by omega, by go_num, rfl, ⟨fun _ => by
              rcases HF'.out.1 (by trivial) with h | ⟨p, hp, he⟩
              · exact .inl h
              · exact .inr ⟨p, by omega, he⟩, fun _ => rfl⟩, HB12.out⟩
            case measure => simp [intOf]; omega
          | false =>
            have nf := HF'.out
            by_cases heq : y = z
            · have q1 : (y == z) = true := by simpa using heq
              have HEQ := Lib.hid heq
              clear heq nf
              go_wp2_with (first
                | (go_at_call 17; (with_reducible refine (D17 _).mono ?_); rintro e w9 ⟨rfl, hb9⟩; have HB9 := Lib.hid (HB8.out.trans (hb9.mono HB8.out.size)); have t2 := (bcell hb9 n0 2 tn).trans t2; clear hb9)
                | (go_at_call 25; (with_reducible refine (A3 _ HB9.out).mono ?_); rintro e w10 ⟨rfl, hb10⟩; have HB10 := Lib.hid (HB9.out.trans (hb10.mono HB9.out.size)); have t2 : w10.cell? ⟨n0, 2, none⟩ = some (.int .i64 ln) := (bcell HB10.out n0 2 hn5).trans c2; clear hb10)
                | (go_at_call 26; (with_reducible refine (P1 _ HB10.out).mono ?_); rintro e w11 ⟨rfl, hb11⟩; have HB11 := Lib.hid (HB10.out.trans (hb11.mono HB10.out.size)); have t2 : w11.cell? ⟨n0, 2, none⟩ = some (.int .i64 ln) := (bcell HB11.out n0 2 hn5).trans c2; clear hb11)
                | (go_at_call 26; (with_reducible refine (P2 _ HB11.out).mono ?_); rintro e w12 ⟨rfl, hb12⟩; have HB12 := Lib.hid (HB11.out.trans (hb12.mono HB11.out.size)); clear hb12))
              go_roundw
              case rel => exact ⟨j + 1, true, by omega, by go_num, rfl, ⟨fun _ => .inr ⟨j, by omega, HY.out.symm.trans HEQ.out⟩, fun _ => rfl⟩, HB12.out⟩
              case measure => simp [intOf]; omega
            · have q1 : (y == z) = false := by simpa using heq
              have HEQ := Lib.hid heq
              clear heq nf
              go_wp2_with (first
                | (go_at_call 17; (with_reducible refine (D17 _).mono ?_); rintro e w9 ⟨rfl, hb9⟩; have HB9 := Lib.hid (HB8.out.trans (hb9.mono HB8.out.size)); have t2 := (bcell hb9 n0 2 tn).trans t2; clear hb9)
                | (go_at_call 25; (with_reducible refine (A3 _ HB9.out).mono ?_); rintro e w10 ⟨rfl, hb10⟩; have HB10 := Lib.hid (HB9.out.trans (hb10.mono HB9.out.size)); have t2 : w10.cell? ⟨n0, 2, none⟩ = some (.int .i64 ln) := (bcell HB10.out n0 2 hn5).trans c2; clear hb10)
                | (go_at_call 26; (with_reducible refine (P1 _ HB10.out).mono ?_); rintro e w11 ⟨rfl, hb11⟩; have HB11 := Lib.hid (HB10.out.trans (hb11.mono HB10.out.size)); have t2 : w11.cell? ⟨n0, 2, none⟩ = some (.int .i64 ln) := (bcell HB11.out n0 2 hn5).trans c2; clear hb11)
                | (go_at_call 26; (with_reducible refine (P2 _ HB11.out).mono ?_); rintro e w12 ⟨rfl, hb12⟩; have HB12 := Lib.hid (HB11.out.trans (hb12.mono HB11.out.size)); clear hb12))
              go_roundw
              case rel => exact ⟨j + 1, false, by omega, by go_num, rfl, ⟨fun h => (by cases h), fun h => HF'.out.2 (by
                rcases h with h | ⟨p, hp, he⟩
                · exact .inl h
                · refine .inr ⟨p, ?_, he⟩
                  rcases Nat.lt_or_ge p j with h | h
                  · exact h
                  · have : p = j := by omega
                    subst this
                    exact absurd (HY.out.trans he) HEQ.out)⟩, HB12.out⟩
              case measure => simp [intOf]; omega
        · have hjl : j = xs.length := by omega
          go_wp2
          go_roundw
          case rel => exact ⟨i + 1, fnd', by omega, by go_num, rfl, HF'.out.trans ⟨fun h => by
            rcases h with ⟨p, hp, hm⟩ | ⟨p, hp, he⟩
            · exact ⟨p, by omega, hm⟩
            · exact ⟨i, by omega, by rw [← HXS.out, ← he]; exact getD_memI _ (by omega)⟩, fun ⟨p, hp, hm⟩ => by
            rcases Nat.lt_or_ge p i with h | h
            · exact .inl ⟨p, h, hm⟩
            · have : p = i := by omega
              subst this
              rw [← HXS.out] at hm
              obtain ⟨q, hq, he⟩ := List.getElem_of_mem hm
              exact .inr ⟨q, by omega, by rw [List.getD_eq_getElem?_getD, List.getElem?_eq_getElem hq]; exact he⟩⟩, HB8.out⟩
          case measure => simp [intOf]; omega
    · have hi2 : i = s := by omega
      have hBw : Below w.heap.size w wr := HB5.out.trans (HB.out.mono HB5.out.size)
      have HBW := Lib.hid hBw
      clear hBw
      cases fnd with
      | true =>
        go_wp2
        go_ret
        exact ⟨rfl, HBW.out⟩
      | false =>
        by_cases hz0 : 0 ≤ z
        · have hab : ageF s xst z = -1 := age_absent HINV.out (by omega) hz0 (fun p hp hm => by
            have := HF.out.2 ⟨p, by omega, hm⟩
            cases this)
          have hzl : z * ln ≤ 100000 * 16 := Int.mul_le_mul hz5 (by omega) (by omega) (by omega)
          have hzl0 : 0 ≤ z * ln := Int.mul_nonneg hz0 (by omega)
          have A3 := age_ca _ wr b s W ln xst (HC5.out.below HB.out) HVB.out z hz0 (by omega)
          have P1 := fun w (hb : Below w5.heap.size w5 w) => probe_ca _ w b s W ln xst (HC5.out.below hb) HVB.out (z * ln) hzl0 (by omega)
          have e1 : hitF s ln xst (z * ln) = false := by unfold hitF; rw [(div_back (k := z) (ln := ln) (by omega)).1, hab]; simp
          rw [hab] at A3
          rw [e1] at P1
          clear hab e1
          go_wp2_with (first
            | (go_at_call 25; (with_reducible refine A3.mono ?_); rintro e w10 ⟨rfl, hb10⟩; have HB10 := Lib.hid (HB.out.trans (hb10.mono HB.out.size)); have t2 : w10.cell? ⟨n0, 2, none⟩ = some (.int .i64 ln) := (bcell HB10.out n0 2 hn5).trans c2; clear hb10)
            | (go_at_call 26; (with_reducible refine (P1 _ HB10.out).mono ?_); rintro e w11 ⟨rfl, hb11⟩; have HB11 := Lib.hid (HB10.out.trans (hb11.mono HB10.out.size)); clear hb11))
          go_ret
          exact ⟨rfl, HB5.out.trans (HB11.out.mono HB5.out.size)⟩
        · have A3 := age_neg b z (by omega) wr
          go_wp2_with (go_at_call 25; (with_reducible refine A3.mono ?_); rintro e w10 ⟨rfl, rfl⟩)
          go_ret
          exact ⟨rfl, HBW.out⟩

theorem cacheAges_walk (S W L : Int) (u : Value) (l : List Int) (z : Int) (w : World) (hu : RdK w .i64 u l) (hl : l.length ≤ 9223372036854775807) (wl : ∀ n ∈ l, (Lit.int .i64 n).wf = true) (wz : (Lit.int .i64 z).wf = true) :
    Calls Try.prog 6 #[.agg #[.int .i64 S, .int .i64 W, .int .i64 L], u, .int .i64 z] w fun e w' => e = .returned (.bool true) ∧ Below w.heap.size w w' := by
  cases hv : valB S W L with
  | false => exact ages_bad S W L z hv u l w hu hl
  | true =>
    obtain ⟨-, -, h1, h2, h3, h4, h5, h6⟩ := valB_spec hv
    obtain ⟨s, rfl⟩ := Int.eq_ofNat_of_zero_le (show 0 ≤ S by omega)
    obtain ⟨wy, rfl⟩ := Int.eq_ofNat_of_zero_le (show 0 ≤ W by omega)
    obtain ⟨ln, rfl⟩ := Int.eq_ofNat_of_zero_le (show 0 ≤ L by omega)
    exact ages_good s wy ln z (wf_i64 wz) hv u l w hu hl (wf_i64s wl)
end Go.Proofs.Ytgbmbehobemocaa
