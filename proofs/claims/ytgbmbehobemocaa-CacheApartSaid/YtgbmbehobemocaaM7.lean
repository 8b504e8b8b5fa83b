/- CacheApart is true. -/
import Derived.Test.YtgbmbehobemocaaM6
namespace Go.Proofs.Ytgbmbehobemocaa
open Go.RowKit
set_option linter.unusedVariables false
set_option linter.unusedSimpArgs false

theorem op_0 {α : Type} {a : α} {l : List α} : (a :: l)[0]? = some a := rfl
theorem op_s {α : Type} {a o : α} {l : List α} {i : Nat} (h : l[i]? = some o) : (a :: l)[i + 1]? = some o := by simpa using h
theorem op_arr {α : Type} {o : α} {l : List α} {i : Nat} (h : l[i]? = some o) : l.toArray[i]? = some o := by simpa using h

theorem apart_bad (S W L z : Int) (hv : valB S W L = false) (u : Value) (l : List Int) (w : World) (hu : RdI w u l) (hl : l.length ≤ 9223372036854775807) :
    Calls Try.prog 10 #[.agg #[.int .i64 S, .int .i64 W, .int .i64 L], u, .int .i64 z] w fun e w' => e = .returned (.bool true) ∧ Below w.heap.size w w' := by
  obtain ⟨B, d, rfl⟩ := hu.slice
  have C19 := fun v w => made_bad S W L v w hv
  have C20 := fun w h => great_any w (.slice B l.length d) l h hl
  obtain ⟨g1, hg1⟩ : ∃ g1, g1 = greatB l := ⟨_, rfl⟩
  rw [← hg1] at C20
  have HU := Lib.hid hu
  clear hv hu hg1
  go_enter Try.func10, Try.ntmps10
  go_wp2_with (fail)
  obtain ⟨wb, hwb⟩ : ∃ wb, wb = w.alloc (.cells #[.int .i64 S, .int .i64 W, .int .i64 L] 23) := ⟨_, rfl⟩
  obtain ⟨n0, hn0⟩ : ∃ n0, n0 = w.heap.size := ⟨_, rfl⟩
  have hw0 : wb.cell? ⟨n0, 0, none⟩ = some (.int .i64 S) ∧ wb.cell? ⟨n0, 1, none⟩ = some (.int .i64 W) ∧ wb.cell? ⟨n0, 2, none⟩ = some (.int .i64 L) ∧ n0 < wb.heap.size ∧ Below n0 w wb := by
    rw [hwb, hn0]
    exact ⟨by simp, by simp, by simp, by simp, (Below.refl _ _).alloc (Nat.le_refl _) _⟩
  rw [← hwb, ← hn0]
  have HN0 := Lib.hid hn0
  clear hwb hn0
  obtain ⟨c0, c1, c2, hn, hb0⟩ := hw0
  refine (awake_any wb).mono ?_
  rintro e w1 ⟨rfl, hb⟩
  obtain ⟨c0, c1, c2, hn, hb0⟩ := step_box hb c0 c1 c2 hn hb0
  have hle : n0 ≤ w1.heap.size := by omega
  go_wp2_with (fail)
  have tok1 : True := trivial
  have D19 := C19 (.slice B l.length d)
  go_region_held3 (fun w' => w'.cell? ⟨n0, 0, none⟩ = some (.int .i64 S) ∧ w'.cell? ⟨n0, 1, none⟩ = some (.int .i64 W) ∧ w'.cell? ⟨n0, 2, none⟩ = some (.int .i64 L)) (go_keep) (first
      | (go_at_call 19; have _t := tok1; (with_reducible refine (D19 _).mono ?_); rintro e w2 ⟨rfl, hb2⟩; clear tok1 _t; have k2 := fun o => bcell hb2 n0 o hn; have hn := Nat.lt_of_lt_of_le (show n0 < _ from hn) hb2.size; have hB2 : Below n0 w w2 := hb0.drew.trans (hb2.mono hle); have hle2 : n0 ≤ w2.heap.size := Nat.le_trans hle hb2.size)
      | (go_at_call 19; (with_reducible refine (C19 _ _).mono ?_); rintro e w3 ⟨rfl, hb3⟩; have k3 := fun o => bcell hb3 n0 o hn; have hB3 : Below w.heap.size w w3 := (by rw [← HN0.out]; exact hB2.trans (hb3.mono hle2))))
  go_wp2_with (go_at_call 20; (with_reducible refine (C20 _ (HU.out.below hB3)).mono ?_); rintro e w' ⟨rfl, rfl⟩)
  all_goals
    go_ret
    exact ⟨rfl, hB3⟩

theorem flush_nil (w : World) : Calls Try.prog 22 #[.pointer none] w fun e w' => e = .returned (.tuple #[]) ∧ w = w' := by
  go_enter Try.func22, Try.ntmps22
  go_wp2
  go_end0
  exact ⟨rfl, rfl⟩

/-- Three caches that share no block. -/
def Tri (m1 : Nat) (w : World) (s W ln b1 : Nat) (x : List (List Int)) (b2 : Nat) (y : List (List Int)) (b3 : Nat) (z : List (List Int)) : Prop :=
  ∃ F G H : Nat → Prop, Ca w F b1 s W ln x ∧ Ca w G b2 s W ln y ∧ Ca w H b3 s W ln z ∧ (∀ k, F k → ¬ G k) ∧ (∀ k, F k → ¬ H k) ∧ (∀ k, G k → ¬ H k) ∧ (∀ k, F k → m1 ≤ k) ∧ (∀ k, G k → m1 ≤ k) ∧ (∀ k, H k → m1 ≤ k)
section
variable {m1 : Nat} {w : World} {s W ln b1 b2 b3 : Nat} {x y z : List (List Int)}
theorem Tri.below {w' : World} (h : Tri m1 w s W ln b1 x b2 y b3 z) (hb : Below w.heap.size w w') : Tri m1 w' s W ln b1 x b2 y b3 z := by
  obtain ⟨F, G, H, h1, h2, h3, r⟩ := h
  exact ⟨F, G, H, h1.below hb, h2.below hb, h3.below hb, r⟩
theorem Tri.access (h : Tri m1 w s W ln b1 x b2 y b3 z) (hm : m1 ≤ w.heap.size) (hv : valB s W ln = true) (a : Int) (ha2 : a ≤ 9223372036854775807) :
    Calls Try.prog 23 #[.pointer (some ⟨b2, 0, none⟩), .int .i64 a] w fun e w2 => e = .returned (.bool (hitB s ln y a)) ∧ Tri m1 w2 s W ln b1 x b2 (accF s W ln y a) b3 z ∧ Below m1 w w2 := by
  obtain ⟨F, G, H, h1, h2, h3, h4, h5, h6, h7, h8, h9⟩ := h
  refine (access_ca G w b2 s W ln y h2 hv a ha2).mono ?_
  rintro e w2 ⟨rfl, hc, hf⟩
  refine ⟨rfl, ⟨_, _, _, h1.keep hf (fun k hF hG => h4 k hF hG), hc, h3.keep hf (fun k hH hG => h6 k hG hH), fun k hk hG => ?_, fun k hk hH => h5 k hk.1 hH.1, fun k hk hH => ?_, fun k hk => h7 k hk.1, fun k hk => ?_, fun k hk => h9 k hk.1⟩, hf.below hm h8⟩
  · rcases hG with hG | hG
    · exact h4 k hk.1 hG
    · have := hk.2; omega
  · rcases hk with hk | hk
    · exact h6 k hk hH.1
    · have := hH.2; omega
  · rcases hk with hk | hk
    · exact h8 k hk
    · omega
end

/-- The accesses of one set alone give what all give there. -/
structure Ap (s : Nat) (z : Int) (x y : List (List Int)) : Prop where
  lx : x.length = s
  ly : y.length = s
  eq : ∀ i : Nat, i < s → (i : Int) = z → x.getD i [] = y.getD i []
theorem Ap.step {s W ln : Nat} {z : Int} {x y : List (List Int)} (h : Ap s z x y) (hs : 1 ≤ s) {a : Int} (ha : 0 ≤ a) :
    (a / ln % s = z → Ap s z (accF s W ln x a) (accF s W ln y a)) ∧ (a / ln % s ≠ z → Ap s z (accF s W ln x a) y) := by
  have m0 : 0 ≤ a / ln % s := Int.emod_nonneg _ (by omega)
  have m1 : a / ln % s < s := Int.emod_lt_of_pos _ (by omega)
  obtain ⟨i, hi⟩ := Int.eq_ofNat_of_zero_le m0
  have his : i < s := by omega
  simp only [accF, if_pos ha, hi, Int.toNat_natCast]
  refine ⟨fun he => ⟨by simpa using h.lx, by simpa using h.ly, fun j hj hz => ?_⟩, fun hne => ⟨by simpa using h.lx, h.ly, fun j hj hz => ?_⟩⟩
  · rw [getD_set _ _ _ _ _ (by rw [h.lx]; exact his), getD_set _ _ _ _ _ (by rw [h.ly]; exact his)]
    split
    · rename_i e
      subst e
      rw [h.eq i his hz]
    · exact h.eq j hj hz
  · rw [getD_set _ _ _ _ _ (by rw [h.lx]; exact his), if_neg (by omega)]
    exact h.eq j hj hz

set_option maxRecDepth 100000 in
set_option maxHeartbeats 4000000 in
theorem apart_good (s W ln : Nat) (z : Int) (hv : valB s W ln = true) (u : Value) (l : List Int) (w : World) (hu : RdI w u l) (hl : l.length ≤ 9223372036854775807) (hil : I64s l) :
    Calls Try.prog 10 #[.agg #[.int .i64 s, .int .i64 W, .int .i64 ln], u, .int .i64 z] w fun e w' => e = .returned (.bool true) ∧ Below w.heap.size w w' := by
  obtain ⟨A, c, rfl⟩ := hu.slice
  have C19 := fun w1 hB => made_ok s W ln (.slice A l.length c) l w w1 hv hu hB hl hil
  have C19' := fun w1 hB => made_ok s W ln (.slice none 0 0) [] w w1 hv (rd_nil w .i64) hB (by simp) i64s_nil
  have C20 := fun w h => great_any w (.slice A l.length c) l h hl
  obtain ⟨g1, hg1⟩ : ∃ g1, g1 = greatB l := ⟨_, rfl⟩
  rw [← hg1] at C20
  have HU := Lib.hid hu
  have HVB := Lib.hid hv
  have HIL := Lib.hid hil
  have HG1 := Lib.hid hg1
  obtain ⟨-, -, hs1, hs2, hW1, hW2, hL1, hL2⟩ := valB_spec hv
  clear hv hu hg1 hil
  go_enter Try.func10, Try.ntmps10
  go_wp2_with (fail)
  obtain ⟨wb, hwb⟩ : ∃ wb, wb = w.alloc (.cells #[.int .i64 s, .int .i64 W, .int .i64 ln] 23) := ⟨_, rfl⟩
  obtain ⟨n0, hn0⟩ : ∃ n0, n0 = w.heap.size := ⟨_, rfl⟩
  have hw0 : wb.cell? ⟨n0, 0, none⟩ = some (.int .i64 s) ∧ wb.cell? ⟨n0, 1, none⟩ = some (.int .i64 W) ∧ wb.cell? ⟨n0, 2, none⟩ = some (.int .i64 ln) ∧ n0 < wb.heap.size ∧ Below n0 w wb := by
    rw [hwb, hn0]
    exact ⟨by simp, by simp, by simp, by simp, (Below.refl _ _).alloc (Nat.le_refl _) _⟩
  rw [← hwb, ← hn0]
  have HN0 := Lib.hid hn0
  clear hwb hn0
  obtain ⟨c0, c1, c2, hn, hb0⟩ := hw0
  refine (awake_any wb).mono ?_
  rintro e w1 ⟨rfl, hb⟩
  obtain ⟨c0, c1, c2, hn, hb0⟩ := step_box hb c0 c1 c2 hn hb0
  have hle : n0 ≤ w1.heap.size := by omega
  go_wp2_with (fail)
  have tok1 : True := trivial
  have hB1 : Below w.heap.size w w1.drew := by rw [← HN0.out]; exact hb0.drew
  have D19 := C19 w1.drew hB1
  clear hB1
  go_region_held3 (fun w' => w'.cell? ⟨n0, 0, none⟩ = some (.int .i64 s) ∧ w'.cell? ⟨n0, 1, none⟩ = some (.int .i64 W) ∧ w'.cell? ⟨n0, 2, none⟩ = some (.int .i64 ln)) (go_keep) (first
      | (go_at_call 19; have _t := tok1; (with_reducible refine D19.mono ?_); rintro e w2 ⟨hb2, b, rfl, hc2⟩; clear tok1 _t; have k2 := fun o => bcell hb2 n0 o hn; have hn := Nat.lt_of_lt_of_le (show n0 < _ from hn) hb2.size; have hB2 : Below n0 w w2 := hb0.drew.trans (hb2.mono hle); have hle2 : n0 ≤ w2.heap.size := Nat.le_trans hle hb2.size; have hB2' : Below w.heap.size w w2 := (by rw [← HN0.out]; exact hB2); have HC2 := Lib.hid hc2; clear hc2)
      | (go_at_call 19; (with_reducible refine (C19' _ hB2').mono ?_); rintro e w3 ⟨hb3, b', rfl, hc3⟩; have k3 := fun o => bcell hb3 n0 o hn; have hB3 : Below w.heap.size w w3 := (by rw [← HN0.out]; exact hB2.trans (hb3.mono hle2)); have HC3 := Lib.hid hc3; clear hc3))
  have s1 : w1.heap.size ≤ w2.heap.size := hb2.size
  have s2 := hb3.size
  have x3 := HC2.out.keep (G := fun _ => False) (Fr.of_below hb3) (fun _ _ h => h)
  have HX3 := Lib.hid x3
  have HB3 := Lib.hid hB3
  have K0 : Hid (w3.cell? ⟨n0, 0, none⟩ = some (.int .i64 s)) := (k3 0).trans ((k2 0).trans c0)
  have K1 : Hid (w3.cell? ⟨n0, 1, none⟩ = some (.int .i64 W)) := (k3 1).trans ((k2 1).trans c1)
  have K2 : Hid (w3.cell? ⟨n0, 2, none⟩ = some (.int .i64 ln)) := (k3 2).trans ((k2 2).trans c2)
  have hn3 : n0 < w3.heap.size := Nat.lt_of_lt_of_le hn hb3.size
  have hn1 : n0 < w1.heap.size := by assumption
  have hws : w.heap.size ≤ w1.heap.size := by rw [← HN0.out]; omega
  clear x3 hB3 hb3 hb2 k2 k3 c0 c1 c2 hB2 hB2' hb0 hb C19 C19' D19 HC2
  try clear hHeld
  go_wp2_with (go_at_call 20; (with_reducible refine (C20 _ (HU.out.below HB3.out)).mono ?_); rintro e w' ⟨rfl, rfl⟩)
  · go_ret
    exact ⟨rfl, HB3.out⟩
  have g1f : g1 = false := Bool.eq_false_iff.2 (by assumption)
  obtain ⟨gl1, gl2⟩ := great_spec (HG1.out.symm.trans g1f)
  have HGL := Lib.hid gl2
  clear g1f gl2
  refine (clone_ca _ _ b s W ln _ HX3.out HVB.out).mono ?_
  rintro e w4 ⟨hb4, b'', rfl, hc4⟩
  have hx4 := HX3.out.keep (G := fun _ => False) (Fr.of_below hb4) (fun _ _ h => h)
  have hy4 := HC3.out.keep (G := fun _ => False) (Fr.of_below hb4) (fun _ _ h => h)
  obtain ⟨m1, hm1⟩ : ∃ m1, m1 = w1.heap.size := ⟨_, rfl⟩
  have HT4 : Hid (Tri m1 w4 s W ln b (runF s W ln (emptyF s) l) b' (emptyF s) b'' (runF s W ln (emptyF s) l)) :=
    ⟨_, _, _, hx4, hy4, hc4, fun k h1 h2 => by have := h1.1.2; have := h2.1; simp at *; omega, fun k h1 h2 => by have := h1.2; omega, fun k h1 h2 => by have := h1.2; omega, fun k h => by have := h.1.1; simp at *; omega, fun k h => by have := h.1; simp at *; omega, fun k h => by omega⟩
  have c0 := (bcell hb4 n0 0 hn3).trans K0.out
  have c1 := (bcell hb4 n0 1 hn3).trans K1.out
  have c2 := (bcell hb4 n0 2 hn3).trans K2.out
  have HB4 : Hid (Below w.heap.size w w4) := HB3.out.trans (hb4.mono (by omega))
  have hm4 : m1 ≤ w4.heap.size := by have := hb4.size; omega
  rw [← hm1] at hn1 hws
  clear hx4 hy4 hc4 hb4 hm1 K0 K1 K2 HX3 HC3 HB3 s1 s2 hn3 hn hle hle2
  go_wp2
  go_loopw [39] (fun i wr => ∃ k : Nat, ∃ yst, k ≤ l.length ∧ i = .int .i64 k ∧ Hid (Tri m1 wr s W ln b (runF s W ln (emptyF s) l) b' yst b'' (runF s W ln (emptyF s) l)) ∧ Hid (Ap s z (runF s W ln (emptyF s) (l.take k)) yst) ∧ Hid (Below m1 w4 wr)) (fun i _ => l.length - (intOf i).toNat)
  case atStart => exact ⟨0, emptyF s, by omega, rfl, HT4.out, ⟨by simp [runF, emptyF], by simp [emptyF], fun i _ _ => by simp [runF]⟩, Below.refl _ _⟩
  case round =>
    obtain ⟨k, yst, hk, rfl, HT, HA, HB⟩ := hrel
    have r0 := (bcell HB.out n0 0 hn1).trans c0
    have r1 := (bcell HB.out n0 1 hn1).trans c1
    have r2 := (bcell HB.out n0 2 hn1).trans c2
    have hmr : m1 ≤ wr.heap.size := Nat.le_trans hm4 HB.out.size
    have rn : n0 < wr.heap.size := by omega
    have HBW : Hid (Below w.heap.size w wr) := HB4.out.trans (HB.out.mono hws)
    by_cases hlt : k < l.length
    · obtain ⟨b1, off, rfl, hlb, hc⟩ := HU.out.at HBW.out hlt
      have e1 := runF_snoc s W ln (emptyF s) l k hlt
      obtain ⟨x, hx⟩ : ∃ x, x = l.getD k 0 := ⟨_, rfl⟩
      have hx63 := HIL.out.get hlt
      have hx100 : x ≤ 100000 := by rw [hx]; exact HGL.out _ (getD_memI _ hlt)
      rw [← hx] at hc hx63 e1
      have E1 := Lib.hid e1
      clear hx e1
      have C15 := fun w => line_any s W ln x hx63 w
      by_cases hx0 : 0 ≤ x
      · have hap := HA.out.step (ln := ln) (W := W) (by omega) hx0
        obtain ⟨d0, d1⟩ := div_le (ln := ln) hx0
        rw [lineF_ok HVB.out hx0] at C15
        have C17 := fun w => set_any s W ln (x / ln) (by omega) w
        rw [setF_ok HVB.out d0] at C17
        have q0 : 0 ≤ x / ln % s := Int.emod_nonneg _ (by omega)
        have q1 : x / ln % s < s := Int.emod_lt_of_pos _ (by omega)
        obtain ⟨q, hq⟩ : ∃ q, q = x / ln % s := ⟨_, rfl⟩
        obtain ⟨lv, hlv⟩ : ∃ lv, lv = x / ln := ⟨_, rfl⟩
        rw [← hq] at C17 q0 q1 hap
        rw [← hlv] at C15 C17 d0 d1
        have HAP := Lib.hid hap
        clear hap hq hlv
        by_cases hqz : q = z
        · have t1 : (q == z) = true := by simpa using hqz
          have HQZ := Lib.hid hqz
          clear hqz
          go_wp2
          go_region_held3 (fun w' => w'.cell? ⟨n0, 0, none⟩ = some (.int .i64 s) ∧ w'.cell? ⟨n0, 1, none⟩ = some (.int .i64 W) ∧ w'.cell? ⟨n0, 2, none⟩ = some (.int .i64 ln)) (go_keep) (first
              | (go_at_call 15; (with_reducible refine (C15 _).mono ?_); rintro e w5 ⟨rfl, hb5⟩; have k5 := fun o => bcell hb5 n0 o rn; have rn := Nat.lt_of_lt_of_le (show n0 < _ from rn) hb5.size)
              | (go_at_call 17; (with_reducible refine (C17 _).mono ?_); rintro e w6 ⟨rfl, hb6⟩; have k6 := fun o => bcell hb6 n0 o rn))
          have hB6 : Below wr.heap.size wr w6 := ((Below.refl _ _).drew.trans hb5).trans (hb6.mono hb5.size)
          have HB6 := Lib.hid hB6
          have HT6 := Lib.hid (HT.out.below hB6)
          have hm6 : m1 ≤ w6.heap.size := Nat.le_trans hmr hB6.size
          clear hB6 hb5 hb6 k5 k6 r0 r1 r2
          try clear hHeld
          have A1 := HT6.out.access hm6 HVB.out x hx63
          go_wp2_with (go_at_call 23; (with_reducible refine A1.mono ?_); rintro e w7 ⟨rfl, ht7, hb7⟩; have HT7 := Lib.hid ht7; have HB7 := Lib.hid hb7; clear ht7 hb7)
          go_roundw
          case rel =>
            refine ⟨k + 1, _, by omega, by go_num, HT7.out, ?_, (HB.out.trans (HB6.out.mono hmr)).trans HB7.out⟩
            show Ap _ _ _ _
            rw [E1.out]
            exact HAP.out.1 HQZ.out
          case measure => simp [intOf]; omega
        · have t1 : (q == z) = false := by simpa using hqz
          have HQZ := Lib.hid hqz
          clear hqz
          go_wp2
          go_region_held3 (fun w' => w'.cell? ⟨n0, 0, none⟩ = some (.int .i64 s) ∧ w'.cell? ⟨n0, 1, none⟩ = some (.int .i64 W) ∧ w'.cell? ⟨n0, 2, none⟩ = some (.int .i64 ln)) (go_keep) (first
              | (go_at_call 15; (with_reducible refine (C15 _).mono ?_); rintro e w5 ⟨rfl, hb5⟩; have k5 := fun o => bcell hb5 n0 o rn; have rn := Nat.lt_of_lt_of_le (show n0 < _ from rn) hb5.size)
              | (go_at_call 17; (with_reducible refine (C17 _).mono ?_); rintro e w6 ⟨rfl, hb6⟩; have k6 := fun o => bcell hb6 n0 o rn))
          have hB6 : Below wr.heap.size wr w6 := ((Below.refl _ _).drew.trans hb5).trans (hb6.mono hb5.size)
          have HB6 := Lib.hid hB6
          have HT6 := Lib.hid (HT.out.below hB6)
          have hm6 : m1 ≤ w6.heap.size := Nat.le_trans hmr hB6.size
          clear hB6 hb5 hb6 k5 k6 r0 r1 r2
          try clear hHeld
          go_wp2
          go_roundw
          case rel =>
            refine ⟨k + 1, _, by omega, by go_num, HT6.out, ?_, (HB.out.trans (HB6.out.mono hmr))⟩
            show Ap _ _ _ _
            rw [E1.out]
            exact HAP.out.2 HQZ.out
          case measure => simp [intOf]; omega
      · have el : lineF s W ln x = -1 := by unfold lineF; rw [if_neg (fun h => hx0 h.2)]
        rw [el] at C15
        have C17 := fun w => set_any s W ln (-1) (by omega) w
        have es : setF s W ln (-1) = -1 := by unfold setF; rw [if_neg (fun h => by omega)]
        rw [es] at C17
        clear el es
        go_wp2
        go_region_held3 (fun w' => w'.cell? ⟨n0, 0, none⟩ = some (.int .i64 s) ∧ w'.cell? ⟨n0, 1, none⟩ = some (.int .i64 W) ∧ w'.cell? ⟨n0, 2, none⟩ = some (.int .i64 ln)) (go_keep) (first
            | (go_at_call 15; (with_reducible refine (C15 _).mono ?_); rintro e w5 ⟨rfl, hb5⟩; have k5 := fun o => bcell hb5 n0 o rn; have rn := Nat.lt_of_lt_of_le (show n0 < _ from rn) hb5.size)
            | (go_at_call 17; (with_reducible refine (C17 _).mono ?_); rintro e w6 ⟨rfl, hb6⟩; have k6 := fun o => bcell hb6 n0 o rn))
        have hB6 : Below wr.heap.size wr w6 := ((Below.refl _ _).drew.trans hb5).trans (hb6.mono hb5.size)
        have HB6 := Lib.hid hB6
        have HT6 := Lib.hid (HT.out.below hB6)
        have hm6 : m1 ≤ w6.heap.size := Nat.le_trans hmr hB6.size
        clear hB6 hb5 hb6 k5 k6 r0 r1 r2
        try clear hHeld
        go_wp2
        go_roundw
        case rel =>
          refine ⟨k + 1, _, by omega, by go_num, HT6.out, ?_, (HB.out.trans (HB6.out.mono hmr))⟩
          show Ap _ _ _ _
          rw [E1.out, accF, if_neg (by omega)]
          exact HA.out
        case measure => simp [intOf]; omega
    · have hkl : k = l.length := by omega
      subst hkl
      have hap := HA.out
      rw [List.take_length] at hap
      obtain ⟨xst, hxst⟩ : ∃ xst, xst = runF s W ln (emptyF s) l := ⟨_, rfl⟩
      rw [← hxst] at hap HT
      have HAP := Lib.hid hap
      clear hap HA hxst C20
      obtain ⟨F, G, H, hF, hG, hH, dFG, dFH, dGH, lF, lG, lH⟩ := HT.out
      have HF := Lib.hid hF
      have HG := Lib.hid hG
      have HH := Lib.hid hH
      have DFH := Lib.hid dFH
      have LF := Lib.hid lF
      clear hF hG hH dFG dFH dGH lF lG lH HT
      have L1 := lines_ca F wr b s W ln xst HF.out HVB.out
      have L2 := fun w5 hb => lines_ca G w5 b' s W ln yst (HG.out.below hb) HVB.out
      have L3 := fun w6 hb => lines_ca H w6 b'' s W ln xst (HH.out.below hb) HVB.out
      go_wp2_with (first
        | (go_at_call 24; (with_reducible refine L1.mono ?_); rintro e w5 ⟨hb5, gp, ps, rfl, hmp⟩; have HB5 := Lib.hid hb5; have HP5 := Lib.hid hmp; clear hb5 hmp)
        | (go_at_call 24; (with_reducible refine (L2 _ HB5.out).mono ?_); rintro e w6 ⟨hb6, gq, qs, rfl, hmq⟩; have HB6 := Lib.hid (HB5.out.trans (hb6.mono HB5.out.size)); have HP6 := Lib.hid (HP5.out.below hb6); have HQ6 := Lib.hid hmq; have z6 := hb6.size; clear hb6 hmq)
        | (go_at_call 24; (with_reducible refine (L3 _ HB6.out).mono ?_); rintro e w7 ⟨hb7, gw, us, rfl, hmw⟩; have HB7 := Lib.hid (HB6.out.trans (hb7.mono HB6.out.size)); have HP7 := Lib.hid (HP6.out.below hb7); have HQ7 := Lib.hid (HQ6.out.below hb7); have HW7 := Lib.hid hmw; have z7 := hb7.size; clear hb7 hmw))
      have z5 := HB5.out.size
      have k0 := (bcell HB7.out n0 0 rn).trans r0
      have k1 := (bcell HB7.out n0 1 rn).trans r1
      have k2 := (bcell HB7.out n0 2 rn).trans r2
      have rn7 : n0 < w7.heap.size := by omega
      by_cases hz0 : 0 ≤ z
      · by_cases hzs : z < s
        · obtain ⟨zn, rfl⟩ := Int.eq_ofNat_of_zero_le hz0
          have hzn : zn < s := by omega
          obtain ⟨A1, d1, g1', hr1⟩ := HP7.out.at hzn
          obtain ⟨A2, d2, g2', hr2⟩ := HQ7.out.at hzn
          have heq := HAP.out.eq zn hzn rfl
          rw [← heq] at g2' hr2
          have HLEN : Hid ((xst.getD zn []).length ≤ W) := by
            obtain ⟨_, _, _, hw⟩ := HF.out
            exact hw _ (getD_mem (by rw [HAP.out.lx]; exact hzn))
          obtain ⟨xs, hxs⟩ : ∃ xs, xs = xst.getD zn [] := ⟨_, rfl⟩
          rw [← hxs] at g1' g2' hr1 hr2 HLEN
          have HR1 := Lib.hid hr1
          have HR2 := Lib.hid hr2
          have hxl := HLEN.out
          have hgpl := lt_of_heap HP7.out.arr
          have hgql := lt_of_heap HQ7.out.arr
          have I1 := ints_any w7.drew (.slice A1 xs.length d1) (.slice A2 xs.length d2) xs xs (HR1.out.below (Below.refl _ _).drew) (HR2.out.below (Below.refl _ _).drew) (by omega)
          clear heq hxs hr1 hr2
          go_region_held3 (fun w' => w'.cell? ⟨n0, 0, none⟩ = some (.int .i64 s) ∧ w'.cell? ⟨n0, 1, none⟩ = some (.int .i64 W) ∧ w'.cell? ⟨n0, 2, none⟩ = some (.int .i64 ln) ∧ w'.cell? ⟨gp, zn, none⟩ = some (.slice A1 xs.length d1) ∧ w'.cell? ⟨gq, zn, none⟩ = some (.slice A2 xs.length d2)) (go_keep)
            (first
              | (go_at_call 29; (with_reducible refine I1.mono ?_); rintro e w8 ⟨rfl, hb8⟩; have q0 := fun o => bcell hb8 n0 o rn7; have q1 := fun o => bcell hb8 gp o hgpl; have q2 := fun o => bcell hb8 gq o hgql))
          have HB8' : Hid (Below w7.heap.size w7 w8) := (Below.refl _ _).drew.trans hb8
          have HB8 : Hid (Below wr.heap.size wr w8) := HB7.out.trans (HB8'.out.mono HB7.out.size)
          clear q0 q1 q2 hb8 g1' g2' k0 k1 k2 I1
          try clear hHeld
          go_wp2_with (fail)
          have hx8 := HF.out.keep (G := fun _ => False) (Fr.of_below HB8.out) (fun _ _ h => h)
          have hz8 := HH.out.keep (G := fun _ => False) (Fr.of_below HB8.out) (fun _ _ h => h)
          have hp8 := HP7.out.below HB8'.out
          have hw8 := HW7.out.below HB8'.out
          have z8 := HB8'.out.size
          have HX8 := Lib.hid hx8
          have HZ8 := Lib.hid hz8
          have HP8 := Lib.hid hp8
          have HW8 := Lib.hid hw8
          clear hx8 hz8 hp8 hw8
          have FL := flush_ca _ w8 b s W ln xst HX8.out HVB.out
          refine FL.mono ?_
          rintro e w9 ⟨rfl, hf9, hx9⟩
          have hz9 := HZ8.out.keep hf9 (fun k h1 h2 => DFH.out k h2.1 h1.1)
          have hp9 := HP8.out.keep hf9 (fun k h1 h2 => by have := h2.2; omega)
          have hw9 := HW8.out.keep hf9 (fun k h1 h2 => by have := h2.2; omega)
          have z9 := hf9.size
          have HB9 : Hid (Below m1 wr w9) := (HB8.out.mono hmr).trans (hf9.below (by omega) (fun k hk => LF.out k hk.1))
          have HX9 := Lib.hid hx9
          have HZ9 := Lib.hid hz9
          have HP9 := Lib.hid hp9
          have HW9 := Lib.hid hw9
          clear hf9 hx9 hz9 hp9 hw9 FL
          have AC := access_ca _ w9 b s W ln _ HX9.out HVB.out 7 (by omega)
          go_wp2_with (go_at_call 23; (with_reducible refine AC.mono ?_); rintro e w10 ⟨rfl, -, hf10⟩; have HF10 := Lib.hid hf10; clear hf10)
          have hf10 := HF10.out
          have hz10 := HZ9.out.keep hf10 (fun k h1 h2 => by
            rcases h2 with h2 | h2
            · exact DFH.out k h2.1 h1.1.1
            · have := h1.2; omega)
          have hp10 := HP9.out.keep hf10 (fun k h1 h2 => by
            rcases h2 with h2 | h2
            · have := h2.2; have := h1.1; omega
            · have := h1.2; omega)
          have hw10 := HW9.out.keep hf10 (fun k h1 h2 => by
            rcases h2 with h2 | h2
            · have := h2.2; have := h1.1; omega
            · have := h1.2; omega)
          have HB10 : Hid (Below m1 wr w10) := HB9.out.trans (hf10.below (by omega) (fun k hk => by
            rcases hk with hk | hk
            · exact LF.out k hk.1
            · omega))
          have HZ10 := Lib.hid hz10
          have HP10 := Lib.hid hp10
          have HW10 := Lib.hid hw10
          have HBW10 : Hid (Below w.heap.size w w10) := HBW.out.trans (HB10.out.mono hws)
          clear hf10 hz10 hp10 hw10 AC
          obtain ⟨wz, rfl⟩ : ∃ wz : World, wz = w10 := ⟨_, rfl⟩
          have HLW : Hid (∀ i, i < s → (xst.getD i []).length ≤ W) := fun i hi => by
            obtain ⟨_, _, _, hw⟩ := HF.out
            exact hw _ (getD_mem (by rw [HAP.out.lx]; exact hi))
          go_loopw [91] (fun i w12 => ∃ i' : Nat, i' ≤ s ∧ i = .int .i64 i' ∧ Hid (Below wz.heap.size wz w12)) (fun i _ => s - (intOf i).toNat)
          case atStart => exact ⟨0, by omega, rfl, Below.refl _ _⟩
          case round =>
            obtain ⟨i, hi, rfl, HBr⟩ := hrel
            by_cases his : i < s
            · obtain ⟨A1, d1, e1, hr1⟩ := HW10.out.at his
              obtain ⟨A2, d2, e2, hr2⟩ := HP10.out.at his
              have hxl := HLW.out i his
              have hgwl := lt_of_heap HW10.out.arr
              have hgpl := lt_of_heap HP10.out.arr
              have g1' := (bcell HBr.out gw i hgwl).trans e1
              have g2' := (bcell HBr.out gp i hgpl).trans e2
              have L3 := fun w h => lines_ca _ w b'' s W ln xst (HZ10.out.below h) HVB.out
              obtain ⟨xs, hxs⟩ : ∃ xs, xs = xst.getD i [] := ⟨_, rfl⟩
              rw [← hxs] at g1' g2' hr1 hr2 hxl
              have HXS := Lib.hid hxs
              have HR1 := Lib.hid hr1
              have HR2 := Lib.hid hr2
              have hgw' : gw < wr.heap.size := Nat.lt_of_lt_of_le hgwl HBr.out.size
              have hgp' : gp < wr.heap.size := Nat.lt_of_lt_of_le hgpl HBr.out.size
              have I1 := ints_any wr.drew (.slice A1 xs.length d1) (.slice A2 xs.length d2) xs xs (HR1.out.below (HBr.out.trans ((Below.refl _ _).drew))) (HR2.out.below (HBr.out.trans ((Below.refl _ _).drew))) (by omega)
              clear e1 e2 hr1 hr2 hxs
              have tok1 : True := trivial
              have i0 : (0 : Int) ≤ i := by omega
              have i1 : (i : Int) < s := by omega
              go_wp2
              refine wp_region_noPanic ?_
              refine wp_region_held_drew (S := fun w' => w'.cell? ⟨gw, i, none⟩ = some (.slice A1 xs.length d1) ∧ w'.cell? ⟨gp, i, none⟩ = some (.slice A2 xs.length d2)) (by kernel_rfl) (by (try dsimp only); go_keep) (fun hHeld => ?_)
              refine wpAnyH_take (i := 0) (v := ?_) (op_arr op_0) (by kernel_rfl) (by kernel_rfl) (by kernel_rfl) (fun _ _ _ h => h) (Or.inl ⟨by rfl, ?_⟩) (by assumption) ?_
              rotate_left 1
              · (intro w hSw; (try dsimp only at hSw); go_simp; try with_reducible rfl)
              try simp only [Act.put, List.setIfInBounds_toArray, List.set_cons_zero, List.set_cons_succ]
              refine wpAnyH_take (i := 1) (v := ?_) (op_arr (op_s op_0)) (by kernel_rfl) (by kernel_rfl) (by kernel_rfl) (fun _ _ _ h => h) (Or.inl ⟨by rfl, ?_⟩) (by assumption) ?_
              rotate_left 1
              · (intro w hSw; (try dsimp only at hSw); go_simp; try with_reducible rfl)
              try simp only [Act.put, List.setIfInBounds_toArray, List.set_cons_zero, List.set_cons_succ]
              refine wpAnyH_take (i := 2) (v := ?_) (op_arr (op_s (op_s op_0))) (by kernel_rfl) (by kernel_rfl) (by kernel_rfl) (fun _ _ _ h => h) (Or.inl ⟨by rfl, ?_⟩) (by assumption) ?_
              rotate_left 1
              · (intro w hSw; (try dsimp only at hSw); go_simp; try with_reducible rfl)
              try simp only [Act.put, List.setIfInBounds_toArray, List.set_cons_zero, List.set_cons_succ]
              refine wpAnyH_take (i := 3) (v := ?_) (op_arr (op_s (op_s (op_s op_0)))) (by kernel_rfl) (by kernel_rfl) (by kernel_rfl) (fun _ _ _ h => h) (Or.inl ⟨by rfl, ?_⟩) (by assumption) ?_
              rotate_left 1
              · (intro w hSw; (try dsimp only at hSw); go_simp; try with_reducible rfl)
              try simp only [Act.put, List.setIfInBounds_toArray, List.set_cons_zero, List.set_cons_succ]
              refine wpAnyH_take (i := 4) (v := ?_) (op_arr (op_s (op_s (op_s (op_s op_0))))) (by kernel_rfl) (by kernel_rfl) (by kernel_rfl) (fun _ _ _ h => h) (Or.inl ⟨by rfl, ?_⟩) (by assumption) ?_
              rotate_left 1
              · (intro w hSw; (try dsimp only at hSw); go_simp; try with_reducible rfl)
              try simp only [Act.put, List.setIfInBounds_toArray, List.set_cons_zero, List.set_cons_succ]
              refine wpAnyH_take (i := 5) (v := ?_) (op_arr (op_s (op_s (op_s (op_s (op_s op_0)))))) (by kernel_rfl) (by kernel_rfl) (by kernel_rfl) (fun _ _ _ h => h) (Or.inl ⟨by rfl, ?_⟩) (by assumption) ?_
              rotate_left 1
              · (intro w hSw; (try dsimp only at hSw); go_simp; try with_reducible rfl)
              try simp only [Act.put, List.setIfInBounds_toArray, List.set_cons_zero, List.set_cons_succ]
              refine wpAnyH_take (i := 6) (v := ?_) (op_arr (op_s (op_s (op_s (op_s (op_s (op_s op_0))))))) (by kernel_rfl) (by kernel_rfl) (by kernel_rfl) (fun _ _ _ h => h) (Or.inl ⟨by rfl, ?_⟩) (by assumption) ?_
              rotate_left 1
              · (intro w hSw; (try dsimp only at hSw); go_simp; try with_reducible rfl)
              try simp only [Act.put, List.setIfInBounds_toArray, List.set_cons_zero, List.set_cons_succ]
              refine wpAnyH_take (i := 7) (v := ?_) (op_arr (op_s (op_s (op_s (op_s (op_s (op_s (op_s op_0)))))))) (by kernel_rfl) (by kernel_rfl) (by kernel_rfl) (fun _ _ _ h => h) (Or.inl ⟨by rfl, ?_⟩) (by assumption) ?_
              rotate_left 1
              · (intro w hSw; (try dsimp only at hSw); go_simp; try with_reducible rfl)
              try simp only [Act.put, List.setIfInBounds_toArray, List.set_cons_zero, List.set_cons_succ]
              refine wpAnyH_ready (rs := [8]) (by kernel_rfl) (by simp) ?_
              refine AllReadyH.cons (op_arr (op_s (op_s (op_s (op_s (op_s (op_s (op_s (op_s op_0))))))))) (fun K hK => ?_) AllReadyH.nil
              go_simp
              go_at_call 29
              have _t := tok1
              (with_reducible refine I1.mono ?_)
              rintro e w13 ⟨rfl, hb13⟩
              clear tok1 _t
              have q0 := bcell hb13 gw i hgw'
              have q1 := bcell hb13 gp i hgp'
              have HB13 := Lib.hid (HBr.out.trans (((Below.refl _ _).drew.trans hb13).mono HBr.out.size))
              have y13 := hb13.size
              clear hb13
              refine hK.out _ _ (by (try dsimp only); go_keep) (fun hHeld => ?_)
              clear hK K
              try simp only [Act.put, List.setIfInBounds_toArray, List.set_cons_zero, List.set_cons_succ]
              refine wpAnyH_take (i := 9) (v := ?_) (op_arr (op_s (op_s (op_s (op_s (op_s (op_s (op_s (op_s (op_s op_0)))))))))) (by kernel_rfl) (by kernel_rfl) (by kernel_rfl) (fun _ _ _ h => h) (Or.inl ⟨by rfl, ?_⟩) (by assumption) ?_
              rotate_left 1
              · (intro w hSw; (try dsimp only at hSw); go_simp; try with_reducible rfl)
              try simp only [Act.put, List.setIfInBounds_toArray, List.set_cons_zero, List.set_cons_succ]
              refine wpAnyH_take (i := 10) (v := ?_) (op_arr (op_s (op_s (op_s (op_s (op_s (op_s (op_s (op_s (op_s (op_s op_0))))))))))) (by kernel_rfl) (by kernel_rfl) (by kernel_rfl) (fun _ _ _ h => h) (Or.inl ⟨by rfl, ?_⟩) (by assumption) ?_
              rotate_left 1
              · (intro w hSw; (try dsimp only at hSw); go_simp; try with_reducible rfl)
              try simp only [Act.put, List.setIfInBounds_toArray, List.set_cons_zero, List.set_cons_succ]
              refine wpAnyH_take (i := 11) (v := ?_) (op_arr (op_s (op_s (op_s (op_s (op_s (op_s (op_s (op_s (op_s (op_s (op_s op_0)))))))))))) (by kernel_rfl) (by kernel_rfl) (by kernel_rfl) (fun _ _ _ h => h) (Or.inl ⟨by rfl, ?_⟩) (by assumption) ?_
              rotate_left 1
              · (intro w hSw; (try dsimp only at hSw); go_simp; try with_reducible rfl)
              try simp only [Act.put, List.setIfInBounds_toArray, List.set_cons_zero, List.set_cons_succ]
              refine wpAnyH_take (i := 13) (v := ?_) (op_arr (op_s (op_s (op_s (op_s (op_s (op_s (op_s (op_s (op_s (op_s (op_s (op_s (op_s op_0)))))))))))))) (by kernel_rfl) (by kernel_rfl) (by kernel_rfl) (fun _ _ _ h => h) (Or.inl ⟨by rfl, ?_⟩) (by assumption) ?_
              rotate_left 1
              · (intro w hSw; (try dsimp only at hSw); go_simp; try with_reducible rfl)
              try simp only [Act.put, List.setIfInBounds_toArray, List.set_cons_zero, List.set_cons_succ]
              refine wpAnyH_take (i := 16) (v := ?_) (op_arr (op_s (op_s (op_s (op_s (op_s (op_s (op_s (op_s (op_s (op_s (op_s (op_s (op_s (op_s (op_s (op_s op_0))))))))))))))))) (by kernel_rfl) (by kernel_rfl) (by kernel_rfl) (fun _ _ _ h => h) (Or.inl ⟨by rfl, ?_⟩) (by assumption) ?_
              rotate_left 1
              · (intro w hSw; (try dsimp only at hSw); go_simp; try with_reducible rfl)
              try simp only [Act.put, List.setIfInBounds_toArray, List.set_cons_zero, List.set_cons_succ]
              refine wpAnyH_take (i := 17) (v := ?_) (op_arr (op_s (op_s (op_s (op_s (op_s (op_s (op_s (op_s (op_s (op_s (op_s (op_s (op_s (op_s (op_s (op_s (op_s op_0)))))))))))))))))) (by kernel_rfl) (by kernel_rfl) (by kernel_rfl) (fun _ _ _ h => h) (Or.inl ⟨by rfl, ?_⟩) (by assumption) ?_
              rotate_left 1
              · (intro w hSw; (try dsimp only at hSw); go_simp; try with_reducible rfl)
              try simp only [Act.put, List.setIfInBounds_toArray, List.set_cons_zero, List.set_cons_succ]
              refine wpAnyH_take (i := 18) (v := ?_) (op_arr (op_s (op_s (op_s (op_s (op_s (op_s (op_s (op_s (op_s (op_s (op_s (op_s (op_s (op_s (op_s (op_s (op_s (op_s op_0))))))))))))))))))) (by kernel_rfl) (by kernel_rfl) (by kernel_rfl) (fun _ _ _ h => h) (Or.inl ⟨by rfl, ?_⟩) (by assumption) ?_
              rotate_left 1
              · (intro w hSw; (try dsimp only at hSw); go_simp; try with_reducible rfl)
              try simp only [Act.put, List.setIfInBounds_toArray, List.set_cons_zero, List.set_cons_succ]
              refine wpAnyH_take (i := 19) (v := ?_) (op_arr (op_s (op_s (op_s (op_s (op_s (op_s (op_s (op_s (op_s (op_s (op_s (op_s (op_s (op_s (op_s (op_s (op_s (op_s (op_s op_0)))))))))))))))))))) (by kernel_rfl) (by kernel_rfl) (by kernel_rfl) (fun _ _ _ h => h) (Or.inl ⟨by rfl, ?_⟩) (by assumption) ?_
              rotate_left 1
              · (intro w hSw; (try dsimp only at hSw); go_simp; try with_reducible rfl)
              try simp only [Act.put, List.setIfInBounds_toArray, List.set_cons_zero, List.set_cons_succ]
              refine wpAnyH_ready (rs := [12]) (by kernel_rfl) (by simp) ?_
              refine AllReadyH.cons (op_arr (op_s (op_s (op_s (op_s (op_s (op_s (op_s (op_s (op_s (op_s (op_s (op_s op_0))))))))))))) (fun K hK => ?_) AllReadyH.nil
              go_simp
              go_at_call 24
              (with_reducible refine (L3 _ HB13.out).mono ?_)
              rintro e w14 ⟨hb14, g3, us3, rfl, hm3⟩
              have q0 : w14.cell? ⟨gw, i, none⟩ = w13.cell? ⟨gw, i, none⟩ := bcell hb14 gw i (Nat.lt_of_lt_of_le hgw' y13)
              have q1 : w14.cell? ⟨gp, i, none⟩ = w13.cell? ⟨gp, i, none⟩ := bcell hb14 gp i (Nat.lt_of_lt_of_le hgp' y13)
              have HB14 := Lib.hid (HB13.out.trans (hb14.mono HB13.out.size))
              have hm3' := hm3.at his
              rw [← HXS.out] at hm3'
              obtain ⟨A3, d3, g3', hr3⟩ := hm3'
              have HR3 := Lib.hid hr3
              have y14 : w13.heap.size ≤ w14.heap.size := hb14.size
              clear hm3 hr3 hb14
              refine hK.out _ _ (by (try dsimp only); go_keep) (fun hHeld => ?_)
              clear hK K
              try simp only [Act.put, List.setIfInBounds_toArray, List.set_cons_zero, List.set_cons_succ]
              refine wpAnyH_take (i := 14) (v := ?_) (op_arr (op_s (op_s (op_s (op_s (op_s (op_s (op_s (op_s (op_s (op_s (op_s (op_s (op_s (op_s op_0))))))))))))))) (by kernel_rfl) (by kernel_rfl) (by kernel_rfl) (fun _ _ _ h => h) (Or.inl ⟨by rfl, ?_⟩) (by assumption) ?_
              rotate_left 1
              · (intro w hSw; (try dsimp only at hSw); go_simp; try with_reducible rfl)
              try simp only [Act.put, List.setIfInBounds_toArray, List.set_cons_zero, List.set_cons_succ]
              refine wpAnyH_ready (rs := [15]) (by kernel_rfl) (by simp) ?_
              refine AllReadyH.cons (op_arr (op_s (op_s (op_s (op_s (op_s (op_s (op_s (op_s (op_s (op_s (op_s (op_s (op_s (op_s (op_s op_0)))))))))))))))) (fun K hK => ?_) AllReadyH.nil
              go_simp
              refine hK.out _ _ (by (try dsimp only); go_keep) (fun hHeld => ?_)
              clear hK K
              try simp only [Act.put, List.setIfInBounds_toArray, List.set_cons_zero, List.set_cons_succ]
              refine wpAnyH_ready (rs := [20]) (by kernel_rfl) (by simp) ?_
              refine AllReadyH.cons (op_arr (op_s (op_s (op_s (op_s (op_s (op_s (op_s (op_s (op_s (op_s (op_s (op_s (op_s (op_s (op_s (op_s (op_s (op_s (op_s (op_s op_0))))))))))))))))))))) (fun K hK => ?_) AllReadyH.nil
              go_simp
              go_at_call 29
              (with_reducible refine (ints_any _ (.slice A3 xs.length d3) (.slice A2 xs.length d2) xs xs HR3.out (HR2.out.below HB14.out) (by omega)).mono ?_)
              rintro e w15 ⟨rfl, hb15⟩
              have q0 : w15.cell? ⟨gw, i, none⟩ = w14.cell? ⟨gw, i, none⟩ := bcell hb15 gw i (Nat.lt_of_lt_of_le hgw' (Nat.le_trans y13 y14))
              have q1 : w15.cell? ⟨gp, i, none⟩ = w14.cell? ⟨gp, i, none⟩ := bcell hb15 gp i (Nat.lt_of_lt_of_le hgp' (Nat.le_trans y13 y14))
              have HB15 := Lib.hid (HB14.out.trans (hb15.mono HB14.out.size))
              clear hb15
              refine hK.out _ _ (by (try dsimp only); go_keep) (fun hHeld => ?_)
              clear hK K
              try simp only [Act.put, List.setIfInBounds_toArray, List.set_cons_zero, List.set_cons_succ]
              refine wpAnyH_take (i := 21) (v := ?_) (op_arr (op_s (op_s (op_s (op_s (op_s (op_s (op_s (op_s (op_s (op_s (op_s (op_s (op_s (op_s (op_s (op_s (op_s (op_s (op_s (op_s (op_s op_0)))))))))))))))))))))) (by kernel_rfl) (by kernel_rfl) (by kernel_rfl) (fun _ _ _ h => h) (Or.inl ⟨by rfl, ?_⟩) (by assumption) ?_
              rotate_left 1
              · (intro w hSw; (try dsimp only at hSw); go_simp; try with_reducible rfl)
              try simp only [Act.put, List.setIfInBounds_toArray, List.set_cons_zero, List.set_cons_succ]
              refine wpAnyH_take (i := 22) (v := ?_) (op_arr (op_s (op_s (op_s (op_s (op_s (op_s (op_s (op_s (op_s (op_s (op_s (op_s (op_s (op_s (op_s (op_s (op_s (op_s (op_s (op_s (op_s (op_s op_0))))))))))))))))))))))) (by kernel_rfl) (by kernel_rfl) (by kernel_rfl) (fun _ _ _ h => h) (Or.inl ⟨by rfl, ?_⟩) (by assumption) ?_
              rotate_left 1
              · (intro w hSw; (try dsimp only at hSw); go_simp; try with_reducible rfl)
              try simp only [Act.put, List.setIfInBounds_toArray, List.set_cons_zero, List.set_cons_succ]
              refine wpAnyH_done (by kernel_rfl) ?_ _
              refine NoPanic.normal ?_
              all_goals
                go_wp2
                go_roundw
                case rel => exact ⟨i + 1, by omega, by go_num, HB15.out⟩
                case measure => simp [intOf]; omega
            · go_wp2_with (first
                | (go_at_call 22; (with_reducible refine (flush_nil _).mono ?_); rintro e w13 ⟨rfl, rfl⟩)
                | (go_at_call 23; (with_reducible refine (access_nil _ _).mono ?_); rintro e w13 ⟨rfl, rfl⟩)
                | (go_at_call 26; (with_reducible refine (probe_nil _ _).mono ?_); rintro e w13 ⟨rfl, rfl⟩)
                | (go_at_call 25; (with_reducible refine (age_nil _ _).mono ?_); rintro e w13 ⟨rfl, rfl⟩)
                | (go_at_call 24; (with_reducible refine (lines_nil _).mono ?_); rintro e w13 ⟨rfl, rfl⟩)
                | (go_at_call 27; (with_reducible refine (clone_nil _).mono ?_); rintro e w13 ⟨rfl, rfl⟩))
              go_ret
              exact ⟨rfl, HBW10.out.trans (HBr.out.mono HBW10.out.size)⟩
        · have hdz : decide (z < (s : Int)) = false := decide_eq_false hzs
          go_quiet (fail)
          obtain ⟨w8, hw8⟩ : ∃ w8, w8 = w7.drewN nq := ⟨_, rfl⟩
          rw [← hw8]
          have HB8' : Hid (Below w7.heap.size w7 w8) := by rw [hw8]; exact Below.drewN_ _ _
          have HB8 : Hid (Below wr.heap.size wr w8) := HB7.out.trans (HB8'.out.mono HB7.out.size)
          clear hw8 k0 k1 k2
          try clear hHeld
          go_wp2_with (fail)
          have hx8 := HF.out.keep (G := fun _ => False) (Fr.of_below HB8.out) (fun _ _ h => h)
          have hz8 := HH.out.keep (G := fun _ => False) (Fr.of_below HB8.out) (fun _ _ h => h)
          have hp8 := HP7.out.below HB8'.out
          have hw8 := HW7.out.below HB8'.out
          have z8 := HB8'.out.size
          have HX8 := Lib.hid hx8
          have HZ8 := Lib.hid hz8
          have HP8 := Lib.hid hp8
          have HW8 := Lib.hid hw8
          clear hx8 hz8 hp8 hw8
          have FL := flush_ca _ w8 b s W ln xst HX8.out HVB.out
          refine FL.mono ?_
          rintro e w9 ⟨rfl, hf9, hx9⟩
          have hz9 := HZ8.out.keep hf9 (fun k h1 h2 => DFH.out k h2.1 h1.1)
          have hp9 := HP8.out.keep hf9 (fun k h1 h2 => by have := h2.2; omega)
          have hw9 := HW8.out.keep hf9 (fun k h1 h2 => by have := h2.2; omega)
          have z9 := hf9.size
          have HB9 : Hid (Below m1 wr w9) := (HB8.out.mono hmr).trans (hf9.below (by omega) (fun k hk => LF.out k hk.1))
          have HX9 := Lib.hid hx9
          have HZ9 := Lib.hid hz9
          have HP9 := Lib.hid hp9
          have HW9 := Lib.hid hw9
          clear hf9 hx9 hz9 hp9 hw9 FL
          have AC := access_ca _ w9 b s W ln _ HX9.out HVB.out 7 (by omega)
          go_wp2_with (go_at_call 23; (with_reducible refine AC.mono ?_); rintro e w10 ⟨rfl, -, hf10⟩; have HF10 := Lib.hid hf10; clear hf10)
          have hf10 := HF10.out
          have hz10 := HZ9.out.keep hf10 (fun k h1 h2 => by
            rcases h2 with h2 | h2
            · exact DFH.out k h2.1 h1.1.1
            · have := h1.2; omega)
          have hp10 := HP9.out.keep hf10 (fun k h1 h2 => by
            rcases h2 with h2 | h2
            · have := h2.2; have := h1.1; omega
            · have := h1.2; omega)
          have hw10 := HW9.out.keep hf10 (fun k h1 h2 => by
            rcases h2 with h2 | h2
            · have := h2.2; have := h1.1; omega
            · have := h1.2; omega)
          have HB10 : Hid (Below m1 wr w10) := HB9.out.trans (hf10.below (by omega) (fun k hk => by
            rcases hk with hk | hk
            · exact LF.out k hk.1
            · omega))
          have HZ10 := Lib.hid hz10
          have HP10 := Lib.hid hp10
          have HW10 := Lib.hid hw10
          have HBW10 : Hid (Below w.heap.size w w10) := HBW.out.trans (HB10.out.mono hws)
          clear hf10 hz10 hp10 hw10 AC
          obtain ⟨wz, rfl⟩ : ∃ wz : World, wz = w10 := ⟨_, rfl⟩
          have HLW : Hid (∀ i, i < s → (xst.getD i []).length ≤ W) := fun i hi => by
            obtain ⟨_, _, _, hw⟩ := HF.out
            exact hw _ (getD_mem (by rw [HAP.out.lx]; exact hi))
          go_loopw [91] (fun i w12 => ∃ i' : Nat, i' ≤ s ∧ i = .int .i64 i' ∧ Hid (Below wz.heap.size wz w12)) (fun i _ => s - (intOf i).toNat)
          case atStart => exact ⟨0, by omega, rfl, Below.refl _ _⟩
          case round =>
            obtain ⟨i, hi, rfl, HBr⟩ := hrel
            by_cases his : i < s
            · obtain ⟨A1, d1, e1, hr1⟩ := HW10.out.at his
              obtain ⟨A2, d2, e2, hr2⟩ := HP10.out.at his
              have hxl := HLW.out i his
              have hgwl := lt_of_heap HW10.out.arr
              have hgpl := lt_of_heap HP10.out.arr
              have g1' := (bcell HBr.out gw i hgwl).trans e1
              have g2' := (bcell HBr.out gp i hgpl).trans e2
              have L3 := fun w h => lines_ca _ w b'' s W ln xst (HZ10.out.below h) HVB.out
              obtain ⟨xs, hxs⟩ : ∃ xs, xs = xst.getD i [] := ⟨_, rfl⟩
              rw [← hxs] at g1' g2' hr1 hr2 hxl
              have HXS := Lib.hid hxs
              have HR1 := Lib.hid hr1
              have HR2 := Lib.hid hr2
              have hgw' : gw < wr.heap.size := Nat.lt_of_lt_of_le hgwl HBr.out.size
              have hgp' : gp < wr.heap.size := Nat.lt_of_lt_of_le hgpl HBr.out.size
              have I1 := ints_any wr.drew (.slice A1 xs.length d1) (.slice A2 xs.length d2) xs xs (HR1.out.below (HBr.out.trans ((Below.refl _ _).drew))) (HR2.out.below (HBr.out.trans ((Below.refl _ _).drew))) (by omega)
              clear e1 e2 hr1 hr2 hxs
              have tok1 : True := trivial
              have i0 : (0 : Int) ≤ i := by omega
              have i1 : (i : Int) < s := by omega
              go_wp2
              refine wp_region_noPanic ?_
              refine wp_region_held_drew (S := fun w' => w'.cell? ⟨gw, i, none⟩ = some (.slice A1 xs.length d1) ∧ w'.cell? ⟨gp, i, none⟩ = some (.slice A2 xs.length d2)) (by kernel_rfl) (by (try dsimp only); go_keep) (fun hHeld => ?_)
              refine wpAnyH_take (i := 0) (v := ?_) (op_arr op_0) (by kernel_rfl) (by kernel_rfl) (by kernel_rfl) (fun _ _ _ h => h) (Or.inl ⟨by rfl, ?_⟩) (by assumption) ?_
              rotate_left 1
              · (intro w hSw; (try dsimp only at hSw); go_simp; try with_reducible rfl)
              try simp only [Act.put, List.setIfInBounds_toArray, List.set_cons_zero, List.set_cons_succ]
              refine wpAnyH_take (i := 1) (v := ?_) (op_arr (op_s op_0)) (by kernel_rfl) (by kernel_rfl) (by kernel_rfl) (fun _ _ _ h => h) (Or.inl ⟨by rfl, ?_⟩) (by assumption) ?_
              rotate_left 1
              · (intro w hSw; (try dsimp only at hSw); go_simp; try with_reducible rfl)
              try simp only [Act.put, List.setIfInBounds_toArray, List.set_cons_zero, List.set_cons_succ]
              refine wpAnyH_take (i := 2) (v := ?_) (op_arr (op_s (op_s op_0))) (by kernel_rfl) (by kernel_rfl) (by kernel_rfl) (fun _ _ _ h => h) (Or.inl ⟨by rfl, ?_⟩) (by assumption) ?_
              rotate_left 1
              · (intro w hSw; (try dsimp only at hSw); go_simp; try with_reducible rfl)
              try simp only [Act.put, List.setIfInBounds_toArray, List.set_cons_zero, List.set_cons_succ]
              refine wpAnyH_take (i := 3) (v := ?_) (op_arr (op_s (op_s (op_s op_0)))) (by kernel_rfl) (by kernel_rfl) (by kernel_rfl) (fun _ _ _ h => h) (Or.inl ⟨by rfl, ?_⟩) (by assumption) ?_
              rotate_left 1
              · (intro w hSw; (try dsimp only at hSw); go_simp; try with_reducible rfl)
              try simp only [Act.put, List.setIfInBounds_toArray, List.set_cons_zero, List.set_cons_succ]
              refine wpAnyH_take (i := 4) (v := ?_) (op_arr (op_s (op_s (op_s (op_s op_0))))) (by kernel_rfl) (by kernel_rfl) (by kernel_rfl) (fun _ _ _ h => h) (Or.inl ⟨by rfl, ?_⟩) (by assumption) ?_
              rotate_left 1
              · (intro w hSw; (try dsimp only at hSw); go_simp; try with_reducible rfl)
              try simp only [Act.put, List.setIfInBounds_toArray, List.set_cons_zero, List.set_cons_succ]
              refine wpAnyH_take (i := 5) (v := ?_) (op_arr (op_s (op_s (op_s (op_s (op_s op_0)))))) (by kernel_rfl) (by kernel_rfl) (by kernel_rfl) (fun _ _ _ h => h) (Or.inl ⟨by rfl, ?_⟩) (by assumption) ?_
              rotate_left 1
              · (intro w hSw; (try dsimp only at hSw); go_simp; try with_reducible rfl)
              try simp only [Act.put, List.setIfInBounds_toArray, List.set_cons_zero, List.set_cons_succ]
              refine wpAnyH_take (i := 6) (v := ?_) (op_arr (op_s (op_s (op_s (op_s (op_s (op_s op_0))))))) (by kernel_rfl) (by kernel_rfl) (by kernel_rfl) (fun _ _ _ h => h) (Or.inl ⟨by rfl, ?_⟩) (by assumption) ?_
              rotate_left 1
              · (intro w hSw; (try dsimp only at hSw); go_simp; try with_reducible rfl)
              try simp only [Act.put, List.setIfInBounds_toArray, List.set_cons_zero, List.set_cons_succ]
              refine wpAnyH_take (i := 7) (v := ?_) (op_arr (op_s (op_s (op_s (op_s (op_s (op_s (op_s op_0)))))))) (by kernel_rfl) (by kernel_rfl) (by kernel_rfl) (fun _ _ _ h => h) (Or.inl ⟨by rfl, ?_⟩) (by assumption) ?_
              rotate_left 1
              · (intro w hSw; (try dsimp only at hSw); go_simp; try with_reducible rfl)
              try simp only [Act.put, List.setIfInBounds_toArray, List.set_cons_zero, List.set_cons_succ]
              refine wpAnyH_ready (rs := [8]) (by kernel_rfl) (by simp) ?_
              refine AllReadyH.cons (op_arr (op_s (op_s (op_s (op_s (op_s (op_s (op_s (op_s op_0))))))))) (fun K hK => ?_) AllReadyH.nil
              go_simp
              go_at_call 29
              have _t := tok1
              (with_reducible refine I1.mono ?_)
              rintro e w13 ⟨rfl, hb13⟩
              clear tok1 _t
              have q0 := bcell hb13 gw i hgw'
              have q1 := bcell hb13 gp i hgp'
              have HB13 := Lib.hid (HBr.out.trans (((Below.refl _ _).drew.trans hb13).mono HBr.out.size))
              have y13 := hb13.size
              clear hb13
              refine hK.out _ _ (by (try dsimp only); go_keep) (fun hHeld => ?_)
              clear hK K
              try simp only [Act.put, List.setIfInBounds_toArray, List.set_cons_zero, List.set_cons_succ]
              refine wpAnyH_take (i := 9) (v := ?_) (op_arr (op_s (op_s (op_s (op_s (op_s (op_s (op_s (op_s (op_s op_0)))))))))) (by kernel_rfl) (by kernel_rfl) (by kernel_rfl) (fun _ _ _ h => h) (Or.inl ⟨by rfl, ?_⟩) (by assumption) ?_
              rotate_left 1
              · (intro w hSw; (try dsimp only at hSw); go_simp; try with_reducible rfl)
              try simp only [Act.put, List.setIfInBounds_toArray, List.set_cons_zero, List.set_cons_succ]
              refine wpAnyH_take (i := 10) (v := ?_) (op_arr (op_s (op_s (op_s (op_s (op_s (op_s (op_s (op_s (op_s (op_s op_0))))))))))) (by kernel_rfl) (by kernel_rfl) (by kernel_rfl) (fun _ _ _ h => h) (Or.inl ⟨by rfl, ?_⟩) (by assumption) ?_
              rotate_left 1
              · (intro w hSw; (try dsimp only at hSw); go_simp; try with_reducible rfl)
              try simp only [Act.put, List.setIfInBounds_toArray, List.set_cons_zero, List.set_cons_succ]
              refine wpAnyH_take (i := 11) (v := ?_) (op_arr (op_s (op_s (op_s (op_s (op_s (op_s (op_s (op_s (op_s (op_s (op_s op_0)))))))))))) (by kernel_rfl) (by kernel_rfl) (by kernel_rfl) (fun _ _ _ h => h) (Or.inl ⟨by rfl, ?_⟩) (by assumption) ?_
              rotate_left 1
              · (intro w hSw; (try dsimp only at hSw); go_simp; try with_reducible rfl)
              try simp only [Act.put, List.setIfInBounds_toArray, List.set_cons_zero, List.set_cons_succ]
              refine wpAnyH_take (i := 13) (v := ?_) (op_arr (op_s (op_s (op_s (op_s (op_s (op_s (op_s (op_s (op_s (op_s (op_s (op_s (op_s op_0)))))))))))))) (by kernel_rfl) (by kernel_rfl) (by kernel_rfl) (fun _ _ _ h => h) (Or.inl ⟨by rfl, ?_⟩) (by assumption) ?_
              rotate_left 1
              · (intro w hSw; (try dsimp only at hSw); go_simp; try with_reducible rfl)
              try simp only [Act.put, List.setIfInBounds_toArray, List.set_cons_zero, List.set_cons_succ]
              refine wpAnyH_take (i := 16) (v := ?_) (op_arr (op_s (op_s (op_s (op_s (op_s (op_s (op_s (op_s (op_s (op_s (op_s (op_s (op_s (op_s (op_s (op_s op_0))))))))))))))))) (by kernel_rfl) (by kernel_rfl) (by kernel_rfl) (fun _ _ _ h => h) (Or.inl ⟨by rfl, ?_⟩) (by assumption) ?_
              rotate_left 1
              · (intro w hSw; (try dsimp only at hSw); go_simp; try with_reducible rfl)
              try simp only [Act.put, List.setIfInBounds_toArray, List.set_cons_zero, List.set_cons_succ]
              refine wpAnyH_take (i := 17) (v := ?_) (op_arr (op_s (op_s (op_s (op_s (op_s (op_s (op_s (op_s (op_s (op_s (op_s (op_s (op_s (op_s (op_s (op_s (op_s op_0)))))))))))))))))) (by kernel_rfl) (by kernel_rfl) (by kernel_rfl) (fun _ _ _ h => h) (Or.inl ⟨by rfl, ?_⟩) (by assumption) ?_
              rotate_left 1
              · (intro w hSw; (try dsimp only at hSw); go_simp; try with_reducible rfl)
              try simp only [Act.put, List.setIfInBounds_toArray, List.set_cons_zero, List.set_cons_succ]
              refine wpAnyH_take (i := 18) (v := ?_) (op_arr (op_s (op_s (op_s (op_s (op_s (op_s (op_s (op_s (op_s (op_s (op_s (op_s (op_s (op_s (op_s (op_s (op_s (op_s op_0))))))))))))))))))) (by kernel_rfl) (by kernel_rfl) (by kernel_rfl) (fun _ _ _ h => h) (Or.inl ⟨by rfl, ?_⟩) (by assumption) ?_
              rotate_left 1
              · (intro w hSw; (try dsimp only at hSw); go_simp; try with_reducible rfl)
              try simp only [Act.put, List.setIfInBounds_toArray, List.set_cons_zero, List.set_cons_succ]
              refine wpAnyH_take (i := 19) (v := ?_) (op_arr (op_s (op_s (op_s (op_s (op_s (op_s (op_s (op_s (op_s (op_s (op_s (op_s (op_s (op_s (op_s (op_s (op_s (op_s (op_s op_0)))))))))))))))))))) (by kernel_rfl) (by kernel_rfl) (by kernel_rfl) (fun _ _ _ h => h) (Or.inl ⟨by rfl, ?_⟩) (by assumption) ?_
              rotate_left 1
              · (intro w hSw; (try dsimp only at hSw); go_simp; try with_reducible rfl)
              try simp only [Act.put, List.setIfInBounds_toArray, List.set_cons_zero, List.set_cons_succ]
              refine wpAnyH_ready (rs := [12]) (by kernel_rfl) (by simp) ?_
              refine AllReadyH.cons (op_arr (op_s (op_s (op_s (op_s (op_s (op_s (op_s (op_s (op_s (op_s (op_s (op_s op_0))))))))))))) (fun K hK => ?_) AllReadyH.nil
              go_simp
              go_at_call 24
              (with_reducible refine (L3 _ HB13.out).mono ?_)
              rintro e w14 ⟨hb14, g3, us3, rfl, hm3⟩
              have q0 : w14.cell? ⟨gw, i, none⟩ = w13.cell? ⟨gw, i, none⟩ := bcell hb14 gw i (Nat.lt_of_lt_of_le hgw' y13)
              have q1 : w14.cell? ⟨gp, i, none⟩ = w13.cell? ⟨gp, i, none⟩ := bcell hb14 gp i (Nat.lt_of_lt_of_le hgp' y13)
              have HB14 := Lib.hid (HB13.out.trans (hb14.mono HB13.out.size))
              have hm3' := hm3.at his
              rw [← HXS.out] at hm3'
              obtain ⟨A3, d3, g3', hr3⟩ := hm3'
              have HR3 := Lib.hid hr3
              have y14 : w13.heap.size ≤ w14.heap.size := hb14.size
              clear hm3 hr3 hb14
              refine hK.out _ _ (by (try dsimp only); go_keep) (fun hHeld => ?_)
              clear hK K
              try simp only [Act.put, List.setIfInBounds_toArray, List.set_cons_zero, List.set_cons_succ]
              refine wpAnyH_take (i := 14) (v := ?_) (op_arr (op_s (op_s (op_s (op_s (op_s (op_s (op_s (op_s (op_s (op_s (op_s (op_s (op_s (op_s op_0))))))))))))))) (by kernel_rfl) (by kernel_rfl) (by kernel_rfl) (fun _ _ _ h => h) (Or.inl ⟨by rfl, ?_⟩) (by assumption) ?_
              rotate_left 1
              · (intro w hSw; (try dsimp only at hSw); go_simp; try with_reducible rfl)
              try simp only [Act.put, List.setIfInBounds_toArray, List.set_cons_zero, List.set_cons_succ]
              refine wpAnyH_ready (rs := [15]) (by kernel_rfl) (by simp) ?_
              refine AllReadyH.cons (op_arr (op_s (op_s (op_s (op_s (op_s (op_s (op_s (op_s (op_s (op_s (op_s (op_s (op_s (op_s (op_s op_0)))))))))))))))) (fun K hK => ?_) AllReadyH.nil
              go_simp
              refine hK.out _ _ (by (try dsimp only); go_keep) (fun hHeld => ?_)
              clear hK K
              try simp only [Act.put, List.setIfInBounds_toArray, List.set_cons_zero, List.set_cons_succ]
              refine wpAnyH_ready (rs := [20]) (by kernel_rfl) (by simp) ?_
              refine AllReadyH.cons (op_arr (op_s (op_s (op_s (op_s (op_s (op_s (op_s (op_s (op_s (op_s (op_s (op_s (op_s (op_s (op_s (op_s (op_s (op_s (op_s (op_s op_0))))))))))))))))))))) (fun K hK => ?_) AllReadyH.nil
              go_simp
              go_at_call 29
              (with_reducible refine (ints_any _ (.slice A3 xs.length d3) (.slice A2 xs.length d2) xs xs HR3.out (HR2.out.below HB14.out) (by omega)).mono ?_)
              rintro e w15 ⟨rfl, hb15⟩
              have q0 : w15.cell? ⟨gw, i, none⟩ = w14.cell? ⟨gw, i, none⟩ := bcell hb15 gw i (Nat.lt_of_lt_of_le hgw' (Nat.le_trans y13 y14))
              have q1 : w15.cell? ⟨gp, i, none⟩ = w14.cell? ⟨gp, i, none⟩ := bcell hb15 gp i (Nat.lt_of_lt_of_le hgp' (Nat.le_trans y13 y14))
              have HB15 := Lib.hid (HB14.out.trans (hb15.mono HB14.out.size))
              clear hb15
              refine hK.out _ _ (by (try dsimp only); go_keep) (fun hHeld => ?_)
              clear hK K
              try simp only [Act.put, List.setIfInBounds_toArray, List.set_cons_zero, List.set_cons_succ]
              refine wpAnyH_take (i := 21) (v := ?_) (op_arr (op_s (op_s (op_s (op_s (op_s (op_s (op_s (op_s (op_s (op_s (op_s (op_s (op_s (op_s (op_s (op_s (op_s (op_s (op_s (op_s (op_s op_0)))))))))))))))))))))) (by kernel_rfl) (by kernel_rfl) (by kernel_rfl) (fun _ _ _ h => h) (Or.inl ⟨by rfl, ?_⟩) (by assumption) ?_
              rotate_left 1
              · (intro w hSw; (try dsimp only at hSw); go_simp; try with_reducible rfl)
              try simp only [Act.put, List.setIfInBounds_toArray, List.set_cons_zero, List.set_cons_succ]
              refine wpAnyH_take (i := 22) (v := ?_) (op_arr (op_s (op_s (op_s (op_s (op_s (op_s (op_s (op_s (op_s (op_s (op_s (op_s (op_s (op_s (op_s (op_s (op_s (op_s (op_s (op_s (op_s (op_s op_0))))))))))))))))))))))) (by kernel_rfl) (by kernel_rfl) (by kernel_rfl) (fun _ _ _ h => h) (Or.inl ⟨by rfl, ?_⟩) (by assumption) ?_
              rotate_left 1
              · (intro w hSw; (try dsimp only at hSw); go_simp; try with_reducible rfl)
              try simp only [Act.put, List.setIfInBounds_toArray, List.set_cons_zero, List.set_cons_succ]
              refine wpAnyH_done (by kernel_rfl) ?_ _
              refine NoPanic.normal ?_
              all_goals
                go_wp2
                go_roundw
                case rel => exact ⟨i + 1, by omega, by go_num, HB15.out⟩
                case measure => simp [intOf]; omega
            · go_wp2_with (first
                | (go_at_call 22; (with_reducible refine (flush_nil _).mono ?_); rintro e w13 ⟨rfl, rfl⟩)
                | (go_at_call 23; (with_reducible refine (access_nil _ _).mono ?_); rintro e w13 ⟨rfl, rfl⟩)
                | (go_at_call 26; (with_reducible refine (probe_nil _ _).mono ?_); rintro e w13 ⟨rfl, rfl⟩)
                | (go_at_call 25; (with_reducible refine (age_nil _ _).mono ?_); rintro e w13 ⟨rfl, rfl⟩)
                | (go_at_call 24; (with_reducible refine (lines_nil _).mono ?_); rintro e w13 ⟨rfl, rfl⟩)
                | (go_at_call 27; (with_reducible refine (clone_nil _).mono ?_); rintro e w13 ⟨rfl, rfl⟩))
              go_ret
              exact ⟨rfl, HBW10.out.trans (HBr.out.mono HBW10.out.size)⟩
      · have hdz : decide (0 ≤ z) = false := decide_eq_false hz0
        go_quiet (fail)
        obtain ⟨w8, hw8⟩ : ∃ w8, w8 = w7.drewN nq := ⟨_, rfl⟩
        rw [← hw8]
        have HB8' : Hid (Below w7.heap.size w7 w8) := by rw [hw8]; exact Below.drewN_ _ _
        have HB8 : Hid (Below wr.heap.size wr w8) := HB7.out.trans (HB8'.out.mono HB7.out.size)
        clear hw8 k0 k1 k2
        try clear hHeld
        go_wp2_with (fail)
        have hx8 := HF.out.keep (G := fun _ => False) (Fr.of_below HB8.out) (fun _ _ h => h)
        have hz8 := HH.out.keep (G := fun _ => False) (Fr.of_below HB8.out) (fun _ _ h => h)
        have hp8 := HP7.out.below HB8'.out
        have hw8 := HW7.out.below HB8'.out
        have z8 := HB8'.out.size
        have HX8 := Lib.hid hx8
        have HZ8 := Lib.hid hz8
        have HP8 := Lib.hid hp8
        have HW8 := Lib.hid hw8
        clear hx8 hz8 hp8 hw8
        have FL := flush_ca _ w8 b s W ln xst HX8.out HVB.out
        refine FL.mono ?_
        rintro e w9 ⟨rfl, hf9, hx9⟩
        have hz9 := HZ8.out.keep hf9 (fun k h1 h2 => DFH.out k h2.1 h1.1)
        have hp9 := HP8.out.keep hf9 (fun k h1 h2 => by have := h2.2; omega)
        have hw9 := HW8.out.keep hf9 (fun k h1 h2 => by have := h2.2; omega)
        have z9 := hf9.size
        have HB9 : Hid (Below m1 wr w9) := (HB8.out.mono hmr).trans (hf9.below (by omega) (fun k hk => LF.out k hk.1))
        have HX9 := Lib.hid hx9
        have HZ9 := Lib.hid hz9
        have HP9 := Lib.hid hp9
        have HW9 := Lib.hid hw9
        clear hf9 hx9 hz9 hp9 hw9 FL
        have AC := access_ca _ w9 b s W ln _ HX9.out HVB.out 7 (by omega)
        go_wp2_with (go_at_call 23; (with_reducible refine AC.mono ?_); rintro e w10 ⟨rfl, -, hf10⟩; have HF10 := Lib.hid hf10; clear hf10)
        have hf10 := HF10.out
        have hz10 := HZ9.out.keep hf10 (fun k h1 h2 => by
          rcases h2 with h2 | h2
          · exact DFH.out k h2.1 h1.1.1
          · have := h1.2; omega)
        have hp10 := HP9.out.keep hf10 (fun k h1 h2 => by
          rcases h2 with h2 | h2
          · have := h2.2; have := h1.1; omega
          · have := h1.2; omega)
        have hw10 := HW9.out.keep hf10 (fun k h1 h2 => by
          rcases h2 with h2 | h2
          · have := h2.2; have := h1.1; omega
          · have := h1.2; omega)
        have HB10 : Hid (Below m1 wr w10) := HB9.out.trans (hf10.below (by omega) (fun k hk => by
          rcases hk with hk | hk
          · exact LF.out k hk.1
          · omega))
        have HZ10 := Lib.hid hz10
        have HP10 := Lib.hid hp10
        have HW10 := Lib.hid hw10
        have HBW10 : Hid (Below w.heap.size w w10) := HBW.out.trans (HB10.out.mono hws)
        clear hf10 hz10 hp10 hw10 AC
        obtain ⟨wz, rfl⟩ : ∃ wz : World, wz = w10 := ⟨_, rfl⟩
        have HLW : Hid (∀ i, i < s → (xst.getD i []).length ≤ W) := fun i hi => by
          obtain ⟨_, _, _, hw⟩ := HF.out
          exact hw _ (getD_mem (by rw [HAP.out.lx]; exact hi))
        go_loopw [91] (fun i w12 => ∃ i' : Nat, i' ≤ s ∧ i = .int .i64 i' ∧ Hid (Below wz.heap.size wz w12)) (fun i _ => s - (intOf i).toNat)
        case atStart => exact ⟨0, by omega, rfl, Below.refl _ _⟩
        case round =>
          obtain ⟨i, hi, rfl, HBr⟩ := hrel
          by_cases his : i < s
          · obtain ⟨A1, d1, e1, hr1⟩ := HW10.out.at his
            obtain ⟨A2, d2, e2, hr2⟩ := HP10.out.at his
            have hxl := HLW.out i his
            have hgwl := lt_of_heap HW10.out.arr
            have hgpl := lt_of_heap HP10.out.arr
            have g1' := (bcell HBr.out gw i hgwl).trans e1
            have g2' := (bcell HBr.out gp i hgpl).trans e2
            have L3 := fun w h => lines_ca _ w b'' s W ln xst (HZ10.out.below h) HVB.out
            obtain ⟨xs, hxs⟩ : ∃ xs, xs = xst.getD i [] := ⟨_, rfl⟩
            rw [← hxs] at g1' g2' hr1 hr2 hxl
            have HXS := Lib.hid hxs
            have HR1 := Lib.hid hr1
            have HR2 := Lib.hid hr2
            have hgw' : gw < wr.heap.size := Nat.lt_of_lt_of_le hgwl HBr.out.size
            have hgp' : gp < wr.heap.size := Nat.lt_of_lt_of_le hgpl HBr.out.size
            have I1 := ints_any wr.drew (.slice A1 xs.length d1) (.slice A2 xs.length d2) xs xs (HR1.out.below (HBr.out.trans ((Below.refl _ _).drew))) (HR2.out.below (HBr.out.trans ((Below.refl _ _).drew))) (by omega)
            clear e1 e2 hr1 hr2 hxs
            have tok1 : True := trivial
            have i0 : (0 : Int) ≤ i := by omega
            have i1 : (i : Int) < s := by omega
            go_wp2
            refine wp_region_noPanic ?_
            refine wp_region_held_drew (S := fun w' => w'.cell? ⟨gw, i, none⟩ = some (.slice A1 xs.length d1) ∧ w'.cell? ⟨gp, i, none⟩ = some (.slice A2 xs.length d2)) (by kernel_rfl) (by (try dsimp only); go_keep) (fun hHeld => ?_)
            refine wpAnyH_take (i := 0) (v := ?_) (op_arr op_0) (by kernel_rfl) (by kernel_rfl) (by kernel_rfl) (fun _ _ _ h => h) (Or.inl ⟨by rfl, ?_⟩) (by assumption) ?_
            rotate_left 1
            · (intro w hSw; (try dsimp only at hSw); go_simp; try with_reducible rfl)
            try simp only [Act.put, List.setIfInBounds_toArray, List.set_cons_zero, List.set_cons_succ]
            refine wpAnyH_take (i := 1) (v := ?_) (op_arr (op_s op_0)) (by kernel_rfl) (by kernel_rfl) (by kernel_rfl) (fun _ _ _ h => h) (Or.inl ⟨by rfl, ?_⟩) (by assumption) ?_
            rotate_left 1
            · (intro w hSw; (try dsimp only at hSw); go_simp; try with_reducible rfl)
            try simp only [Act.put, List.setIfInBounds_toArray, List.set_cons_zero, List.set_cons_succ]
            refine wpAnyH_take (i := 2) (v := ?_) (op_arr (op_s (op_s op_0))) (by kernel_rfl) (by kernel_rfl) (by kernel_rfl) (fun _ _ _ h => h) (Or.inl ⟨by rfl, ?_⟩) (by assumption) ?_
            rotate_left 1
            · (intro w hSw; (try dsimp only at hSw); go_simp; try with_reducible rfl)
            try simp only [Act.put, List.setIfInBounds_toArray, List.set_cons_zero, List.set_cons_succ]
            refine wpAnyH_take (i := 3) (v := ?_) (op_arr (op_s (op_s (op_s op_0)))) (by kernel_rfl) (by kernel_rfl) (by kernel_rfl) (fun _ _ _ h => h) (Or.inl ⟨by rfl, ?_⟩) (by assumption) ?_
            rotate_left 1
            · (intro w hSw; (try dsimp only at hSw); go_simp; try with_reducible rfl)
            try simp only [Act.put, List.setIfInBounds_toArray, List.set_cons_zero, List.set_cons_succ]
            refine wpAnyH_take (i := 4) (v := ?_) (op_arr (op_s (op_s (op_s (op_s op_0))))) (by kernel_rfl) (by kernel_rfl) (by kernel_rfl) (fun _ _ _ h => h) (Or.inl ⟨by rfl, ?_⟩) (by assumption) ?_
            rotate_left 1
            · (intro w hSw; (try dsimp only at hSw); go_simp; try with_reducible rfl)
            try simp only [Act.put, List.setIfInBounds_toArray, List.set_cons_zero, List.set_cons_succ]
            refine wpAnyH_take (i := 5) (v := ?_) (op_arr (op_s (op_s (op_s (op_s (op_s op_0)))))) (by kernel_rfl) (by kernel_rfl) (by kernel_rfl) (fun _ _ _ h => h) (Or.inl ⟨by rfl, ?_⟩) (by assumption) ?_
            rotate_left 1
            · (intro w hSw; (try dsimp only at hSw); go_simp; try with_reducible rfl)
            try simp only [Act.put, List.setIfInBounds_toArray, List.set_cons_zero, List.set_cons_succ]
            refine wpAnyH_take (i := 6) (v := ?_) (op_arr (op_s (op_s (op_s (op_s (op_s (op_s op_0))))))) (by kernel_rfl) (by kernel_rfl) (by kernel_rfl) (fun _ _ _ h => h) (Or.inl ⟨by rfl, ?_⟩) (by assumption) ?_
            rotate_left 1
            · (intro w hSw; (try dsimp only at hSw); go_simp; try with_reducible rfl)
            try simp only [Act.put, List.setIfInBounds_toArray, List.set_cons_zero, List.set_cons_succ]
            refine wpAnyH_take (i := 7) (v := ?_) (op_arr (op_s (op_s (op_s (op_s (op_s (op_s (op_s op_0)))))))) (by kernel_rfl) (by kernel_rfl) (by kernel_rfl) (fun _ _ _ h => h) (Or.inl ⟨by rfl, ?_⟩) (by assumption) ?_
            rotate_left 1
            · (intro w hSw; (try dsimp only at hSw); go_simp; try with_reducible rfl)
            try simp only [Act.put, List.setIfInBounds_toArray, List.set_cons_zero, List.set_cons_succ]
            refine wpAnyH_ready (rs := [8]) (by kernel_rfl) (by simp) ?_
            refine AllReadyH.cons (op_arr (op_s (op_s (op_s (op_s (op_s (op_s (op_s (op_s op_0))))))))) (fun K hK => ?_) AllReadyH.nil
            go_simp
            go_at_call 29
            have _t := tok1
            (with_reducible refine I1.mono ?_)
            rintro e w13 ⟨rfl, hb13⟩
            clear tok1 _t
            have q0 := bcell hb13 gw i hgw'
            have q1 := bcell hb13 gp i hgp'
            have HB13 := Lib.hid (HBr.out.trans (((Below.refl _ _).drew.trans hb13).mono HBr.out.size))
            have y13 := hb13.size
            clear hb13
            refine hK.out _ _ (by (try dsimp only); go_keep) (fun hHeld => ?_)
            clear hK K
            try simp only [Act.put, List.setIfInBounds_toArray, List.set_cons_zero, List.set_cons_succ]
            refine wpAnyH_take (i := 9) (v := ?_) (op_arr (op_s (op_s (op_s (op_s (op_s (op_s (op_s (op_s (op_s op_0)))))))))) (by kernel_rfl) (by kernel_rfl) (by kernel_rfl) (fun _ _ _ h => h) (Or.inl ⟨by rfl, ?_⟩) (by assumption) ?_
            rotate_left 1
            · (intro w hSw; (try dsimp only at hSw); go_simp; try with_reducible rfl)
            try simp only [Act.put, List.setIfInBounds_toArray, List.set_cons_zero, List.set_cons_succ]
            refine wpAnyH_take (i := 10) (v := ?_) (op_arr (op_s (op_s (op_s (op_s (op_s (op_s (op_s (op_s (op_s (op_s op_0))))))))))) (by kernel_rfl) (by kernel_rfl) (by kernel_rfl) (fun _ _ _ h => h) (Or.inl ⟨by rfl, ?_⟩) (by assumption) ?_
            rotate_left 1
            · (intro w hSw; (try dsimp only at hSw); go_simp; try with_reducible rfl)
            try simp only [Act.put, List.setIfInBounds_toArray, List.set_cons_zero, List.set_cons_succ]
            refine wpAnyH_take (i := 11) (v := ?_) (op_arr (op_s (op_s (op_s (op_s (op_s (op_s (op_s (op_s (op_s (op_s (op_s op_0)))))))))))) (by kernel_rfl) (by kernel_rfl) (by kernel_rfl) (fun _ _ _ h => h) (Or.inl ⟨by rfl, ?_⟩) (by assumption) ?_
            rotate_left 1
            · (intro w hSw; (try dsimp only at hSw); go_simp; try with_reducible rfl)
            try simp only [Act.put, List.setIfInBounds_toArray, List.set_cons_zero, List.set_cons_succ]
            refine wpAnyH_take (i := 13) (v := ?_) (op_arr (op_s (op_s (op_s (op_s (op_s (op_s (op_s (op_s (op_s (op_s (op_s (op_s (op_s op_0)))))))))))))) (by kernel_rfl) (by kernel_rfl) (by kernel_rfl) (fun _ _ _ h => h) (Or.inl ⟨by rfl, ?_⟩) (by assumption) ?_
            rotate_left 1
            · (intro w hSw; (try dsimp only at hSw); go_simp; try with_reducible rfl)
            try simp only [Act.put, List.setIfInBounds_toArray, List.set_cons_zero, List.set_cons_succ]
            refine wpAnyH_take (i := 16) (v := ?_) (op_arr (op_s (op_s (op_s (op_s (op_s (op_s (op_s (op_s (op_s (op_s (op_s (op_s (op_s (op_s (op_s (op_s op_0))))))))))))))))) (by kernel_rfl) (by kernel_rfl) (by kernel_rfl) (fun _ _ _ h => h) (Or.inl ⟨by rfl, ?_⟩) (by assumption) ?_
            rotate_left 1
            · (intro w hSw; (try dsimp only at hSw); go_simp; try with_reducible rfl)
            try simp only [Act.put, List.setIfInBounds_toArray, List.set_cons_zero, List.set_cons_succ]
            refine wpAnyH_take (i := 17) (v := ?_) (op_arr (op_s (op_s (op_s (op_s (op_s (op_s (op_s (op_s (op_s (op_s (op_s (op_s (op_s (op_s (op_s (op_s (op_s op_0)))))))))))))))))) (by kernel_rfl) (by kernel_rfl) (by kernel_rfl) (fun _ _ _ h => h) (Or.inl ⟨by rfl, ?_⟩) (by assumption) ?_
            rotate_left 1
            · (intro w hSw; (try dsimp only at hSw); go_simp; try with_reducible rfl)
            try simp only [Act.put, List.setIfInBounds_toArray, List.set_cons_zero, List.set_cons_succ]
            refine wpAnyH_take (i := 18) (v := ?_) (op_arr (op_s (op_s (op_s (op_s (op_s (op_s (op_s (op_s (op_s (op_s (op_s (op_s (op_s (op_s (op_s (op_s (op_s (op_s op_0))))))))))))))))))) (by kernel_rfl) (by kernel_rfl) (by kernel_rfl) (fun _ _ _ h => h) (Or.inl ⟨by rfl, ?_⟩) (by assumption) ?_
            rotate_left 1
            · (intro w hSw; (try dsimp only at hSw); go_simp; try with_reducible rfl)
            try simp only [Act.put, List.setIfInBounds_toArray, List.set_cons_zero, List.set_cons_succ]
            refine wpAnyH_take (i := 19) (v := ?_) (op_arr (op_s (op_s (op_s (op_s (op_s (op_s (op_s (op_s (op_s (op_s (op_s (op_s (op_s (op_s (op_s (op_s (op_s (op_s (op_s op_0)))))))))))))))))))) (by kernel_rfl) (by kernel_rfl) (by kernel_rfl) (fun _ _ _ h => h) (Or.inl ⟨by rfl, ?_⟩) (by assumption) ?_
            rotate_left 1
            · (intro w hSw; (try dsimp only at hSw); go_simp; try with_reducible rfl)
            try simp only [Act.put, List.setIfInBounds_toArray, List.set_cons_zero, List.set_cons_succ]
            refine wpAnyH_ready (rs := [12]) (by kernel_rfl) (by simp) ?_
            refine AllReadyH.cons (op_arr (op_s (op_s (op_s (op_s (op_s (op_s (op_s (op_s (op_s (op_s (op_s (op_s op_0))))))))))))) (fun K hK => ?_) AllReadyH.nil
            go_simp
            go_at_call 24
            (with_reducible refine (L3 _ HB13.out).mono ?_)
            rintro e w14 ⟨hb14, g3, us3, rfl, hm3⟩
            have q0 : w14.cell? ⟨gw, i, none⟩ = w13.cell? ⟨gw, i, none⟩ := bcell hb14 gw i (Nat.lt_of_lt_of_le hgw' y13)
            have q1 : w14.cell? ⟨gp, i, none⟩ = w13.cell? ⟨gp, i, none⟩ := bcell hb14 gp i (Nat.lt_of_lt_of_le hgp' y13)
            have HB14 := Lib.hid (HB13.out.trans (hb14.mono HB13.out.size))
            have hm3' := hm3.at his
            rw [← HXS.out] at hm3'
            obtain ⟨A3, d3, g3', hr3⟩ := hm3'
            have HR3 := Lib.hid hr3
            have y14 : w13.heap.size ≤ w14.heap.size := hb14.size
            clear hm3 hr3 hb14
            refine hK.out _ _ (by (try dsimp only); go_keep) (fun hHeld => ?_)
            clear hK K
            try simp only [Act.put, List.setIfInBounds_toArray, List.set_cons_zero, List.set_cons_succ]
            refine wpAnyH_take (i := 14) (v := ?_) (op_arr (op_s (op_s (op_s (op_s (op_s (op_s (op_s (op_s (op_s (op_s (op_s (op_s (op_s (op_s op_0))))))))))))))) (by kernel_rfl) (by kernel_rfl) (by kernel_rfl) (fun _ _ _ h => h) (Or.inl ⟨by rfl, ?_⟩) (by assumption) ?_
            rotate_left 1
            · (intro w hSw; (try dsimp only at hSw); go_simp; try with_reducible rfl)
            try simp only [Act.put, List.setIfInBounds_toArray, List.set_cons_zero, List.set_cons_succ]
            refine wpAnyH_ready (rs := [15]) (by kernel_rfl) (by simp) ?_
            refine AllReadyH.cons (op_arr (op_s (op_s (op_s (op_s (op_s (op_s (op_s (op_s (op_s (op_s (op_s (op_s (op_s (op_s (op_s op_0)))))))))))))))) (fun K hK => ?_) AllReadyH.nil
            go_simp
            refine hK.out _ _ (by (try dsimp only); go_keep) (fun hHeld => ?_)
            clear hK K
            try simp only [Act.put, List.setIfInBounds_toArray, List.set_cons_zero, List.set_cons_succ]
            refine wpAnyH_ready (rs := [20]) (by kernel_rfl) (by simp) ?_
            refine AllReadyH.cons (op_arr (op_s (op_s (op_s (op_s (op_s (op_s (op_s (op_s (op_s (op_s (op_s (op_s (op_s (op_s (op_s (op_s (op_s (op_s (op_s (op_s op_0))))))))))))))))))))) (fun K hK => ?_) AllReadyH.nil
            go_simp
            go_at_call 29
            (with_reducible refine (ints_any _ (.slice A3 xs.length d3) (.slice A2 xs.length d2) xs xs HR3.out (HR2.out.below HB14.out) (by omega)).mono ?_)
            rintro e w15 ⟨rfl, hb15⟩
            have q0 : w15.cell? ⟨gw, i, none⟩ = w14.cell? ⟨gw, i, none⟩ := bcell hb15 gw i (Nat.lt_of_lt_of_le hgw' (Nat.le_trans y13 y14))
            have q1 : w15.cell? ⟨gp, i, none⟩ = w14.cell? ⟨gp, i, none⟩ := bcell hb15 gp i (Nat.lt_of_lt_of_le hgp' (Nat.le_trans y13 y14))
            have HB15 := Lib.hid (HB14.out.trans (hb15.mono HB14.out.size))
            clear hb15
            refine hK.out _ _ (by (try dsimp only); go_keep) (fun hHeld => ?_)
            clear hK K
            try simp only [Act.put, List.setIfInBounds_toArray, List.set_cons_zero, List.set_cons_succ]
            refine wpAnyH_take (i := 21) (v := ?_) (op_arr (op_s (op_s (op_s (op_s (op_s (op_s (op_s (op_s (op_s (op_s (op_s (op_s (op_s (op_s (op_s (op_s (op_s (op_s (op_s (op_s (op_s op_0)))))))))))))))))))))) (by kernel_rfl) (by kernel_rfl) (by kernel_rfl) (fun _ _ _ h => h) (Or.inl ⟨by rfl, ?_⟩) (by assumption) ?_
            rotate_left 1
            · (intro w hSw; (try dsimp only at hSw); go_simp; try with_reducible rfl)
            try simp only [Act.put, List.setIfInBounds_toArray, List.set_cons_zero, List.set_cons_succ]
            refine wpAnyH_take (i := 22) (v := ?_) (op_arr (op_s (op_s (op_s (op_s (op_s (op_s (op_s (op_s (op_s (op_s (op_s (op_s (op_s (op_s (op_s (op_s (op_s (op_s (op_s (op_s (op_s (op_s op_0))))))))))))))))))))))) (by kernel_rfl) (by kernel_rfl) (by kernel_rfl) (fun _ _ _ h => h) (Or.inl ⟨by rfl, ?_⟩) (by assumption) ?_
            rotate_left 1
            · (intro w hSw; (try dsimp only at hSw); go_simp; try with_reducible rfl)
            try simp only [Act.put, List.setIfInBounds_toArray, List.set_cons_zero, List.set_cons_succ]
            refine wpAnyH_done (by kernel_rfl) ?_ _
            refine NoPanic.normal ?_
            all_goals
              all_goals
                go_wp2
                go_roundw
                case rel => exact ⟨i + 1, by omega, by go_num, HB15.out⟩
                case measure => simp [intOf]; omega
          · go_wp2_with (first
              | (go_at_call 22; (with_reducible refine (flush_nil _).mono ?_); rintro e w13 ⟨rfl, rfl⟩)
              | (go_at_call 23; (with_reducible refine (access_nil _ _).mono ?_); rintro e w13 ⟨rfl, rfl⟩)
              | (go_at_call 26; (with_reducible refine (probe_nil _ _).mono ?_); rintro e w13 ⟨rfl, rfl⟩)
              | (go_at_call 25; (with_reducible refine (age_nil _ _).mono ?_); rintro e w13 ⟨rfl, rfl⟩)
              | (go_at_call 24; (with_reducible refine (lines_nil _).mono ?_); rintro e w13 ⟨rfl, rfl⟩)
              | (go_at_call 27; (with_reducible refine (clone_nil _).mono ?_); rintro e w13 ⟨rfl, rfl⟩))
            go_ret
            exact ⟨rfl, HBW10.out.trans (HBr.out.mono HBW10.out.size)⟩

theorem cacheApart_walk (S W L : Int) (u : Value) (l : List Int) (z : Int) (w : World) (hu : RdK w .i64 u l) (hl : l.length ≤ 9223372036854775807) (wl : ∀ n ∈ l, (Lit.int .i64 n).wf = true) (wz : (Lit.int .i64 z).wf = true) :
    Calls Try.prog 10 #[.agg #[.int .i64 S, .int .i64 W, .int .i64 L], u, .int .i64 z] w fun e w' => e = .returned (.bool true) ∧ Below w.heap.size w w' := by
  cases hv : valB S W L with
  | false => exact apart_bad S W L z hv u l w hu hl
  | true =>
    obtain ⟨-, -, h1, h2, h3, h4, h5, h6⟩ := valB_spec hv
    obtain ⟨s, rfl⟩ := Int.eq_ofNat_of_zero_le (show 0 ≤ S by omega)
    obtain ⟨wy, rfl⟩ := Int.eq_ofNat_of_zero_le (show 0 ≤ W by omega)
    obtain ⟨ln, rfl⟩ := Int.eq_ofNat_of_zero_le (show 0 ≤ L by omega)
    exact apart_good s wy ln z hv u l w hu hl (wf_i64s wl)
end Go.Proofs.Ytgbmbehobemocaa
