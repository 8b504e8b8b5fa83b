/- CacheReuse is true. -/
import Derived.Test.YtgbmbehobemocaaU
import Derived.Test.YtgbmbehobemocaaM5
namespace Go.Proofs.Ytgbmbehobemocaa
open Go.RowKit Go.Maps
set_option linter.unusedVariables false
set_option linter.unusedSimpArgs false

theorem reuse_bad (S W L z : Int) (hv : valB S W L = false) (u : Value) (l : List Int) (w : World) (hu : RdI w u l) (hl : l.length ≤ 9223372036854775807) :
    Calls Try.prog 7 #[.agg #[.int .i64 S, .int .i64 W, .int .i64 L], u, .int .i64 z] w fun e w' => e = .returned (.bool true) ∧ Below w.heap.size w w' := by
  obtain ⟨B, d, rfl⟩ := hu.slice
  have C19 := fun v w => made_bad S W L v w hv
  have C20 := fun w h => great_any w (.slice B l.length d) l h hl
  obtain ⟨g1, hg1⟩ : ∃ g1, g1 = greatB l := ⟨_, rfl⟩
  rw [← hg1] at C20
  have HU := Lib.hid hu
  clear hv hu hg1
  go_enter Try.func7, Try.ntmps7
  go_wp2_with (fail)
  obtain ⟨wb, hwb⟩ : ∃ wb, wb = w.alloc (.cells #[.int .i64 S, .int .i64 W, .int .i64 L] 23) := ⟨_, rfl⟩
  obtain ⟨n0, hn0⟩ : ∃ n0, n0 = w.heap.size := ⟨_, rfl⟩
  have hw0 : wb.cell? ⟨n0, 0, none⟩ = some (.int .i64 S) ∧ wb.cell? ⟨n0, 1, none⟩ = some (.int .i64 W) ∧ wb.cell? ⟨n0, 2, none⟩ = some (.int .i64 L) ∧ n0 < wb.heap.size ∧ Below n0 w wb := by
    rw [hwb, hn0]
    exact ⟨by simp, by simp, by simp, by simp, (Below.refl _ _).alloc (Nat.le_refl _) _⟩
  rw [← hwb, ← hn0]
  have HN0 := Lib.hid hn0
  clear hwb hn0
  obtain ⟨c0, c1, c2, hn, hb0⟩ := hw0
  refine (awake_any wb).mono ?_
  rintro e w1 ⟨rfl, hb⟩
  obtain ⟨c0, c1, c2, hn, hb0⟩ := step_box hb c0 c1 c2 hn hb0
  go_wp2_with (first
    | (go_at_call 19; (with_reducible refine (C19 _ _).mono ?_); rintro e w1 ⟨rfl, hb⟩; obtain ⟨c0, c1, c2, hn, hb0⟩ := step_box hb c0 c1 c2 hn hb0; have hB : Below w.heap.size w w1 := (by rw [← HN0.out]; exact hb0))
    | (go_at_call 20; (with_reducible refine (C20 _ (HU.out.below hB)).mono ?_); rintro e w' ⟨rfl, rfl⟩))
  all_goals
    go_ret
    exact ⟨rfl, hB⟩

theorem hitF_eq8 {s ln : Nat} {xss : List (List Int)} {a : Int} (ha : 0 ≤ a) : hitF s ln xss a = hitB s ln xss a := by
  unfold hitF hitB ageF
  rw [decide_eq_true ha, Bool.true_and]
  by_cases hm : a / ln ∈ xss.getD (a / ln % s).toNat []
  · obtain ⟨k, _, h2, _⟩ := (idx_mem (a / ln) _).1 hm
    rw [h2, decide_eq_true hm, decide_eq_true (by omega)]
  · rw [(idx_mem (a / ln) _).2 hm, decide_eq_false hm]
    rfl

theorem hit_contL {s W ln : Nat} {xst : List (List Int)} {h : List Int} (hh : Hist s W ln xst h) (hv : valB s W ln = true) (hs : 1 ≤ s) {z : Int} (hz : 0 ≤ z) :
    hitF s ln xst z = decide (z / ln ∈ contL (inSet s W ln (setF s W ln (z / ln))) W h.reverse []) := by
  obtain ⟨d0, _⟩ := div_le (ln := ln) hz
  have m0 : 0 ≤ z / ln % s := Int.emod_nonneg _ (by omega)
  have m1 : z / ln % s < s := Int.emod_lt_of_pos _ (by omega)
  obtain ⟨i, hi⟩ := Int.eq_ofNat_of_zero_le m0
  have his : i < s := by omega
  rw [hitF_eq8 hz, hitB, decide_eq_true hz, Bool.true_and, hi, Int.toNat_natCast, hh.eq i his, setF_ok hv d0, hi]

theorem reuse_hit {s W ln : Nat} {xst : List (List Int)} {l : List Int} (hh : Hist s W ln xst (linesOf ln l)) (hv : valB s W ln = true) (hs : 1 ≤ s) {z : Int} (hz : 0 ≤ z) {m : Nat} (hm : m < l.length) (h0 : 0 ≤ l.getD m 0) (he : l.getD m 0 / ln = z / ln)
    (hn : z / ln ∉ linesOf ln (l.drop (m + 1))) : hitF s ln xst z = decide ((ddf (inSet s W ln (setF s W ln (z / ln))) (linesOf ln (l.drop (m + 1))).reverse).length < W) := by
  rw [hit_contL hh hv hs hz]
  have e1 : (linesOf ln l).reverse = (linesOf ln (l.drop (m + 1))).reverse ++ z / ln :: (linesOf ln (l.take m)).reverse := by
    have e2 : linesOf ln l = linesOf ln (l.take m) ++ linesOf ln (l.drop m) := by rw [← linesOf_append, List.take_append_drop]
    rw [e2, List.reverse_append, linesOf_drop ln l m hm, if_pos h0, he]
    simp
  rw [e1]
  exact decide_eq_decide.2 (reuse_law _ W _ _ _ (decide_eq_true rfl) (by simpa using hn))

theorem reuse_miss {s W ln : Nat} {xst : List (List Int)} {l : List Int} (hh : Hist s W ln xst (linesOf ln l)) (hv : valB s W ln = true) (hs : 1 ≤ s) {z : Int} (hz : 0 ≤ z) (hn : z / ln ∉ linesOf ln l) : hitF s ln xst z = false := by
  rw [hit_contL hh hv hs hz]
  exact decide_eq_false (reuse_none _ W _ _ (by simpa using hn))

theorem law3 : Keyed Try.prog 3 := int_keyed Try.underlying3
/-- The map of the others. -/
def OM (w : World) (B n : Nat) (acc : List Int) : Prop := w.ownsMap Try.prog 3 (plainElem (H := Unit) Try.prog 4) B n (setOf (.lit (.bool true)) (lits acc))
theorem len_map {w : World} {B : Nat} {es : Array MapEntry} {clock : Nat} (hb : w.heap[B]? = some (.map es clock)) : (Builtin.len_ #[44] 3 #[.map (some B)]).run Try.prog w = .ok (.int .i64 (es.size : Int)) w := by
  simp [Builtin.len_, run_underlying Try.underlying44, MapKept.run_getObj_map hb, goInt, Result.andThen]
theorem OM.heap {w : World} {B n : Nat} {acc : List Int} (h : OM w B n acc) : ∃ es clock, w.heap[B]? = some (.map es clock) ∧ es.size = Maps.size (setOf (H := Unit) (.lit (.bool true)) (lits acc)) := by
  have h' := h
  obtain ⟨es, clock, hb, F, _, hD⟩ := h'
  refine ⟨es, clock, hb, ?_⟩
  have h1 := World.ownsMap.len h Try.underlying44 3
  have h2 := len_map hb
  rw [h2] at h1
  injection h1 with h1
  injection h1 with _ h1
  exact Int.ofNat_inj.1 h1
theorem OM.below {w w' : World} {B n : Nat} {acc : List Int} (h : OM w B n acc) (hb : Below w.heap.size w w') : OM w' B n acc := by
  have hlt := World.ownsMap.lt h
  obtain ⟨es, clock, hbb, F, hs, hD⟩ := h
  exact ⟨es, clock, (hb.block B hlt).trans hbb, F, hs, hD⟩

theorem OM.mono {w : World} {B n n' : Nat} {acc : List Int} (h : OM w B n acc) (hn : n ≤ n') : OM w B n' acc := by
  obtain ⟨es, clock, hb, F, hs, hD⟩ := h
  exact ⟨es, clock, hb, F, Nat.le_trans hs hn, hD⟩

set_option maxRecDepth 100000 in
set_option maxHeartbeats 4000000 in
theorem reuse_good (s W ln : Nat) (z : Int) (hzw : z ≤ 9223372036854775807) (hv : valB s W ln = true) (u : Value) (l : List Int) (w : World) (hu : RdI w u l) (hl : l.length ≤ 9223372036854775807) (hil : I64s l) :
    Calls Try.prog 7 #[.agg #[.int .i64 s, .int .i64 W, .int .i64 ln], u, .int .i64 z] w fun e w' => e = .returned (.bool true) ∧ Below w.heap.size w w' := by
  obtain ⟨A, c, rfl⟩ := hu.slice
  have C19 := fun w1 hB => made_ok s W ln (.slice A l.length c) l w w1 hv hu hB hl hil
  have C20 := fun w h => great_any w (.slice A l.length c) l h hl
  obtain ⟨g1, hg1⟩ : ∃ g1, g1 = greatB l := ⟨_, rfl⟩
  rw [← hg1] at C20
  have HU := Lib.hid hu
  have HVB := Lib.hid hv
  have HIL := Lib.hid hil
  have HG1 := Lib.hid hg1
  obtain ⟨-, -, hs1, hs2, hW1, hW2, hL1, hL2⟩ := valB_spec hv
  clear hv hu hg1 hil
  go_enter Try.func7, Try.ntmps7
  go_wp2_with (fail)
  obtain ⟨wb, hwb⟩ : ∃ wb, wb = w.alloc (.cells #[.int .i64 s, .int .i64 W, .int .i64 ln] 23) := ⟨_, rfl⟩
  obtain ⟨n0, hn0⟩ : ∃ n0, n0 = w.heap.size := ⟨_, rfl⟩
  have hw0 : wb.cell? ⟨n0, 0, none⟩ = some (.int .i64 s) ∧ wb.cell? ⟨n0, 1, none⟩ = some (.int .i64 W) ∧ wb.cell? ⟨n0, 2, none⟩ = some (.int .i64 ln) ∧ n0 < wb.heap.size ∧ Below n0 w wb := by
    rw [hwb, hn0]
    exact ⟨by simp, by simp, by simp, by simp, (Below.refl _ _).alloc (Nat.le_refl _) _⟩
  rw [← hwb, ← hn0]
  have HN0 := Lib.hid hn0
  clear hwb hn0
  obtain ⟨c0, c1, c2, hn, hb0⟩ := hw0
  refine (awake_any wb).mono ?_
  rintro e w1 ⟨rfl, hb⟩
  obtain ⟨c0, c1, c2, hn, hb0⟩ := step_box hb c0 c1 c2 hn hb0
  have hB1 : Hid (Below w.heap.size w w1) := by rw [← HN0.out]; exact hb0
  have HB1 := hB1
  clear hB1
  have C15 := fun w => line_any s W ln z hzw w
  have hmm := @run_makeMap Try.prog
  by_cases hz0 : 0 ≤ z
  · by_cases hz1 : z ≤ 100000
    · obtain ⟨d0, d1⟩ := div_le (ln := ln) hz0
      rw [lineF_ok HVB.out hz0] at C15
      obtain ⟨y, hy⟩ : ∃ y, y = z / ln := ⟨_, rfl⟩
      rw [← hy] at C15 d0 d1
      have HY := Lib.hid hy
      clear hy
      go_wp2_with (first
        | (go_at_call 19; (with_reducible refine (C19 _ HB1.out).mono ?_); rintro e w2 ⟨hb, b, rfl, hc2⟩; obtain ⟨c0, c1, c2, hn, hb0⟩ := step_box hb c0 c1 c2 hn hb0; have HC2 := Lib.hid hc2; have HB2 : Hid (Below w.heap.size w w2) := (by rw [← HN0.out]; exact hb0); clear hc2)
        | (go_at_call 20; (with_reducible refine (C20 _ (HU.out.below HB2.out)).mono ?_); rintro e w' ⟨rfl, rfl⟩)
        | (go_at_call 15; (with_reducible refine (C15 _).mono ?_); rintro e w3 ⟨rfl, hb3⟩; obtain ⟨c0, c1, c2, hn, hb0⟩ := step_box hb3 c0 c1 c2 hn hb0; have HB3 := Lib.hid hb3; clear hb3))
      · go_ret
        exact ⟨rfl, HB2.out⟩
      have g1f : g1 = false := Bool.eq_false_iff.2 (by assumption)
      obtain ⟨gl1, gl2⟩ := great_spec (HG1.out.symm.trans g1f)
      have HGL := Lib.hid gl2
      have HC3 := Lib.hid (HC2.out.below HB3.out)
      have HBW3 : Hid (Below w.heap.size w w3) := HB2.out.trans (HB3.out.mono HB2.out.size)
      clear g1f gl2 C15 C19 C20 hb hb0
      try clear hHeld
      have hist := hist_run HVB.out (by omega) (by omega) l (Hist.empty s W ln)
      rw [List.nil_append] at hist
      obtain ⟨xst, hxst⟩ : ∃ xst, xst = runF s W ln (emptyF s) l := ⟨_, rfl⟩
      rw [← hxst] at hist HC3
      have HIST := Lib.hid hist
      have c17 := fun w => set_any s W ln y (by omega) w
      rw [setF_ok HVB.out d0] at c17
      obtain ⟨q, hq⟩ : ∃ q, q = y % s := ⟨_, rfl⟩
      rw [← hq] at c17
      have HQ : Hid (q = setF s W ln (z / ln)) := by show q = _; rw [← HY.out, setF_ok HVB.out d0, hq]
      have C17 := c17
      obtain ⟨B, hB⟩ : ∃ B, B = w3.heap.size := ⟨_, rfl⟩
      have HOM : Hid (OM (w3.alloc (.map #[] 0)) B 0 []) := by rw [hB]; exact World.ownsMap_made _ _ _ _
      have hB3 : Below B w3 (w3.alloc (.map #[] 0)) := by rw [hB]; exact (Below.refl _ _).alloc (Nat.le_refl _) _
      have HBB := Lib.hid hB
      have hn3 : n0 < B := by rw [hB]; exact hn
      rw [← hB]
      obtain ⟨w4, hw4⟩ : ∃ w4, w4 = w3.alloc (.map #[] 0) := ⟨_, rfl⟩
      rw [← hw4] at HOM hB3 ⊢
      have HB4 := Lib.hid hB3
      clear hist hxst hq c17 hB hB3 hw4 hn hmm HB3 HC2 HB2 HB1
      go_loopw [10, 11] (fun i _k wr => ∃ k : Nat, k ≤ l.length ∧ i = .int .i64 ((k : Int) - 1) ∧ Hid (OM wr B (l.length - k) (((linesOf ln (l.drop k)).reverse).filter (inSet s W ln q))) ∧ Hid (y ∉ linesOf ln (l.drop k)) ∧ Hid (Below B w3 wr)) (fun i _ _ => (intOf i + 1).toNat)
      case atStart =>
        refine ⟨l.length, Nat.le_refl _, by first | rfl | go_num, ?_, ?_, HB4.out⟩
        · show OM _ _ _ _
          rw [List.drop_length, Nat.sub_self]
          exact HOM.out
        · show y ∉ _
          rw [List.drop_length]
          exact fun h => by simp [linesOf] at h
      case round =>
        obtain ⟨k, hk, rfl, HO, HN, HB⟩ := hrel
        have r0 := (bcell HB.out n0 0 hn3).trans c0
        have r1 := (bcell HB.out n0 1 hn3).trans c1
        have r2 := (bcell HB.out n0 2 hn3).trans c2
        have hB3' : w3.heap.size ≤ w3.heap.size := Nat.le_refl _
        have HBr : Hid (Below w3.heap.size w3 wr) := by rw [← HBB.out]; exact HB.out
        have HBW : Hid (Below w.heap.size w wr) := HBW3.out.trans (HBr.out.mono HBW3.out.size)
        have HCr := Lib.hid (HC3.out.below HBr.out)
        have rn : n0 < wr.heap.size := by have := HBr.out.size; have := HBB.out; omega
        have P26 := fun F w h => probe_ca F w b s W ln xst h HVB.out z hz0 hzw
        by_cases hk0 : k = 0
        · subst hk0
          have hmiss := reuse_miss HIST.out HVB.out (by omega) hz0 (by rw [← HY.out]; simpa using HN.out)
          rw [hmiss] at P26
          clear hmiss
          go_wp2_with (go_at_call 26; (with_reducible refine (P26 _ _ HCr.out).mono ?_); rintro e w5 ⟨rfl, hb5⟩; have HB5 := Lib.hid hb5; clear hb5)
          go_ret
          exact ⟨rfl, HBW.out.trans (HB5.out.mono HBW.out.size)⟩
        · obtain ⟨m, rfl⟩ : ∃ m, k = m + 1 := ⟨k - 1, by omega⟩
          have hmt : m < l.length := by omega
          obtain ⟨b1, off, rfl, hlb, hc⟩ := HU.out.at HBW.out hmt
          have hx63 := HIL.out.get hmt
          have hx100 : l.getD m 0 ≤ 100000 := HGL.out _ (getD_memI _ hmt)
          have hld := linesOf_drop ln l m hmt
          obtain ⟨x, hx⟩ : ∃ x, x = l.getD m 0 := ⟨_, rfl⟩
          rw [← hx] at hc hx63 hx100 hld
          have HX := Lib.hid hx
          have HLD := Lib.hid hld
          have C15 := fun w => line_any s W ln x hx63 w
          have hm1 : ((m + 1 : Nat) : Int) - 1 = m := by omega
          have hmm : (m : Int) ≤ 1000000 := by omega
          have hm0 : (0 : Int) ≤ m := by omega
          have hml : (m : Int) < l.length := by omega
          have hbl : b1 < wr.heap.size := Nat.lt_of_lt_of_le hlb HBW.out.size
          have hmk : (0 : Int) ≤ ((m : Int) + 1) - 1 := by omega
          rw [hm1]
          clear hx hld hm1 hk0
          by_cases hx0 : 0 ≤ x
          · rw [lineF_ok HVB.out hx0] at C15
            obtain ⟨x0, x1⟩ := div_le (ln := ln) hx0
            have C17x := fun w => set_any s W ln (x / ln) (by omega) w
            obtain ⟨lv, hlv⟩ : ∃ lv, lv = x / ln := ⟨_, rfl⟩
            obtain ⟨qx, hqx⟩ : ∃ qx, qx = setF s W ln (x / ln) := ⟨_, rfl⟩
            rw [← hqx, ← hlv] at C17x
            rw [← hlv] at C15 x0 x1
            have HLV := Lib.hid hlv
            have HQX := Lib.hid hqx
            clear hlv hqx
            by_cases heq : lv = y
            · have q1 : (lv == y) = true := by simpa using heq
              have hhit := reuse_hit HIST.out HVB.out (by omega) hz0 hmt (by rw [← HX.out]; exact hx0) (by rw [← HX.out, ← HLV.out, heq, HY.out]) (by rw [← HY.out]; exact HN.out)
              rw [← HQ.out] at hhit
              have HHIT := Lib.hid hhit
              clear heq hhit
              go_wp2
              go_region_held3 (fun w' => w'.cell? ⟨n0, 0, none⟩ = some (.int .i64 s) ∧ w'.cell? ⟨n0, 1, none⟩ = some (.int .i64 W) ∧ w'.cell? ⟨n0, 2, none⟩ = some (.int .i64 ln) ∧ w'.cell? ⟨b1, off + m, none⟩ = some (.int .i64 x)) (go_keep) (first
                  | (go_at_call 15; (with_reducible refine (C15 _).mono ?_); rintro e w5 ⟨rfl, hb5⟩; have k5 := fun o => bcell hb5 n0 o rn; have k6 := bcell hb5 b1 (off + m) hbl))
              have HB5 : Hid (Below wr.heap.size wr w5) := (Below.refl _ _).drew.trans hb5
              have t0 := (k5 0).trans r0
              have t1 := (k5 1).trans r1
              have t2 := (k5 2).trans r2
              have rn5 : n0 < w5.heap.size := Nat.lt_of_lt_of_le rn hb5.size
              have HC5 := Lib.hid (HCr.out.below HB5.out)
              have HO5 := Lib.hid (HO.out.below HB5.out)
              have HBW5 : Hid (Below w.heap.size w w5) := HBW.out.trans (HB5.out.mono HBW.out.size)
              have HBB5 : Hid (Below B w3 w5) := HB.out.trans (HB5.out.mono (by have := HBB.out; have := HBr.out.size; omega))
              clear k5 k6 r0 r1 r2 hb5
              try clear hHeld
              obtain ⟨es, clock, he, hes⟩ := HO5.out.heap
              rw [size_others] at hes
              have HES := Lib.hid hes
              have hlB : B < w5.heap.size := lt_of_heap he
              have hlen : ∀ w : World, w.heap[B]? = some (.map es clock) → (Builtin.len_ #[44] 3 #[.map (some B)]).run Try.prog w = .ok (.int .i64 (es.size : Int)) w := fun w h => len_map h
              have he' : w5.drew.heap[B]? = some (.map es clock) := he
              have P := P26 _ w5.drew (HC5.out.below (Below.refl _ _).drew)
              rw [HHIT.out, ← HES.out] at P
              clear hes
              by_cases hcmp : es.size < W
              · have q2 : decide ((es.size : Int) < (W : Int)) = true := decide_eq_true (by omega)
                have q3 : decide (es.size < W) = true := decide_eq_true hcmp
                rw [q3] at P
                go_wp2
                go_region_held3 (fun w' => w'.cell? ⟨n0, 0, none⟩ = some (.int .i64 s) ∧ w'.cell? ⟨n0, 1, none⟩ = some (.int .i64 W) ∧ w'.cell? ⟨n0, 2, none⟩ = some (.int .i64 ln) ∧ w'.heap[B]? = some (.map es clock)) (go_keep) (first
                  | (go_at_call 26; (with_reducible refine P.mono ?_); rintro e w6 ⟨rfl, hb6⟩; have k7 := fun o => bcell hb6 n0 o rn5; have k8 : w6.heap[B]? = some (.map es clock) := (hb6.block B hlB).trans he))
                go_wp2
                go_ret
                exact ⟨rfl, HBW5.out.trans ((((Below.refl _ _).drew).trans hb6).mono HBW5.out.size)⟩
              · have q2 : decide ((es.size : Int) < (W : Int)) = false := decide_eq_false (by omega)
                have q3 : decide (es.size < W) = false := decide_eq_false hcmp
                rw [q3] at P
                go_wp2
                go_region_held3 (fun w' => w'.cell? ⟨n0, 0, none⟩ = some (.int .i64 s) ∧ w'.cell? ⟨n0, 1, none⟩ = some (.int .i64 W) ∧ w'.cell? ⟨n0, 2, none⟩ = some (.int .i64 ln) ∧ w'.heap[B]? = some (.map es clock)) (go_keep) (first
                  | (go_at_call 26; (with_reducible refine P.mono ?_); rintro e w6 ⟨rfl, hb6⟩; have k7 := fun o => bcell hb6 n0 o rn5; have k8 : w6.heap[B]? = some (.map es clock) := (hb6.block B hlB).trans he))
                go_wp2
                go_ret
                exact ⟨rfl, HBW5.out.trans ((((Below.refl _ _).drew).trans hb6).mono HBW5.out.size)⟩
            · have q1 : (lv == y) = false := by simpa using heq
              have HNE := Lib.hid heq
              clear heq
              go_wp2
              go_region_held3 (fun w' => w'.cell? ⟨n0, 0, none⟩ = some (.int .i64 s) ∧ w'.cell? ⟨n0, 1, none⟩ = some (.int .i64 W) ∧ w'.cell? ⟨n0, 2, none⟩ = some (.int .i64 ln) ∧ w'.cell? ⟨b1, off + m, none⟩ = some (.int .i64 x)) (go_keep) (first
                  | (go_at_call 15; (with_reducible refine (C15 _).mono ?_); rintro e w5 ⟨rfl, hb5⟩; have k5 := fun o => bcell hb5 n0 o rn; have k6 := bcell hb5 b1 (off + m) hbl))
              have HB5 : Hid (Below wr.heap.size wr w5) := (Below.refl _ _).drew.trans hb5
              have t0 := (k5 0).trans r0
              have t1 := (k5 1).trans r1
              have t2 := (k5 2).trans r2
              have rn5 : n0 < w5.heap.size := Nat.lt_of_lt_of_le rn hb5.size
              have HC5 := Lib.hid (HCr.out.below HB5.out)
              have HO5 := Lib.hid (HO.out.below HB5.out)
              have HBW5 : Hid (Below w.heap.size w w5) := HBW.out.trans (HB5.out.mono HBW.out.size)
              have HBB5 : Hid (Below B w3 w5) := HB.out.trans (HB5.out.mono (by have := HBB.out; have := HBr.out.size; omega))
              clear k5 k6 r0 r1 r2 hb5
              try clear hHeld
              have tok1 : True := trivial
              have rnB : B ≤ w5.heap.size := by have := HBB5.out.size; have := HBB.out; omega
              have HN' : Hid (y ∉ linesOf ln (l.drop m)) := by
                show y ∉ _
                rw [← List.mem_reverse, HLD.out, if_pos hx0, List.mem_append, List.mem_reverse, List.mem_singleton]
                rintro (h | h)
                · exact HN.out h
                · exact HNE.out (HLV.out.trans h.symm)
              have hkey : keyOf Try.prog 3 (.int .i64 lv) = some (.int .i64 lv) := keyOf_int_mk Try.underlying3 (by
                simp only [Lit.wf, Bool.and_eq_true, decide_eq_true_eq]
                exact ⟨(by show (-9223372036854775808 : Int) ≤ lv; omega), (by show lv ≤ (9223372036854775807 : Int); omega)⟩)
              by_cases hqq : qx = q
              · have q2 : (qx == q) = true := by simpa using hqq
                have HQQ := Lib.hid hqq
                clear hqq
                go_wp2
                go_region_held3 (fun w' => w'.cell? ⟨n0, 0, none⟩ = some (.int .i64 s) ∧ w'.cell? ⟨n0, 1, none⟩ = some (.int .i64 W) ∧ w'.cell? ⟨n0, 2, none⟩ = some (.int .i64 ln)) (go_keep) (first
                  | (go_at_call 17; have _t := tok1; (with_reducible refine (C17x _).mono ?_); rintro e w6 ⟨rfl, hb6⟩; clear tok1 _t; have k7 := fun o => bcell hb6 n0 o rn5; have rn6 := Nat.lt_of_lt_of_le (show n0 < _ from rn5) hb6.size)
                  | (go_at_call 17; (with_reducible refine (C17 _).mono ?_); rintro e w7 ⟨rfl, hb7⟩; have k9 := fun o => bcell hb7 n0 o rn6))
                have HB7 : Hid (Below w5.heap.size w5 w7) := (((Below.refl _ _).drew).trans hb6).trans (hb7.mono hb6.size)
                have HO7 := Lib.hid (HO5.out.below HB7.out)
                have HBB7 : Hid (Below B w3 w7) := HBB5.out.trans (HB7.out.mono rnB)
                clear k7 k9 hb6 hb7 t0 t1 t2
                try clear hHeld
                go_wp2_with (at_mapUpdate; refine wpList_mapUpdate_own _ rfl _ _ _ 44 rfl 3 4 law3 Try.underlying44 (plainElem (H := Unit) Try.prog 4) B _ _ rfl HO7.out (by unfold maxLen; omega) _ _ _ rfl rfl hkey _ [] (plainElem_bool Try.underlying4 true) ?_; intro w8 hown1 hgrow1; have HOW := Lib.hid hown1; have HGR := Lib.hid hgrow1; clear hown1 hgrow1)
                go_roundw
                case rel =>
                  refine ⟨m, by omega, by first | rfl | go_num, ?_, HN'.out, ?_⟩
                  · show OM _ _ _ _
                    rw [HLD.out, if_pos hx0, ← HLV.out, List.filter_append, List.filter_cons, if_pos (by unfold inSet; rw [HLV.out, ← HQX.out]; exact decide_eq_true HQQ.out), List.filter_nil]
                    have h1 := HOW.out
                    rw [← setOf_snoc] at h1
                    unfold OM
                    have e1 : l.length - m = l.length - (m + 1) + 1 := by omega
                    rw [e1]
                    simpa [lits] using h1
                  · exact HBB7.out.grown HGR.out (by have := HBB7.out.size; have := HBB.out; omega) (fun k hk => by injection hk with hk; omega)
                case measure => simp [intOf]
              · have q2 : (qx == q) = false := by simpa using hqq
                have HQQ := Lib.hid hqq
                clear hqq
                go_wp2
                go_region_held3 (fun w' => w'.cell? ⟨n0, 0, none⟩ = some (.int .i64 s) ∧ w'.cell? ⟨n0, 1, none⟩ = some (.int .i64 W) ∧ w'.cell? ⟨n0, 2, none⟩ = some (.int .i64 ln)) (go_keep) (first
                  | (go_at_call 17; have _t := tok1; (with_reducible refine (C17x _).mono ?_); rintro e w6 ⟨rfl, hb6⟩; clear tok1 _t; have k7 := fun o => bcell hb6 n0 o rn5; have rn6 := Nat.lt_of_lt_of_le (show n0 < _ from rn5) hb6.size)
                  | (go_at_call 17; (with_reducible refine (C17 _).mono ?_); rintro e w7 ⟨rfl, hb7⟩; have k9 := fun o => bcell hb7 n0 o rn6))
                have HB7 : Hid (Below w5.heap.size w5 w7) := (((Below.refl _ _).drew).trans hb6).trans (hb7.mono hb6.size)
                have HO7 := Lib.hid (HO5.out.below HB7.out)
                have HBB7 : Hid (Below B w3 w7) := HBB5.out.trans (HB7.out.mono rnB)
                clear k7 k9 hb6 hb7 t0 t1 t2
                try clear hHeld
                go_wp2
                go_roundw
                case rel =>
                  refine ⟨m, by omega, by first | rfl | go_num, ?_, HN'.out, HBB7.out⟩
                  show OM _ _ _ _
                  rw [HLD.out, if_pos hx0, ← HLV.out, List.filter_append, List.filter_cons, if_neg (by unfold inSet; rw [HLV.out, ← HQX.out]; simpa using HQQ.out), List.filter_nil, List.append_nil]
                  exact HO7.out.mono (by omega)
                case measure => simp [intOf]
          · have el : lineF s W ln x = -1 := by unfold lineF; rw [if_neg (fun h => hx0 h.2)]
            rw [el] at C15
            have q1 : ((-1 : Int) == y) = false := by simp; omega
            clear el
            go_wp2
            go_region_held3 (fun w' => w'.cell? ⟨n0, 0, none⟩ = some (.int .i64 s) ∧ w'.cell? ⟨n0, 1, none⟩ = some (.int .i64 W) ∧ w'.cell? ⟨n0, 2, none⟩ = some (.int .i64 ln) ∧ w'.cell? ⟨b1, off + m, none⟩ = some (.int .i64 x)) (go_keep) (first
                | (go_at_call 15; (with_reducible refine (C15 _).mono ?_); rintro e w5 ⟨rfl, hb5⟩; have k5 := fun o => bcell hb5 n0 o rn; have k6 := bcell hb5 b1 (off + m) hbl))
            have HB5 : Hid (Below wr.heap.size wr w5) := (Below.refl _ _).drew.trans hb5
            have t0 := (k5 0).trans r0
            have t1 := (k5 1).trans r1
            have t2 := (k5 2).trans r2
            have rn5 : n0 < w5.heap.size := Nat.lt_of_lt_of_le rn hb5.size
            have HC5 := Lib.hid (HCr.out.below HB5.out)
            have HO5 := Lib.hid (HO.out.below HB5.out)
            have HBW5 : Hid (Below w.heap.size w w5) := HBW.out.trans (HB5.out.mono HBW.out.size)
            have HBB5 : Hid (Below B w3 w5) := HB.out.trans (HB5.out.mono (by have := HBB.out; have := HBr.out.size; omega))
            clear k5 k6 r0 r1 r2 hb5
            try clear hHeld
            go_wp2
            go_quiet (fail)
            go_wp2
            go_roundw
            case rel =>
              refine ⟨m, by omega, by first | rfl | go_num, ?_, ?_, HBB5.out.trans (Below.drewN_ _ _)⟩
              · show OM _ _ _ _
                rw [HLD.out, if_neg (by omega), List.append_nil]
                exact (HO5.out.below (Below.drewN_ _ _)).mono (by omega)
              · show y ∉ _
                rw [← List.mem_reverse, HLD.out, if_neg (by omega), List.append_nil, List.mem_reverse]
                exact HN.out
            case measure => simp [intOf]
    · have hz2 : 100000 < z := by omega
      go_wp2_with (first
        | (go_at_call 19; (with_reducible refine (C19 _ HB1.out).mono ?_); rintro e w2 ⟨hb, b, rfl, hc2⟩; obtain ⟨c0, c1, c2, hn, hb0⟩ := step_box hb c0 c1 c2 hn hb0; have HC2 := Lib.hid hc2; have HB2 : Hid (Below w.heap.size w w2) := (by rw [← HN0.out]; exact hb0); clear hc2)
        | (go_at_call 20; (with_reducible refine (C20 _ (HU.out.below HB2.out)).mono ?_); rintro e w' ⟨rfl, rfl⟩))
      all_goals
        go_ret
        exact ⟨rfl, HB2.out⟩
  · have hz2 : z < 0 := by omega
    go_wp2_with (first
      | (go_at_call 19; (with_reducible refine (C19 _ HB1.out).mono ?_); rintro e w2 ⟨hb, b, rfl, hc2⟩; obtain ⟨c0, c1, c2, hn, hb0⟩ := step_box hb c0 c1 c2 hn hb0; have HC2 := Lib.hid hc2; have HB2 : Hid (Below w.heap.size w w2) := (by rw [← HN0.out]; exact hb0); clear hc2)
      | (go_at_call 20; (with_reducible refine (C20 _ (HU.out.below HB2.out)).mono ?_); rintro e w' ⟨rfl, rfl⟩))
    all_goals
      go_ret
      exact ⟨rfl, HB2.out⟩

theorem cacheReuse_walk (S W L : Int) (u : Value) (l : List Int) (z : Int) (w : World) (hu : RdK w .i64 u l) (hl : l.length ≤ 9223372036854775807) (wl : ∀ n ∈ l, (Lit.int .i64 n).wf = true) (wz : (Lit.int .i64 z).wf = true) :
    Calls Try.prog 7 #[.agg #[.int .i64 S, .int .i64 W, .int .i64 L], u, .int .i64 z] w fun e w' => e = .returned (.bool true) ∧ Below w.heap.size w w' := by
  cases hv : valB S W L with
  | false => exact reuse_bad S W L z hv u l w hu hl
  | true =>
    obtain ⟨-, -, h1, h2, h3, h4, h5, h6⟩ := valB_spec hv
    obtain ⟨s, rfl⟩ := Int.eq_ofNat_of_zero_le (show 0 ≤ S by omega)
    obtain ⟨wy, rfl⟩ := Int.eq_ofNat_of_zero_le (show 0 ≤ W by omega)
    obtain ⟨ln, rfl⟩ := Int.eq_ofNat_of_zero_le (show 0 ≤ L by omega)
    exact reuse_good s wy ln z (wf_i64 wz) hv u l w hu hl (wf_i64s wl)

end Go.Proofs.Ytgbmbehobemocaa
