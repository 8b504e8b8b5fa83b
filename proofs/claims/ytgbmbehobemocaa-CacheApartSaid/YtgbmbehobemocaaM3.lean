/- CacheFlushes is true. -/
import Derived.Test.YtgbmbehobemocaaM2
namespace Go.Proofs.Ytgbmbehobemocaa
open Go.RowKit
set_option linter.unusedVariables false
set_option linter.unusedSimpArgs false

/-- What holds after i accesses, k misses and f flushes. -/
structure Fl (s W ln : Nat) (l : List Int) (i k f q : Nat) (yss : List (List Int)) : Prop where
  pre : Pre s W (runF s W ln (emptyF s) (l.take i)) yss
  lo : missN s W ln (emptyF s) (l.take i) ≤ k
  hi : k + tot (runF s W ln (emptyF s) (l.take i)) ≤ missN s W ln (emptyF s) (l.take i) + f * (s * W) + tot yss
  ki : k ≤ i
  fi : f ≤ 20 * i + q

theorem Fl.zero (s W ln : Nat) (l : List Int) : Fl s W ln l 0 0 0 0 (emptyF s) :=
  ⟨Pre.refl (by simp [runF, emptyF]) (by simpa [runF] using empty_len s W), by simp [missN], by simp [runF, missN], Nat.le_refl _, by omega⟩

theorem Fl.flush {s W ln : Nat} {l : List Int} {i k f q : Nat} {yss : List (List Int)} (h : Fl s W ln l i k f q yss) : Fl s W ln l i k (f + 1) (q + 1) (emptyF s) := by
  refine ⟨h.pre.flush, h.lo, ?_, h.ki, by have := h.fi; omega⟩
  have h1 := h.hi
  have h2 := tot_le (W := W) yss (fun ys hy => by
    obtain ⟨j, hj, rfl⟩ := List.getElem_of_mem hy
    have hjs : j < s := by rw [← h.pre.ly]; exact hj
    have hp := (h.pre.pre j hjs).length_le
    rw [List.getD_eq_getElem?_getD, List.getElem?_eq_getElem hj] at hp
    have hjx : j < (runF s W ln (emptyF s) (l.take i)).length := by rw [h.pre.lx]; exact hjs
    rw [List.getD_eq_getElem?_getD, List.getElem?_eq_getElem hjx] at hp
    exact Nat.le_trans hp (h.pre.len _ (List.getElem_mem hjx)))
  rw [h.pre.ly] at h2
  rw [tot_empty, Nat.add_mul]
  omega
theorem Fl.stay {s W ln : Nat} {l : List Int} {i k f q : Nat} {yss : List (List Int)} (h : Fl s W ln l i k f q yss) : Fl s W ln l i k f (q + 1) yss := ⟨h.pre, h.lo, h.hi, h.ki, by have := h.fi; omega⟩

theorem Fl.step {s W ln : Nat} {l : List Int} {i k f q : Nat} {yss : List (List Int)} (hs : 1 ≤ s) (hW : 1 ≤ W) (h : Fl s W ln l i k f q yss) (hq : q ≤ 20) (hi : i < l.length) :
    Fl s W ln l (i + 1) (k + (if 0 ≤ l.getD i 0 ∧ hitB s ln yss (l.getD i 0) = false then 1 else 0)) f 0 (accF s W ln yss (l.getD i 0)) := by
  obtain ⟨h1, h2, h3⟩ := h.pre.step (ln := ln) hs hW (l.getD i 0)
  have e1 := runF_snoc s W ln (emptyF s) l i hi
  have e2 := missN_snoc s W ln (emptyF s) l i hi
  have l1 := h.lo
  have l2 := h.hi
  have l3 := h.ki
  have l4 := h.fi
  refine ⟨by rw [e1]; exact h1, ?_, ?_, ?_, by omega⟩
  · rw [e2]
    have : (if 0 ≤ l.getD i 0 ∧ hitB s ln (runF s W ln (emptyF s) (l.take i)) (l.getD i 0) = false then 1 else 0) ≤ (if 0 ≤ l.getD i 0 ∧ hitB s ln yss (l.getD i 0) = false then 1 else 0) := by
      by_cases ha : 0 ≤ l.getD i 0
      · cases hx : hitB s ln (runF s W ln (emptyF s) (l.take i)) (l.getD i 0) with
        | true => simp
        | false =>
          have : hitB s ln yss (l.getD i 0) = false := by
            cases hy : hitB s ln yss (l.getD i 0) with
            | true => rw [h2 hy] at hx; cases hx
            | false => rfl
          rw [if_pos ⟨ha, rfl⟩, if_pos ⟨ha, this⟩]
          exact Nat.le_refl _
      · rw [if_neg (fun h => ha h.1), if_neg (fun h => ha h.1)]
        exact Nat.le_refl _
    omega
  · rw [e1, e2]
    omega
  · split <;> omega

theorem flush_o (n0 : Nat) (w : World) (b s wy ln : Nat) (xss : List (List Int)) (h : Ca w (fun k => n0 ≤ k) b s wy ln xss) (hn : n0 ≤ w.heap.size) (hv : valB s wy ln = true) :
    Calls Try.prog 22 #[.pointer (some ⟨b, 0, none⟩)] w fun e w' => e = .returned (.tuple #[]) ∧ Below n0 w w' ∧ Ca w' (fun k => n0 ≤ k) b s wy ln (emptyF s) := by
  refine (flush_ca _ w b s wy ln xss h hv).mono ?_
  rintro e w' ⟨rfl, hf, hc⟩
  exact ⟨rfl, hf.below hn (fun k hk => hk), hc.mono (fun k hk => by omega)⟩

theorem rd_nil (w : World) (k : IntKind) : RdK w k (.slice none 0 0) [] := ⟨none, 0, rfl, .inl rfl⟩
theorem i64s_nil : I64s [] := fun x hx => by simp at hx

theorem flushes_bad (S W L : Int) (hv : valB S W L = false) (u : Value) (l : List Int) (A : Option Addr) (n c : Nat) (w : World) (hu : RdI w u l) (hl : l.length ≤ 9223372036854775807) :
    Calls Try.prog 4 #[.agg #[.int .i64 S, .int .i64 W, .int .i64 L], u, .slice A n c] w fun e w' => e = .returned (.bool true) ∧ Below w.heap.size w w' := by
  obtain ⟨B, d, rfl⟩ := hu.slice
  have C19 := fun v w => made_bad S W L v w hv
  have C20 := fun w h => great_any w (.slice B l.length d) l h hl
  obtain ⟨g1, hg1⟩ : ∃ g1, g1 = greatB l := ⟨_, rfl⟩
  rw [← hg1] at C20
  have HU := Lib.hid hu
  clear hv hu hg1
  go_enter Try.func4, Try.ntmps4
  go_wp2_with (fail)
  obtain ⟨wb, hwb⟩ : ∃ wb, wb = w.alloc (.cells #[.int .i64 S, .int .i64 W, .int .i64 L] 23) := ⟨_, rfl⟩
  obtain ⟨n0, hn0⟩ : ∃ n0, n0 = w.heap.size := ⟨_, rfl⟩
  have hw0 : wb.cell? ⟨n0, 0, none⟩ = some (.int .i64 S) ∧ wb.cell? ⟨n0, 1, none⟩ = some (.int .i64 W) ∧ wb.cell? ⟨n0, 2, none⟩ = some (.int .i64 L) ∧ n0 < wb.heap.size ∧ Below n0 w wb := by
    rw [hwb, hn0]
    exact ⟨by simp, by simp, by simp, by simp, (Below.refl _ _).alloc (Nat.le_refl _) _⟩
  rw [← hwb, ← hn0]
  have HN0 := Lib.hid hn0
  clear hwb hn0
  obtain ⟨c0, c1, c2, hn, hb0⟩ := hw0
  refine (awake_any wb).mono ?_
  rintro e w1 ⟨rfl, hb⟩
  obtain ⟨c0, c1, c2, hn, hb0⟩ := step_box hb c0 c1 c2 hn hb0
  have hle : n0 ≤ w1.heap.size := by omega
  go_wp2_with (fail)
  have tok1 : True := trivial
  have D19 := C19 (.slice none 0 0)
  go_region_held3 (fun w' => w'.cell? ⟨n0, 0, none⟩ = some (.int .i64 S) ∧ w'.cell? ⟨n0, 1, none⟩ = some (.int .i64 W) ∧ w'.cell? ⟨n0, 2, none⟩ = some (.int .i64 L)) (go_keep) (first
      | (go_at_call 19; have _t := tok1; (with_reducible refine (D19 _).mono ?_); rintro e w2 ⟨rfl, hb2⟩; clear tok1 _t; have k2 := fun o => bcell hb2 n0 o hn; have hn := Nat.lt_of_lt_of_le (show n0 < _ from hn) hb2.size; have hB2 : Below n0 w w2 := hb0.drew.trans (hb2.mono hle); have hle2 : n0 ≤ w2.heap.size := Nat.le_trans hle hb2.size)
      | (go_at_call 19; (with_reducible refine (C19 _ _).mono ?_); rintro e w3 ⟨rfl, hb3⟩; have k3 := fun o => bcell hb3 n0 o hn; have hB3 : Below w.heap.size w w3 := (by rw [← HN0.out]; exact hB2.trans (hb3.mono hle2))))
  go_wp2_with (go_at_call 20; (with_reducible refine (C20 _ (HU.out.below hB3)).mono ?_); rintro e w' ⟨rfl, rfl⟩)
  all_goals
    go_ret
    exact ⟨rfl, hB3⟩

set_option maxHeartbeats 2000000 in
theorem flushes_good (s W ln : Nat) (hv : valB s W ln = true) (u v : Value) (l r : List Int) (w : World) (hu : RdI w u l) (hr : RdK w .u8 v r) (hl : l.length ≤ 9223372036854775807) (hrl : r.length ≤ 9223372036854775807) (hil : I64s l) (hir : ∀ x ∈ r, 0 ≤ x ∧ x ≤ 255) :
    Calls Try.prog 4 #[.agg #[.int .i64 s, .int .i64 W, .int .i64 ln], u, v] w fun e w' => e = .returned (.bool true) ∧ Below w.heap.size w w' := by
  obtain ⟨A, c, rfl⟩ := hu.slice
  obtain ⟨B, d, rfl⟩ := hr.slice
  have C19 := fun w1 hB => made_ok s W ln (.slice none 0 0) [] w w1 hv (rd_nil w .i64) hB (by simp) i64s_nil
  have C20 := fun w h => great_any w (.slice A l.length c) l h hl
  obtain ⟨g1, hg1⟩ : ∃ g1, g1 = greatB l := ⟨_, rfl⟩
  rw [← hg1] at C20
  have HU := Lib.hid hu
  have HV := Lib.hid hr
  have HVB := Lib.hid hv
  have HIL := Lib.hid hil
  have HIR := Lib.hid hir
  have HG1 := Lib.hid hg1
  obtain ⟨-, -, hs1, hs2, hW1, hW2, -⟩ := valB_spec hv
  clear hv hu hr hg1 hil hir
  go_enter Try.func4, Try.ntmps4
  go_wp2_with (fail)
  obtain ⟨wb, hwb⟩ : ∃ wb, wb = w.alloc (.cells #[.int .i64 s, .int .i64 W, .int .i64 ln] 23) := ⟨_, rfl⟩
  obtain ⟨n0, hn0⟩ : ∃ n0, n0 = w.heap.size := ⟨_, rfl⟩
  have hw0 : wb.cell? ⟨n0, 0, none⟩ = some (.int .i64 s) ∧ wb.cell? ⟨n0, 1, none⟩ = some (.int .i64 W) ∧ wb.cell? ⟨n0, 2, none⟩ = some (.int .i64 ln) ∧ n0 < wb.heap.size ∧ Below n0 w wb := by
    rw [hwb, hn0]
    exact ⟨by simp, by simp, by simp, by simp, (Below.refl _ _).alloc (Nat.le_refl _) _⟩
  rw [← hwb, ← hn0]
  have HN0 := Lib.hid hn0
  clear hwb hn0
  obtain ⟨c0, c1, c2, hn, hb0⟩ := hw0
  refine (awake_any wb).mono ?_
  rintro e w1 ⟨rfl, hb⟩
  obtain ⟨c0, c1, c2, hn, hb0⟩ := step_box hb c0 c1 c2 hn hb0
  have hle : n0 ≤ w1.heap.size := by omega
  go_wp2_with (fail)
  have tok1 : True := trivial
  have hB1 : Below w.heap.size w w1.drew := by rw [← HN0.out]; exact hb0.drew
  have D19 := C19 w1.drew hB1
  clear hB1
  go_region_held3 (fun w' => w'.cell? ⟨n0, 0, none⟩ = some (.int .i64 s) ∧ w'.cell? ⟨n0, 1, none⟩ = some (.int .i64 W) ∧ w'.cell? ⟨n0, 2, none⟩ = some (.int .i64 ln)) (go_keep) (first
      | (go_at_call 19; have _t := tok1; (with_reducible refine D19.mono ?_); rintro e w2 ⟨hb2, b, rfl, hc2⟩; clear tok1 _t; have k2 := fun o => bcell hb2 n0 o hn; have hn := Nat.lt_of_lt_of_le (show n0 < _ from hn) hb2.size; have hB2 : Below n0 w w2 := hb0.drew.trans (hb2.mono hle); have hle2 : n0 ≤ w2.heap.size := Nat.le_trans hle hb2.size; have hB2' : Below w.heap.size w w2 := (by rw [← HN0.out]; exact hB2); have HC2 := Lib.hid hc2; clear hc2)
      | (go_at_call 19; (with_reducible refine (C19 _ hB2').mono ?_); rintro e w3 ⟨hb3, b', rfl, hc3⟩; have k3 := fun o => bcell hb3 n0 o hn; have hB3 : Below w.heap.size w w3 := (by rw [← HN0.out]; exact hB2.trans (hb3.mono hle2)); have HC3 := Lib.hid hc3; clear hc3))
  have s1 : w1.heap.size ≤ w2.heap.size := hb2.size
  have s2 := hb3.size
  have x3 := HC2.out.keep (G := fun _ => False) (Fr.of_below hb3) (fun _ _ h => h)
  have HX3 := Lib.hid x3
  have HB3 := Lib.hid hB3
  have K0 : Hid (w3.cell? ⟨n0, 0, none⟩ = some (.int .i64 s)) := (k3 0).trans ((k2 0).trans c0)
  have K1 : Hid (w3.cell? ⟨n0, 1, none⟩ = some (.int .i64 W)) := (k3 1).trans ((k2 1).trans c1)
  have hn3 : n0 < w3.heap.size := Nat.lt_of_lt_of_le hn hb3.size
  have hn1 : n0 < w1.heap.size := by assumption
  have hws : w.heap.size ≤ w1.heap.size := by rw [← HN0.out]; omega
  clear x3 hB3 hb3 hb2 k2 k3 c0 c1 c2 hB2 hB2' hb0 hb C19 D19
  try clear hHeld
  go_wp2_with (go_at_call 20; (with_reducible refine (C20 _ (HU.out.below HB3.out)).mono ?_); rintro e w' ⟨rfl, rfl⟩)
  · go_ret
    exact ⟨rfl, HB3.out⟩
  case' _ => skip
  rotate_left
  · go_ret
    exact ⟨rfl, HB3.out⟩
  have g1f : g1 = false := Bool.eq_false_iff.2 (by assumption)
  have hr20 : (r.length : Int) ≤ 20 := by assumption
  obtain ⟨gl1, -⟩ := great_spec (HG1.out.symm.trans g1f)
  clear g1f
  have MX := misses_any _ b s W ln _ (.slice A l.length c) l w w3 HX3.out HVB.out HU.out HB3.out (fun k hk => by simp at hk; omega) (by omega) HIL.out
  refine MX.mono ?_
  rintro e w4 ⟨rfl, hc4, hf4⟩
  have y4 := HC3.out.keep hf4 (fun k hk hk2 => by simp at hk2; omega)
  have sz4 := hf4.size
  have hk4 : w4.heap[n0]? = w3.heap[n0]? := hf4.block n0 hn3 (fun hk => by simp at hk; omega)
  have HY4 : Hid (Ca w4 (fun k => w1.heap.size ≤ k) b' s W ln (emptyF s)) := by
    have := y4.mono (G := fun k => w1.heap.size ≤ k) (fun k hk => by omega)
    show Ca _ _ _ _ _ _ _
    simpa [runF] using this
  have HB4 : Hid (Below w1.heap.size w3 w4) := hf4.below (by omega) (fun k hk => by simp at hk; omega)
  have HK4 := Lib.hid hk4
  clear MX hc4 hf4 y4 hk4
  obtain ⟨nn, hnn⟩ : ∃ nn, nn = missN s W ln (emptyF s) l := ⟨_, rfl⟩
  have hnl := missN_le s W ln l (emptyF s)
  have e0 : missN s W ln (runF s W ln (emptyF s) []) l = missN s W ln (emptyF s) l := rfl
  rw [e0, ← hnn]
  rw [← hnn] at hnl
  have HNN := Lib.hid hnn
  clear hnn e0
  obtain ⟨m1, hm1⟩ : ∃ m1, m1 = w1.heap.size := ⟨_, rfl⟩
  rw [← hm1] at HY4 HB4
  have hm1n : n0 < m1 := by omega
  have hm3 : m1 ≤ w3.heap.size := by omega
  have hwm : w.heap.size ≤ m1 := by omega
  clear hm1
  go_wp2
  go_loopw [10, 11, 42] (fun k f i wr => ∃ i' k' f' : Nat, ∃ yst, i' ≤ l.length ∧ i = .int .i64 i' ∧ k = .int .i64 k' ∧ f = .int .i64 f' ∧ Hid (Fl s W ln l i' k' f' 0 yst) ∧ Hid (Ca wr (fun k => m1 ≤ k) b' s W ln yst) ∧ Hid (Below m1 w4 wr)) (fun _ _ i _ => l.length - (intOf i).toNat)
  case atStart => exact ⟨0, 0, 0, emptyF s, by omega, rfl, rfl, rfl, Fl.zero s W ln l, HY4.out, Below.refl _ _⟩
  case round =>
    obtain ⟨i, k, f, yst, hi, rfl, rfl, rfl, HFL, HC, HB⟩ := hrel
    have hB : Below w.heap.size w wr := HB3.out.trans ((HB4.out.mono hwm).trans (HB.out.mono hwm))
    have HBW := Lib.hid hB
    clear hB
    have fk := HFL.out.ki
    have ff := HFL.out.fi
    have hmr : m1 ≤ wr.heap.size := Nat.le_trans (Nat.le_trans hm3 HB4.out.size) HB.out.size
    by_cases hlt : i < l.length
    · obtain ⟨b1, off, rfl, hlb, hc⟩ := HU.out.at HBW.out hlt
      obtain ⟨x, hx⟩ : ∃ x, x = l.getD i 0 := ⟨_, rfl⟩
      have hx63 := HIL.out.get hlt
      rw [← hx] at hc hx63
      have HX := Lib.hid hx
      clear hx
      go_wp2
      obtain ⟨wo, rfl⟩ : ∃ wo : World, wo = wr := ⟨_, rfl⟩
      go_loopw [11, 49] (fun f j wi => ∃ j' f' : Nat, ∃ yst, j' ≤ r.length ∧ j = .int .i64 j' ∧ f = .int .i64 f' ∧ Hid (Fl s W ln l i k f' j' yst) ∧ Hid (Ca wi (fun k => m1 ≤ k) b' s W ln yst) ∧ Hid (Below m1 w4 wi)) (fun _ j _ => r.length - (intOf j).toNat)
      case atStart => exact ⟨0, f, yst, by omega, rfl, rfl, HFL.out, HC.out, HB.out⟩
      case round =>
        obtain ⟨j, f', yst', hj, rfl, rfl, HFL', HC', HB'⟩ := hrel
        have hBi : Below w.heap.size w wr := HB3.out.trans ((HB4.out.mono hwm).trans (HB'.out.mono hwm))
        have ff' := HFL'.out.fi
        have hmi : m1 ≤ wr.heap.size := Nat.le_trans (Nat.le_trans hm3 HB4.out.size) HB'.out.size
        by_cases hjt : j < r.length
        · obtain ⟨b2, off2, rfl, hlb2, hcy⟩ := HV.out.at hBi hjt
          obtain ⟨y, hy⟩ : ∃ y, y = r.getD j 0 := ⟨_, rfl⟩
          have hyb : 0 ≤ y ∧ y ≤ 255 := by
            rw [hy, List.getD_eq_getElem?_getD, List.getElem?_eq_getElem hjt]
            exact HIR.out _ (List.getElem_mem hjt)
          obtain ⟨y0, y1⟩ := hyb
          rw [← hy] at hcy
          clear hy hBi
          by_cases heq : y = i
          · have q1 : (y == (i : Int)) = true := by simpa using heq
            have FL := flush_o m1 wr b' s W ln yst' HC'.out hmi HVB.out
            clear heq
            go_wp2_with (go_at_call 22; (with_reducible refine FL.mono ?_); rintro e w2 ⟨rfl, hb2, hc2⟩; have HC2' := Lib.hid hc2; have HB2' := Lib.hid hb2; clear hc2 hb2)
            go_roundw
            case rel => exact ⟨j + 1, f' + 1, _, by omega, by go_num, by go_num, HFL'.out.flush, HC2'.out, HB'.out.trans HB2'.out⟩
            case measure => simp [intOf]; omega
          · have q1 : (y == (i : Int)) = false := by simpa using heq
            clear heq
            go_wp2
            go_roundw
            case rel => exact ⟨j + 1, f', _, by omega, by go_num, rfl, HFL'.out.stay, HC'.out, HB'.out⟩
            case measure => simp [intOf]; omega
        · have hst := HFL'.out.step (by omega) (by omega) (by omega) hlt
          rw [← HX.out] at hst
          have HST := Lib.hid hst
          clear hst hBi
          by_cases hx0 : 0 ≤ x
          · have A1 := access_o m1 wr b' s W ln _ HC'.out hmi HVB.out x hx63
            cases hh : hitB s ln yst' x with
            | true =>
              unfold AccO at A1
              rw [hh] at A1
              have HHH := Lib.hid hh
              clear hh
              go_wp2_with (go_at_call 23; (with_reducible refine A1.mono ?_); rintro e w2 ⟨rfl, hc2, hb2⟩; have HC2' := Lib.hid hc2; have HB2' := Lib.hid hb2; clear hc2 hb2)
              go_roundw
              case rel =>
                have hz := HST.out
                rw [HHH.out, if_neg (by simp)] at hz
                exact ⟨i + 1, k, f', _, by omega, by go_num, rfl, rfl, hz, HC2'.out, HB'.out.trans HB2'.out⟩
              case measure => simp [intOf]; omega
            | false =>
              unfold AccO at A1
              rw [hh] at A1
              have HHH := Lib.hid hh
              clear hh
              go_wp2_with (go_at_call 23; (with_reducible refine A1.mono ?_); rintro e w2 ⟨rfl, hc2, hb2⟩; have HC2' := Lib.hid hc2; have HB2' := Lib.hid hb2; clear hc2 hb2)
              go_roundw
              case rel =>
                have hz := HST.out
                rw [HHH.out, if_pos ⟨hx0, rfl⟩] at hz
                exact ⟨i + 1, k + 1, f', _, by omega, by go_num, by go_num, rfl, hz, HC2'.out, HB'.out.trans HB2'.out⟩
              case measure => simp [intOf]; omega
          · go_wp2
            go_roundw
            case rel =>
              have hz := HST.out
              rw [if_neg (fun h => hx0 h.1), accF, if_neg hx0] at hz
              exact ⟨i + 1, k, f', _, by omega, by go_num, rfl, rfl, hz, HC'.out, HB'.out⟩
            case measure => simp [intOf]; omega
    · have hil : i = l.length := by omega
      subst hil
      have l1 := HFL.out.lo
      have l2 := HFL.out.hi
      have l3 := HFL.out.pre.tot
      rw [List.take_length] at l1 l2 l3
      rw [← HNN.out] at l1 l2
      have hp : s * W ≤ 64 * 8 := Nat.mul_le_mul (by omega) (by omega)
      have hfp : f * (s * W) ≤ 4000 * 512 := Nat.mul_le_mul (by omega) (by omega)
      have hfs : f * s ≤ 4000 * 64 := Nat.mul_le_mul (by omega) (by omega)
      have t1 : (0 : Int) ≤ (f : Int) * (s : Int) := by rw [← Int.natCast_mul]; omega
      have t2 : (f : Int) * (s : Int) ≤ 256000 := by rw [← Int.natCast_mul]; omega
      have e1 : (f : Int) * (s : Int) * (W : Int) = ((f * (s * W) : Nat) : Int) := by rw [Int.natCast_mul, Int.natCast_mul, Int.mul_assoc]
      have t3 : (0 : Int) ≤ (f : Int) * (s : Int) * (W : Int) := by rw [e1]; omega
      have t4 : (f : Int) * (s : Int) * (W : Int) ≤ 2048000 := by rw [e1]; omega
      have t5 : (k : Int) ≤ (nn : Int) + (f : Int) * (s : Int) * (W : Int) := by rw [e1]; omega
      have t6 : (nn : Int) ≤ k := by omega
      have t7 : (nn : Int) ≤ 200 := by omega
      have t8 : (k : Int) ≤ 200 := by omega
      have r0 : wr.cell? ⟨n0, 0, none⟩ = some (.int .i64 s) := ((bcell HB.out n0 0 hm1n).trans (World.cell?_of_block (a := ⟨n0, 0, none⟩) HK4.out)).trans K0.out
      have r1 : wr.cell? ⟨n0, 1, none⟩ = some (.int .i64 W) := ((bcell HB.out n0 1 hm1n).trans (World.cell?_of_block (a := ⟨n0, 1, none⟩) HK4.out)).trans K1.out
      clear l1 l2 l3 hp hfp hfs e1
      go_wp2
      go_ret
      exact ⟨rfl, HBW.out⟩

theorem cacheFlushes_walk (S W L : Int) (u : Value) (l : List Int) (v : Value) (r : List Int) (w : World) (hu : RdK w .i64 u l) (hl : l.length ≤ 9223372036854775807) (wl : ∀ n ∈ l, (Lit.int .i64 n).wf = true)
    (hr : RdK w .u8 v r) (hrl : r.length ≤ 9223372036854775807) (wr : ∀ n ∈ r, (Lit.int .u8 n).wf = true) :
    Calls Try.prog 4 #[.agg #[.int .i64 S, .int .i64 W, .int .i64 L], u, v] w fun e w' => e = .returned (.bool true) ∧ Below w.heap.size w w' := by
  cases hv : valB S W L with
  | false =>
    obtain ⟨B, d, rfl⟩ := hr.slice
    exact flushes_bad S W L hv u l B r.length d w hu hl
  | true =>
    obtain ⟨-, -, h1, h2, h3, h4, h5, h6⟩ := valB_spec hv
    obtain ⟨s, rfl⟩ := Int.eq_ofNat_of_zero_le (show 0 ≤ S by omega)
    obtain ⟨wy, rfl⟩ := Int.eq_ofNat_of_zero_le (show 0 ≤ W by omega)
    obtain ⟨ln, rfl⟩ := Int.eq_ofNat_of_zero_le (show 0 ≤ L by omega)
    exact flushes_good s wy ln hv u v l r w hu hr hl hrl (wf_i64s wl) (fun x hx => wf_u8 (wr x hx))

end Go.Proofs.Ytgbmbehobemocaa
