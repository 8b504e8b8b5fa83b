/- CacheFlush is true. -/
import Derived.Test.YtgbmbehobemocaaP
import Derived.Test.YtgbmbehobemocaaM1
namespace Go.Proofs.Ytgbmbehobemocaa
open Go.RowKit
set_option linter.unusedVariables false
set_option linter.unusedSimpArgs false

theorem great_spec {l : List Int} (h : greatB l = false) : l.length ≤ 200 ∧ ∀ x ∈ l, x ≤ 100000 := by
  unfold greatB at h
  rw [Bool.or_eq_false_iff] at h
  obtain ⟨h1, h2⟩ := h
  refine ⟨by simpa using h2, fun x hx => ?_⟩
  have := List.any_eq_false.1 h1 x hx
  simpa using this

theorem flush_bad (S W L : Int) (hv : valB S W L = false) (u v : Value) (l r : List Int) (w : World) (hu : RdI w u l) (hr : RdI w v r) (hl : l.length ≤ 9223372036854775807) (hrl : r.length ≤ 9223372036854775807) :
    Calls Try.prog 8 #[.agg #[.int .i64 S, .int .i64 W, .int .i64 L], u, v] w fun e w' => e = .returned (.bool true) ∧ Below w.heap.size w w' := by
  obtain ⟨A, c, rfl⟩ := hu.slice
  obtain ⟨B, d, rfl⟩ := hr.slice
  have C19 := fun v w => made_bad S W L v w hv
  have C20 := fun w h => great_any w (.slice A l.length c) l h hl
  have C20' := fun w h => great_any w (.slice B r.length d) r h hrl
  obtain ⟨g1, hg1⟩ : ∃ g1, g1 = greatB l := ⟨_, rfl⟩
  obtain ⟨g2, hg2⟩ : ∃ g2, g2 = greatB r := ⟨_, rfl⟩
  rw [← hg1] at C20
  rw [← hg2] at C20'
  have HU := Lib.hid hu
  have HV := Lib.hid hr
  clear hv hu hr hg1 hg2
  go_enter Try.func8, Try.ntmps8
  go_wp2_with (fail)
  obtain ⟨wb, hwb⟩ : ∃ wb, wb = w.alloc (.cells #[.int .i64 S, .int .i64 W, .int .i64 L] 23) := ⟨_, rfl⟩
  obtain ⟨n0, hn0⟩ : ∃ n0, n0 = w.heap.size := ⟨_, rfl⟩
  have hw0 : wb.cell? ⟨n0, 0, none⟩ = some (.int .i64 S) ∧ wb.cell? ⟨n0, 1, none⟩ = some (.int .i64 W) ∧ wb.cell? ⟨n0, 2, none⟩ = some (.int .i64 L) ∧ n0 < wb.heap.size ∧ Below n0 w wb := by
    rw [hwb, hn0]
    exact ⟨by simp, by simp, by simp, by simp, (Below.refl _ _).alloc (Nat.le_refl _) _⟩
  rw [← hwb, ← hn0]
  have HN0 := Lib.hid hn0
  clear hwb hn0
  obtain ⟨c0, c1, c2, hn, hb0⟩ := hw0
  refine (awake_any wb).mono ?_
  rintro e w1 ⟨rfl, hb⟩
  obtain ⟨c0, c1, c2, hn, hb0⟩ := step_box hb c0 c1 c2 hn hb0
  go_wp2_with (first
    | (go_at_call 19; (with_reducible refine (C19 _ _).mono ?_); rintro e w1 ⟨rfl, hb⟩; obtain ⟨c0, c1, c2, hn, hb0⟩ := step_box hb c0 c1 c2 hn hb0; have hB : Below w.heap.size w w1 := (by rw [← HN0.out]; exact hb0))
    | (go_at_call 20; (with_reducible refine (C20 _ (HU.out.below hB)).mono ?_); rintro e w' ⟨rfl, rfl⟩)
    | (go_at_call 20; (with_reducible refine (C20' _ (HV.out.below hB)).mono ?_); rintro e w' ⟨rfl, rfl⟩))
  all_goals
    go_ret
    exact ⟨rfl, by rw [← HN0.out]; exact hb0⟩

theorem clone_ca (F : Nat → Prop) (w : World) (b s wy ln : Nat) (xss : List (List Int)) (h : Ca w F b s wy ln xss) (hv : valB s wy ln = true) :
    Calls Try.prog 27 #[.pointer (some ⟨b, 0, none⟩)] w fun e w' => Below w.heap.size w w' ∧ ∃ b' : Nat, e = .returned (.pointer (some ⟨b', 0, none⟩)) ∧ Ca w' (fun k => w.heap.size ≤ k) b' s wy ln xss := by
  obtain ⟨g, vs, h, hw⟩ := h
  obtain ⟨-, -, h1, h2, h3, h4, -⟩ := valB_spec hv
  refine (clone_ok F w b g s wy ln vs xss h (by omega) (by omega) (fun xs hx => by have := hw xs hx; omega)).mono ?_
  rintro e w' ⟨hb, b', g', vs', rfl, hc⟩
  exact ⟨hb, b', rfl, g', vs', hc, hw⟩

theorem flush_ca (F : Nat → Prop) (w : World) (b s wy ln : Nat) (xss : List (List Int)) (h : Ca w F b s wy ln xss) (hv : valB s wy ln = true) :
    Calls Try.prog 22 #[.pointer (some ⟨b, 0, none⟩)] w fun e w' => e = .returned (.tuple #[]) ∧ Fr F w w' ∧ Ca w' (fun k => F k ∨ w.heap.size ≤ k) b s wy ln (emptyF s) := by
  obtain ⟨g, vs, h, hw⟩ := h
  obtain ⟨-, -, h1, h2, h3, h4, -⟩ := valB_spec hv
  refine (flush_any F w b g s wy ln vs xss h (by omega) (by omega)).mono ?_
  rintro e w' ⟨rfl, hf, g', hc⟩
  exact ⟨rfl, hf.mono (fun k _ hk => by subst hk; exact h.fb), g', _, hc, empty_len s wy⟩

theorem flush_good (s W ln : Nat) (hv : valB s W ln = true) (u v : Value) (l r : List Int) (w : World) (hu : RdI w u l) (hr : RdI w v r) (hl : l.length ≤ 9223372036854775807) (hrl : r.length ≤ 9223372036854775807) (hil : I64s l) (hir : I64s r) :
    Calls Try.prog 8 #[.agg #[.int .i64 s, .int .i64 W, .int .i64 ln], u, v] w fun e w' => e = .returned (.bool true) ∧ Below w.heap.size w w' := by
  obtain ⟨A, c, rfl⟩ := hu.slice
  obtain ⟨B, d, rfl⟩ := hr.slice
  have C19 := fun w1 hB => made_ok s W ln (.slice A l.length c) l w w1 hv hu hB hl hil
  have C20 := fun w h => great_any w (.slice A l.length c) l h hl
  have C20' := fun w h => great_any w (.slice B r.length d) r h hrl
  obtain ⟨g1, hg1⟩ : ∃ g1, g1 = greatB l := ⟨_, rfl⟩
  obtain ⟨g2, hg2⟩ : ∃ g2, g2 = greatB r := ⟨_, rfl⟩
  rw [← hg1] at C20
  rw [← hg2] at C20'
  have HU := Lib.hid hu
  have HV := Lib.hid hr
  have HVB := Lib.hid hv
  have HIR := Lib.hid hir
  have HG1 := Lib.hid hg1
  have HG2 := Lib.hid hg2
  obtain ⟨-, -, hs1, hs2, hW1, hW2, -⟩ := valB_spec hv
  clear hv hu hr hg1 hg2 hir hil
  go_enter Try.func8, Try.ntmps8
  go_wp2_with (fail)
  obtain ⟨wb, hwb⟩ : ∃ wb, wb = w.alloc (.cells #[.int .i64 s, .int .i64 W, .int .i64 ln] 23) := ⟨_, rfl⟩
  obtain ⟨n0, hn0⟩ : ∃ n0, n0 = w.heap.size := ⟨_, rfl⟩
  have hw0 : wb.cell? ⟨n0, 0, none⟩ = some (.int .i64 s) ∧ wb.cell? ⟨n0, 1, none⟩ = some (.int .i64 W) ∧ wb.cell? ⟨n0, 2, none⟩ = some (.int .i64 ln) ∧ n0 < wb.heap.size ∧ Below n0 w wb := by
    rw [hwb, hn0]
    exact ⟨by simp, by simp, by simp, by simp, (Below.refl _ _).alloc (Nat.le_refl _) _⟩
  rw [← hwb, ← hn0]
  have HN0 := Lib.hid hn0
  clear hwb hn0
  obtain ⟨c0, c1, c2, hn, hb0⟩ := hw0
  refine (awake_any wb).mono ?_
  rintro e w1 ⟨rfl, hb⟩
  obtain ⟨c0, c1, c2, hn, hb0⟩ := step_box hb c0 c1 c2 hn hb0
  have hB1 : Hid (Below w.heap.size w w1) := by rw [← HN0.out]; exact hb0
  have HB1 := hB1
  clear hB1
  go_wp2_with (first
    | (go_at_call 19; (with_reducible refine (C19 _ HB1.out).mono ?_); rintro e w2 ⟨hb, b, rfl, hc2⟩; obtain ⟨c0, c1, c2, hn, hb0⟩ := step_box hb c0 c1 c2 hn hb0; have HC2 := Lib.hid hc2; have HB2 := Lib.hid hb0; clear hc2)
    | (go_at_call 20; (with_reducible refine (C20 _ (HU.out.below (by rw [← HN0.out]; exact HB2.out))).mono ?_); rintro e w' ⟨rfl, rfl⟩)
    | (go_at_call 20; (with_reducible refine (C20' _ (HV.out.below (by rw [← HN0.out]; exact HB2.out))).mono ?_); rintro e w' ⟨rfl, rfl⟩))
  · go_ret
    exact ⟨rfl, by rw [← HN0.out]; exact hb0⟩
  · go_ret
    exact ⟨rfl, by rw [← HN0.out]; exact hb0⟩
  have g1f : g1 = false := Bool.eq_false_iff.2 (by assumption)
  have g2f : g2 = false := Bool.eq_false_iff.2 (by assumption)
  obtain ⟨gl1, -⟩ := great_spec (HG1.out.symm.trans g1f)
  obtain ⟨gl2, -⟩ := great_spec (HG2.out.symm.trans g2f)
  clear g1f g2f
  refine (clone_ca _ _ b s W ln _ HC2.out HVB.out).mono ?_
  rintro e w3 ⟨hb3, b', rfl, hc3⟩
  obtain ⟨c0, c1, c2, hn, hb0⟩ := step_box hb3 c0 c1 c2 hn hb0
  have hx3 := HC2.out.keep (G := fun _ => False) (Fr.of_below hb3) (fun _ _ h => h)
  have H1 := Lib.hid hx3
  have H2 := Lib.hid hc3
  have HBB := Lib.hid hb0
  have hws : w.heap.size ≤ w1.heap.size := by rw [← HN0.out]; omega
  have sz2 := hb.size
  have sz3 := hb3.size
  have K0 := Lib.hid c0
  have K1 := Lib.hid c1
  have hn3 := hn
  clear hx3 hc3 hb3 hb hb0 c0 c1 c2
  have FL := flush_ca _ w3 b' s W ln _ H2.out HVB.out
  go_wp2_with (go_at_call 22; (with_reducible refine FL.mono ?_); rintro e w4 ⟨rfl, hf4, hc4⟩)
  have hx4 := H1.out.keep hf4 (fun k hk hk2 => by omega)
  have hB4 : Below n0 w w4 := HBB.out.trans (hf4.below (n := n0) (by have := HBB.out.size; have := HN0.out; omega) (fun k hk => by have := HN0.out; omega))
  have sz4 := hf4.size
  have hk4 : Hid (w4.heap[n0]? = w3.heap[n0]?) := hf4.block n0 hn3 (fun hk => by omega)
  have HX4 := Lib.hid hx4
  have HC4 := Lib.hid hc4
  have HB4 := Lib.hid hB4
  clear FL hf4 hc4 hx4 hB4
  have MX := misses_any _ b s W ln _ (.slice B r.length d) r w w4 HX4.out HVB.out HV.out (by rw [← HN0.out]; exact HB4.out) (fun k hk => by omega) (by omega) HIR.out
  refine MX.mono ?_
  rintro e w5 ⟨rfl, hc5, hf5⟩
  have hk5 : Hid (w5.heap[n0]? = w4.heap[n0]?) := hf5.block n0 (by omega) (fun hk => by omega)
  have hy5 := HC4.out.keep hf5 (fun k hk hk2 => by omega)
  have sz5 := hf5.size
  have hB5 : Below n0 w w5 := HB4.out.trans (hf5.below (n := n0) (by omega) (fun k hk => by omega))
  have HB5 := Lib.hid hB5
  have HY5 := Lib.hid hy5
  clear MX hf5 hy5 hB5 hc5
  have MY := misses_any _ b' s W ln _ (.slice B r.length d) r w w5 HY5.out HVB.out HV.out (by rw [← HN0.out]; exact HB5.out) (fun k hk => by omega) (by omega) HIR.out
  have law := flush_law s W ln (by omega) (by omega) l r
  have ma := missN_le s W ln r (runF s W ln (emptyF s) l)
  have mb := missN_le s W ln r (emptyF s)
  obtain ⟨na, hna⟩ : ∃ na, na = missN s W ln (runF s W ln (emptyF s) l) r := ⟨_, rfl⟩
  obtain ⟨nb, hnb⟩ : ∃ nb, nb = missN s W ln (emptyF s) r := ⟨_, rfl⟩
  unfold MissP at MY
  rw [← hna] at ma law ⊢
  rw [← hnb] at mb law MY
  obtain ⟨l1, l2⟩ := law
  have hp : s * W ≤ 64 * 8 := Nat.mul_le_mul (by omega) (by omega)
  have q1 : (0 : Int) ≤ (s : Int) * (W : Int) := by rw [← Int.natCast_mul]; omega
  have q2 : (s : Int) * (W : Int) ≤ 512 := by rw [← Int.natCast_mul]; omega
  have q3 : (nb : Int) ≤ (na : Int) + (s : Int) * (W : Int) := by rw [← Int.natCast_mul]; omega
  have q4 : (na : Int) ≤ nb := by omega
  have q5 : (na : Int) ≤ 200 := by omega
  have q6 : (nb : Int) ≤ 200 := by omega
  clear hna hnb hp l1 l2 ma mb
  go_wp2_with (go_at_call 21; (with_reducible refine MY.mono ?_); rintro e w6 ⟨rfl, hc6, hf6⟩; have hk6 : w6.heap[n0]? = w3.heap[n0]? := ((hf6.block n0 (by omega) (fun hk => by omega)).trans hk5.out).trans hk4.out; have r0 : w6.cell? ⟨n0, 0, none⟩ = some (.int .i64 s) := (World.cell?_of_block (a := ⟨n0, 0, none⟩) hk6).trans K0.out; have r1 : w6.cell? ⟨n0, 1, none⟩ = some (.int .i64 W) := (World.cell?_of_block (a := ⟨n0, 1, none⟩) hk6).trans K1.out; have HF6 := Lib.hid hf6; clear hk6 hc6 hf6)
  go_ret
  exact ⟨rfl, by rw [← HN0.out]; exact HB5.out.trans (HF6.out.below (n := n0) (by omega) (fun k hk => by omega))⟩
theorem wf_i64s {l : List Int} (h : ∀ n ∈ l, (Lit.int .i64 n).wf = true) : I64s l := fun x hx => wf_i64 (h x hx)

theorem cacheFlush_walk (S W L : Int) (u : Value) (l : List Int) (v : Value) (r : List Int) (w : World) (hu : RdK w .i64 u l) (hl : l.length ≤ 9223372036854775807) (wl : ∀ n ∈ l, (Lit.int .i64 n).wf = true)
    (hr : RdK w .i64 v r) (hrl : r.length ≤ 9223372036854775807) (wr : ∀ n ∈ r, (Lit.int .i64 n).wf = true) :
    Calls Try.prog 8 #[.agg #[.int .i64 S, .int .i64 W, .int .i64 L], u, v] w fun e w' => e = .returned (.bool true) ∧ Below w.heap.size w w' := by
  cases hv : valB S W L with
  | false => exact flush_bad S W L hv u v l r w hu hr hl hrl
  | true =>
    obtain ⟨-, -, h1, h2, h3, h4, h5, h6⟩ := valB_spec hv
    obtain ⟨s, rfl⟩ := Int.eq_ofNat_of_zero_le (show 0 ≤ S by omega)
    obtain ⟨wy, rfl⟩ := Int.eq_ofNat_of_zero_le (show 0 ≤ W by omega)
    obtain ⟨ln, rfl⟩ := Int.eq_ofNat_of_zero_le (show 0 ≤ L by omega)
    exact flush_good s wy ln hv u v l r w hu hr hl hrl (wf_i64s wl) (wf_i64s wr)

end Go.Proofs.Ytgbmbehobemocaa
