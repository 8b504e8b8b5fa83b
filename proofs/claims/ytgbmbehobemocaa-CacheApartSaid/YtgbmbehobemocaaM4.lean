/- CacheInclusion is true. -/
import Derived.Test.YtgbmbehobemocaaQ
import Derived.Test.YtgbmbehobemocaaM3
namespace Go.Proofs.Ytgbmbehobemocaa
open Go.RowKit
set_option linter.unusedVariables false
set_option linter.unusedSimpArgs false

def SomePtr (w : World) (e : Ending) (w' : World) : Prop := Below w.heap.size w w' ∧ ∃ p, e = .returned (.pointer p)

theorem made_some (S W L : Int) (w0 w : World) (hB : Below w0.heap.size w0 w) : Calls Try.prog 19 #[.agg #[.int .i64 S, .int .i64 W, .int .i64 L], .slice none 0 0] w (SomePtr w) := by
  cases hv : valB S W L with
  | false => exact (made_bad S W L _ w hv).mono fun e w' ⟨h1, h2⟩ => ⟨h2, _, h1⟩
  | true =>
    obtain ⟨-, -, h1, h2, h3, h4, h5, h6⟩ := valB_spec hv
    obtain ⟨s, rfl⟩ := Int.eq_ofNat_of_zero_le (show 0 ≤ S by omega)
    obtain ⟨wy, rfl⟩ := Int.eq_ofNat_of_zero_le (show 0 ≤ W by omega)
    obtain ⟨ln, rfl⟩ := Int.eq_ofNat_of_zero_le (show 0 ≤ L by omega)
    exact (made_ok s wy ln (.slice none 0 0) [] w0 w hv (rd_nil w0 .i64) hB (by simp) i64s_nil).mono fun e w' ⟨h1, b, h2, _⟩ => ⟨h1, _, h2⟩

theorem inc_bad (S W L m : Int) (hm0 : 0 ≤ m) (hm1 : m ≤ 255) (hv : valB S W L = false) (u : Value) (l : List Int) (w : World) (hu : RdI w u l) (hl : l.length ≤ 9223372036854775807) :
    Calls Try.prog 5 #[.agg #[.int .i64 S, .int .i64 W, .int .i64 L], .int .u8 m, u] w fun e w' => e = .returned (.bool true) ∧ Below w.heap.size w w' := by
  obtain ⟨B, d, rfl⟩ := hu.slice
  have C19 := fun w => made_bad S W L (.slice none 0 0) w hv
  have C20 := fun w h => great_any w (.slice B l.length d) l h hl
  obtain ⟨g1, hg1⟩ : ∃ g1, g1 = greatB l := ⟨_, rfl⟩
  rw [← hg1] at C20
  have HU := Lib.hid hu
  have hm8 : m % 8 ≤ 7 := by omega
  have hm80 : 0 ≤ m % 8 := by omega
  clear hv hu hg1
  go_enter Try.func5, Try.ntmps5
  go_wp2_with (fail)
  obtain ⟨wb, hwb⟩ : ∃ wb, wb = w.alloc (.cells #[.int .i64 S, .int .i64 W, .int .i64 L] 23) := ⟨_, rfl⟩
  obtain ⟨n0, hn0⟩ : ∃ n0, n0 = w.heap.size := ⟨_, rfl⟩
  have hw0 : wb.cell? ⟨n0, 0, none⟩ = some (.int .i64 S) ∧ wb.cell? ⟨n0, 1, none⟩ = some (.int .i64 W) ∧ wb.cell? ⟨n0, 2, none⟩ = some (.int .i64 L) ∧ n0 < wb.heap.size ∧ Below n0 w wb := by
    rw [hwb, hn0]
    exact ⟨by simp, by simp, by simp, by simp, (Below.refl _ _).alloc (Nat.le_refl _) _⟩
  rw [← hwb, ← hn0]
  have HN0 := Lib.hid hn0
  clear hwb hn0
  obtain ⟨c0, c1, c2, hn, hb0⟩ := hw0
  refine (awake_any wb).mono ?_
  rintro e w1 ⟨rfl, hb⟩
  obtain ⟨c0, c1, c2, hn, hb0⟩ := step_box hb c0 c1 c2 hn hb0
  have hle : n0 ≤ w1.heap.size := by omega
  go_wp2_with (fail)
  obtain ⟨wa, hwa⟩ : ∃ wa, wa = w1.alloc (.cells #[.int .i64 S, .int .i64 (wrap64 (W + m % 8)), .int .i64 L] 23) := ⟨_, rfl⟩
  obtain ⟨n1, hn1⟩ : ∃ n1, n1 = w1.heap.size := ⟨_, rfl⟩
  have hwf : wa.cell? ⟨n0, 0, none⟩ = some (.int .i64 S) ∧ wa.cell? ⟨n0, 1, none⟩ = some (.int .i64 W) ∧ wa.cell? ⟨n0, 2, none⟩ = some (.int .i64 L) ∧ wa.cell? ⟨n1, 0, none⟩ = some (.int .i64 S) ∧ wa.cell? ⟨n1, 1, none⟩ = some (.int .i64 (wrap64 (W + m % 8))) ∧ wa.cell? ⟨n1, 2, none⟩ = some (.int .i64 L) ∧ n0 < wa.heap.size ∧ n1 < wa.heap.size ∧ Below n0 w wa := by
    rw [hwa, hn1]
    have hne : n0 ≠ w1.heap.size := by omega
    exact ⟨(World.cell?_of_block (a := ⟨n0, 0, none⟩) (Below.heap_alloc _ _ _ hn)).trans c0, (World.cell?_of_block (a := ⟨n0, 1, none⟩) (Below.heap_alloc _ _ _ hn)).trans c1, (World.cell?_of_block (a := ⟨n0, 2, none⟩) (Below.heap_alloc _ _ _ hn)).trans c2, by simp, by simp, by simp, by simp; omega, by simp, hb0.alloc (by omega) _⟩
  rw [← hwa, ← hn1]
  clear hwa hn1 c0 c1 c2 hn hb0
  obtain ⟨c0, c1, c2, d0, d1, d2, hn, hm, hb0⟩ := hwf
  have hle : n0 ≤ wa.heap.size := by omega
  have hBa : Below w.heap.size w wa.drew := by rw [← HN0.out]; exact hb0.drew
  go_region_held3 (fun w' => w'.cell? ⟨n0, 0, none⟩ = some (.int .i64 S) ∧ w'.cell? ⟨n0, 1, none⟩ = some (.int .i64 W) ∧ w'.cell? ⟨n0, 2, none⟩ = some (.int .i64 L) ∧ w'.cell? ⟨n1, 0, none⟩ = some (.int .i64 S) ∧ w'.cell? ⟨n1, 1, none⟩ = some (.int .i64 (wrap64 (W + m % 8))) ∧ w'.cell? ⟨n1, 2, none⟩ = some (.int .i64 L)) (go_keep) (first
      | (go_at_call 19; (with_reducible refine (C19 _).mono ?_); rintro e w2 ⟨rfl, hb2⟩; have k2 := fun o => bcell hb2 n0 o hn; have k3 := fun o => bcell hb2 n1 o hm; have hB2 : Below w.heap.size w w2 := hBa.trans (hb2.mono hBa.size); have hn := Nat.lt_of_lt_of_le (show n0 < _ from hn) hb2.size; have hm := Nat.lt_of_lt_of_le (show n1 < _ from hm) hb2.size)
      | (go_at_call 19; (with_reducible refine (made_some S (wrap64 (W + m % 8)) L w _ hB2).mono ?_); rintro e w3 ⟨hb3, p, rfl⟩; have k4 := fun o => bcell hb3 n0 o hn; have k5 := fun o => bcell hb3 n1 o hm; have hB3 : Below w.heap.size w w3 := hB2.trans (hb3.mono hB2.size)))
  go_wp2_with (go_at_call 20; (with_reducible refine (C20 _ (HU.out.below hB3)).mono ?_); rintro e w' ⟨rfl, rfl⟩)
  all_goals
    go_ret
    exact ⟨rfl, hB3⟩

theorem inc_run (s W W' ln : Nat) (hs : 1 ≤ s) (hW : 1 ≤ W) (hW' : W ≤ W') : ∀ (l : List Int) {xss yss : List (List Int)}, Inc s W xss yss → Inc s W (runF s W ln xss l) (runF s W' ln yss l)
  | [], _, _, h => h
  | a :: l, _, _, h => inc_run s W W' ln hs hW hW' l (h.step hs hW hW' a).1
theorem inv_run (s W ln : Nat) (M : Int) (hs : 1 ≤ s) : ∀ (l : List Int) {xss : List (List Int)}, Inv s M xss → (∀ x ∈ l, x ≤ M) → Inv s M (runF s W ln xss l)
  | [], _, h, _ => h
  | a :: l, _, h, hl => inv_run s W ln M hs l (h.step hs a (hl a List.mem_cons_self)) (fun x hx => hl x (List.mem_cons_of_mem _ hx))

theorem inc_half (s W ln : Nat) (m : Int) (hm0 : 0 ≤ m) (hm1 : m ≤ 255) (hv : valB s W ln = true) (hv2 : valB s ((W : Int) + m % 8) ln = false) (u : Value) (l : List Int) (w : World) (hu : RdI w u l) (hl : l.length ≤ 9223372036854775807) (hil : I64s l) :
    Calls Try.prog 5 #[.agg #[.int .i64 s, .int .i64 W, .int .i64 ln], .int .u8 m, u] w fun e w' => e = .returned (.bool true) ∧ Below w.heap.size w w' := by
  obtain ⟨B, d, rfl⟩ := hu.slice
  obtain ⟨q, hq⟩ := Int.eq_ofNat_of_zero_le (show 0 ≤ m % 8 by omega)
  obtain ⟨-, -, hs1, hs2, hW1, hW2, -⟩ := valB_spec hv
  have hq7 : q ≤ 7 := by omega
  rw [hq] at hv2
  have C19 := fun w1 hB => made_ok s W ln (.slice none 0 0) [] w w1 hv (rd_nil w .i64) hB (by simp) i64s_nil
  have D19 := fun w => made_bad s ((W : Int) + (q : Int)) ln (.slice none 0 0) w hv2
  have C20 := fun w h => great_any w (.slice B l.length d) l h hl
  obtain ⟨g1, hg1⟩ : ∃ g1, g1 = greatB l := ⟨_, rfl⟩
  rw [← hg1] at C20
  have HU := Lib.hid hu
  have HVB := Lib.hid hv
  have HVD := Lib.hid hv2
  have HIL := Lib.hid hil
  have HG1 := Lib.hid hg1
  clear hv hv2 hu hg1 hil
  go_enter Try.func5, Try.ntmps5
  go_wp2_with (fail)
  obtain ⟨wb, hwb⟩ : ∃ wb, wb = w.alloc (.cells #[.int .i64 s, .int .i64 W, .int .i64 ln] 23) := ⟨_, rfl⟩
  obtain ⟨n0, hn0⟩ : ∃ n0, n0 = w.heap.size := ⟨_, rfl⟩
  have hw0 : wb.cell? ⟨n0, 0, none⟩ = some (.int .i64 s) ∧ wb.cell? ⟨n0, 1, none⟩ = some (.int .i64 W) ∧ wb.cell? ⟨n0, 2, none⟩ = some (.int .i64 ln) ∧ n0 < wb.heap.size ∧ Below n0 w wb := by
    rw [hwb, hn0]
    exact ⟨by simp, by simp, by simp, by simp, (Below.refl _ _).alloc (Nat.le_refl _) _⟩
  rw [← hwb, ← hn0]
  have HN0 := Lib.hid hn0
  clear hwb hn0
  obtain ⟨c0, c1, c2, hn, hb0⟩ := hw0
  refine (awake_any wb).mono ?_
  rintro e w1 ⟨rfl, hb⟩
  obtain ⟨c0, c1, c2, hn, hb0⟩ := step_box hb c0 c1 c2 hn hb0
  have hle : n0 ≤ w1.heap.size := by omega
  go_wp2_with (fail)
  obtain ⟨wa, hwa⟩ : ∃ wa, wa = w1.alloc (.cells #[.int .i64 s, .int .i64 ((W : Int) + (q : Int)), .int .i64 ln] 23) := ⟨_, rfl⟩
  obtain ⟨n1, hn1⟩ : ∃ n1, n1 = w1.heap.size := ⟨_, rfl⟩
  have hwf : wa.cell? ⟨n0, 0, none⟩ = some (.int .i64 s) ∧ wa.cell? ⟨n0, 1, none⟩ = some (.int .i64 W) ∧ wa.cell? ⟨n0, 2, none⟩ = some (.int .i64 ln) ∧ wa.cell? ⟨n1, 0, none⟩ = some (.int .i64 s) ∧ wa.cell? ⟨n1, 1, none⟩ = some (.int .i64 ((W : Int) + (q : Int))) ∧ wa.cell? ⟨n1, 2, none⟩ = some (.int .i64 ln) ∧ n0 < wa.heap.size ∧ n1 < wa.heap.size ∧ Below n0 w wa := by
    rw [hwa, hn1]
    have hne : n0 ≠ w1.heap.size := by omega
    exact ⟨(World.cell?_of_block (a := ⟨n0, 0, none⟩) (Below.heap_alloc _ _ _ hn)).trans c0, (World.cell?_of_block (a := ⟨n0, 1, none⟩) (Below.heap_alloc _ _ _ hn)).trans c1, (World.cell?_of_block (a := ⟨n0, 2, none⟩) (Below.heap_alloc _ _ _ hn)).trans c2, by simp, by simp, by simp, by simp; omega, by simp, hb0.alloc (by omega) _⟩
  rw [← hwa, ← hn1]
  clear hwa hn1 c0 c1 c2 hn hb0
  obtain ⟨c0, c1, c2, d0, d1, d2, hn, hm, hb0⟩ := hwf
  have hle : n0 ≤ wa.heap.size := by omega
  have hBa : Below w.heap.size w wa.drew := by rw [← HN0.out]; exact hb0.drew
  have C19' := C19 wa.drew hBa
  go_region_held3 (fun w' => w'.cell? ⟨n0, 0, none⟩ = some (.int .i64 s) ∧ w'.cell? ⟨n0, 1, none⟩ = some (.int .i64 W) ∧ w'.cell? ⟨n0, 2, none⟩ = some (.int .i64 ln) ∧ w'.cell? ⟨n1, 0, none⟩ = some (.int .i64 s) ∧ w'.cell? ⟨n1, 1, none⟩ = some (.int .i64 ((W : Int) + (q : Int))) ∧ w'.cell? ⟨n1, 2, none⟩ = some (.int .i64 ln)) (go_keep) (first
      | (go_at_call 19; (with_reducible refine C19'.mono ?_); rintro e w2 ⟨hb2, b, rfl, -⟩; have k2 := fun o => bcell hb2 n0 o hn; have k3 := fun o => bcell hb2 n1 o hm; have hB2 : Below w.heap.size w w2 := hBa.trans (hb2.mono hBa.size); have hn := Nat.lt_of_lt_of_le (show n0 < _ from hn) hb2.size; have hm := Nat.lt_of_lt_of_le (show n1 < _ from hm) hb2.size)
      | (go_at_call 19; (with_reducible refine (D19 _).mono ?_); rintro e w3 ⟨rfl, hb3⟩; have k4 := fun o => bcell hb3 n0 o hn; have k5 := fun o => bcell hb3 n1 o hm; have hB3 : Below w.heap.size w w3 := hB2.trans (hb3.mono hB2.size)))
  go_wp2_with (go_at_call 20; (with_reducible refine (C20 _ (HU.out.below hB3)).mono ?_); rintro e w' ⟨rfl, rfl⟩)
  all_goals
    go_ret
    exact ⟨rfl, hB3⟩

theorem inc_good (s W ln : Nat) (m : Int) (hm0 : 0 ≤ m) (hm1 : m ≤ 255) (hv : valB s W ln = true) (hv2 : valB s ((W : Int) + m % 8) ln = true) (u : Value) (l : List Int) (w : World) (hu : RdI w u l) (hl : l.length ≤ 9223372036854775807) (hil : I64s l) :
    Calls Try.prog 5 #[.agg #[.int .i64 s, .int .i64 W, .int .i64 ln], .int .u8 m, u] w fun e w' => e = .returned (.bool true) ∧ Below w.heap.size w w' := by
  obtain ⟨B, d, rfl⟩ := hu.slice
  obtain ⟨q, hq⟩ := Int.eq_ofNat_of_zero_le (show 0 ≤ m % 8 by omega)
  obtain ⟨-, -, hs1, hs2, hW1, hW2, -⟩ := valB_spec hv
  have hq7 : q ≤ 7 := by omega
  rw [hq] at hv2
  have C19 := fun w1 hB => made_ok s W ln (.slice none 0 0) [] w w1 hv (rd_nil w .i64) hB (by simp) i64s_nil
  have hv3 : valB s ((W + q : Nat) : Int) ln = true := by rw [Int.natCast_add]; exact hv2
  have D19 := fun w1 hB => made_ok s (W + q) ln (.slice none 0 0) [] w w1 hv3 (rd_nil w .i64) hB (by simp) i64s_nil
  rw [Int.natCast_add] at D19
  obtain ⟨-, -, -, -, hWq1, hWq2, -⟩ := valB_spec hv2
  have C20 := fun w h => great_any w (.slice B l.length d) l h hl
  obtain ⟨g1, hg1⟩ : ∃ g1, g1 = greatB l := ⟨_, rfl⟩
  rw [← hg1] at C20
  have HU := Lib.hid hu
  have HVB := Lib.hid hv
  have HVD := Lib.hid hv3
  have HIL := Lib.hid hil
  have HG1 := Lib.hid hg1
  clear hv hv2 hu hg1 hil hv3
  go_enter Try.func5, Try.ntmps5
  go_wp2_with (fail)
  obtain ⟨wb, hwb⟩ : ∃ wb, wb = w.alloc (.cells #[.int .i64 s, .int .i64 W, .int .i64 ln] 23) := ⟨_, rfl⟩
  obtain ⟨n0, hn0⟩ : ∃ n0, n0 = w.heap.size := ⟨_, rfl⟩
  have hw0 : wb.cell? ⟨n0, 0, none⟩ = some (.int .i64 s) ∧ wb.cell? ⟨n0, 1, none⟩ = some (.int .i64 W) ∧ wb.cell? ⟨n0, 2, none⟩ = some (.int .i64 ln) ∧ n0 < wb.heap.size ∧ Below n0 w wb := by
    rw [hwb, hn0]
    exact ⟨by simp, by simp, by simp, by simp, (Below.refl _ _).alloc (Nat.le_refl _) _⟩
  rw [← hwb, ← hn0]
  have HN0 := Lib.hid hn0
  clear hwb hn0
  obtain ⟨c0, c1, c2, hn, hb0⟩ := hw0
  refine (awake_any wb).mono ?_
  rintro e w1 ⟨rfl, hb⟩
  obtain ⟨c0, c1, c2, hn, hb0⟩ := step_box hb c0 c1 c2 hn hb0
  have hle : n0 ≤ w1.heap.size := by omega
  go_wp2_with (fail)
  obtain ⟨wa, hwa⟩ : ∃ wa, wa = w1.alloc (.cells #[.int .i64 s, .int .i64 ((W : Int) + (q : Int)), .int .i64 ln] 23) := ⟨_, rfl⟩
  obtain ⟨n1, hn1⟩ : ∃ n1, n1 = w1.heap.size := ⟨_, rfl⟩
  have hwf : wa.cell? ⟨n0, 0, none⟩ = some (.int .i64 s) ∧ wa.cell? ⟨n0, 1, none⟩ = some (.int .i64 W) ∧ wa.cell? ⟨n0, 2, none⟩ = some (.int .i64 ln) ∧ wa.cell? ⟨n1, 0, none⟩ = some (.int .i64 s) ∧ wa.cell? ⟨n1, 1, none⟩ = some (.int .i64 ((W : Int) + (q : Int))) ∧ wa.cell? ⟨n1, 2, none⟩ = some (.int .i64 ln) ∧ n0 < wa.heap.size ∧ n1 < wa.heap.size ∧ Below n0 w wa := by
    rw [hwa, hn1]
    have hne : n0 ≠ w1.heap.size := by omega
    exact ⟨(World.cell?_of_block (a := ⟨n0, 0, none⟩) (Below.heap_alloc _ _ _ hn)).trans c0, (World.cell?_of_block (a := ⟨n0, 1, none⟩) (Below.heap_alloc _ _ _ hn)).trans c1, (World.cell?_of_block (a := ⟨n0, 2, none⟩) (Below.heap_alloc _ _ _ hn)).trans c2, by simp, by simp, by simp, by simp; omega, by simp, hb0.alloc (by omega) _⟩
  rw [← hwa, ← hn1]
  clear hwa hn1 c0 c1 c2 hn hb0
  obtain ⟨c0, c1, c2, d0, d1, d2, hn, hm, hb0⟩ := hwf
  have hle : n0 ≤ wa.heap.size := by omega
  have hBa : Below w.heap.size w wa.drew := by rw [← HN0.out]; exact hb0.drew
  have C19' := C19 wa.drew hBa
  go_region_held3 (fun w' => w'.cell? ⟨n0, 0, none⟩ = some (.int .i64 s) ∧ w'.cell? ⟨n0, 1, none⟩ = some (.int .i64 W) ∧ w'.cell? ⟨n0, 2, none⟩ = some (.int .i64 ln) ∧ w'.cell? ⟨n1, 0, none⟩ = some (.int .i64 s) ∧ w'.cell? ⟨n1, 1, none⟩ = some (.int .i64 ((W : Int) + (q : Int))) ∧ w'.cell? ⟨n1, 2, none⟩ = some (.int .i64 ln)) (go_keep) (first
      | (go_at_call 19; (with_reducible refine C19'.mono ?_); rintro e w2 ⟨hb2, b, rfl, hc2⟩; have k2 := fun o => bcell hb2 n0 o hn; have k3 := fun o => bcell hb2 n1 o hm; have hB2 : Below w.heap.size w w2 := hBa.trans (hb2.mono hBa.size); have hn := Nat.lt_of_lt_of_le (show n0 < _ from hn) hb2.size; have hm := Nat.lt_of_lt_of_le (show n1 < _ from hm) hb2.size; have HC2 := Lib.hid hc2; clear hc2)
      | (go_at_call 19; (with_reducible refine (D19 _ hB2).mono ?_); rintro e w3 ⟨hb3, b', rfl, hc3⟩; have k4 := fun o => bcell hb3 n0 o hn; have k5 := fun o => bcell hb3 n1 o hm; have hB3 : Below w.heap.size w w3 := hB2.trans (hb3.mono hB2.size); have HC3 := Lib.hid hc3; clear hc3))
  have s1 : wa.heap.size ≤ w2.heap.size := hb2.size
  have x3 := HC2.out.keep (G := fun _ => False) (Fr.of_below hb3) (fun _ _ h => h)
  have hws : w.heap.size ≤ wa.heap.size := hBa.size
  have HT3 : Hid (Two wa.heap.size w3 b s W ln (emptyF s) b' s (W + q) ln (emptyF s)) :=
    ⟨_, _, x3, HC3.out, fun k hk hk2 => by have := hk.2; omega, fun k hk => hk.1, fun k hk => by omega⟩
  have HB3 := Lib.hid hB3
  have s3 : wa.heap.size ≤ w3.heap.size := Nat.le_trans s1 hb3.size
  clear x3 hB3 hb3 hb2 hB2 c0 c1 c2 d0 d1 d2 k2 k3 k4 k5 hBa hb0 hb C19 C19' D19
  try clear hHeld
  go_wp2_with (go_at_call 20; (with_reducible refine (C20 _ (HU.out.below HB3.out)).mono ?_); rintro e w' ⟨rfl, rfl⟩)
  · go_ret
    exact ⟨rfl, HB3.out⟩
  have g1f : g1 = false := Bool.eq_false_iff.2 (by assumption)
  obtain ⟨gl1, gl2⟩ := great_spec (HG1.out.symm.trans g1f)
  have HGL := Lib.hid gl2
  clear g1f gl2
  obtain ⟨m1, hm1'⟩ : ∃ m1, m1 = wa.heap.size := ⟨_, rfl⟩
  rw [← hm1'] at HT3 s3 hws
  clear hm1'
  go_wp2
  go_loopw [44] (fun i wr => ∃ k : Nat, k ≤ l.length ∧ i = .int .i64 k ∧ Hid (Two m1 wr b s W ln (runF s W ln (emptyF s) (l.take k)) b' s (W + q) ln (runF s (W + q) ln (emptyF s) (l.take k))) ∧ Hid (Below m1 w3 wr)) (fun i _ => l.length - (intOf i).toNat)
  case atStart => exact ⟨0, by omega, rfl, HT3.out, Below.refl _ _⟩
  case round =>
    obtain ⟨k, hk, rfl, HT, HB⟩ := hrel
    have HBW : Hid (Below w.heap.size w wr) := HB3.out.trans (HB.out.mono hws)
    have hmr : m1 ≤ wr.heap.size := Nat.le_trans s3 HB.out.size
    by_cases hlt : k < l.length
    · obtain ⟨b1, off, rfl, hlb, hc⟩ := HU.out.at HBW.out hlt
      have hst := ((inc_run s W (W + q) ln (by omega) (by omega) (by omega) (l.take k) (Inc.empty s W)).step (ln := ln) (by omega) (by omega) (Nat.le_add_right W q) (l.getD k 0)).2
      have e1 := runF_snoc s W ln (emptyF s) l k hlt
      have e2 := runF_snoc s (W + q) ln (emptyF s) l k hlt
      obtain ⟨x, hx⟩ : ∃ x, x = l.getD k 0 := ⟨_, rfl⟩
      have hx63 := HIL.out.get hlt
      rw [← hx] at hc hx63 hst e1 e2
      have E1 := Lib.hid e1
      have E2 := Lib.hid e2
      have A1 := HT.out.access hmr HVB.out x hx63
      have A2 := fun w (h : Two m1 w b s W ln (accF s W ln (runF s W ln (emptyF s) (l.take k)) x) b' s (W + q) ln (runF s (W + q) ln (emptyF s) (l.take k))) hm => h.swap.access hm HVD.out x hx63
      obtain ⟨h1, hh1⟩ : ∃ h1, h1 = hitB s ln (runF s W ln (emptyF s) (l.take k)) x := ⟨_, rfl⟩
      obtain ⟨h2, hh2⟩ : ∃ h2, h2 = hitB s ln (runF s (W + q) ln (emptyF s) (l.take k)) x := ⟨_, rfl⟩
      rw [← hh1] at A1 hst
      rw [← hh2] at A2 hst
      clear hx e1 e2 hh1 hh2
      cases h1 with
      | false =>
        clear hst
        go_wp2_with (first
          | (go_at_call 23; (with_reducible refine A1.mono ?_); rintro e w5 ⟨rfl, ht5, hb5⟩; have HT5 := Lib.hid ht5; have HB5 := Lib.hid hb5; have hm5 := Nat.le_trans hmr hb5.size; clear ht5 hb5)
          | (go_at_call 23; (with_reducible refine (A2 _ HT5.out hm5).mono ?_); rintro e w6 ⟨rfl, ht6, hb6⟩; have HT6 := Lib.hid ht6; have HB6 := Lib.hid hb6; clear ht6 hb6))
        go_roundw
        case rel =>
          refine ⟨k + 1, by omega, by go_num, ?_, (HB.out.trans HB5.out).trans HB6.out⟩
          show Two _ _ _ _ _ _ _ _ _ _ _ _
          rw [E1.out, E2.out]
          exact HT6.out.swap
        case measure => simp [intOf]; omega
      | true =>
        have h2t : h2 = true := hst rfl
        subst h2t
        clear hst
        go_wp2_with (first
          | (go_at_call 23; (with_reducible refine A1.mono ?_); rintro e w5 ⟨rfl, ht5, hb5⟩; have HT5 := Lib.hid ht5; have HB5 := Lib.hid hb5; have hm5 := Nat.le_trans hmr hb5.size; clear ht5 hb5)
          | (go_at_call 23; (with_reducible refine (A2 _ HT5.out hm5).mono ?_); rintro e w6 ⟨rfl, ht6, hb6⟩; have HT6 := Lib.hid ht6; have HB6 := Lib.hid hb6; clear ht6 hb6))
        go_roundw
        case rel =>
          refine ⟨k + 1, by omega, by go_num, ?_, (HB.out.trans HB5.out).trans HB6.out⟩
          show Two _ _ _ _ _ _ _ _ _ _ _ _
          rw [E1.out, E2.out]
          exact HT6.out.swap
        case measure => simp [intOf]; omega
    · have hkl : k = l.length := by omega
      subst hkl
      have ht := HT.out
      rw [List.take_length] at ht
      have hinc := inc_run s W (W + q) ln (by omega) (by omega) (by omega) l (Inc.empty s W)
      have hinv := inv_run s (W + q) ln 100000 (by omega) l (Inv.empty s 100000) HGL.out
      obtain ⟨xst, hxst⟩ : ∃ xst, xst = runF s W ln (emptyF s) l := ⟨_, rfl⟩
      obtain ⟨yst, hyst⟩ : ∃ yst, yst = runF s (W + q) ln (emptyF s) l := ⟨_, rfl⟩
      rw [← hxst, ← hyst] at ht hinc
      rw [← hyst] at hinv
      obtain ⟨F, hF⟩ := ht.left
      obtain ⟨G, hG⟩ := ht.right
      have L1 := lines_ca F wr b s W ln xst hF HVB.out
      have HAGE := fun i j (hi : i < s) (hj : j < (xst.getD i []).length) => hinc.age hinv hi hj
      have HAG := Lib.hid HAGE
      have HLX := Lib.hid hinc.lx
      have HLW : Hid (∀ i, i < s → (xst.getD i []).length ≤ W) := fun i hi => by
        obtain ⟨_, _, _, hw⟩ := hF
        exact hw _ (getD_mem (by rw [hinc.lx]; exact hi))
      have HCY := Lib.hid hG
      have HCX := Lib.hid hF
      clear hxst hyst ht hinc hinv hF hG HAGE HT
      go_wp2_with (go_at_call 24; (with_reducible refine L1.mono ?_); rintro e w5 ⟨hb5, g, us, rfl, hmat⟩; have HB5 := Lib.hid hb5; have HM5 := Lib.hid hmat; clear hb5 hmat)
      have hs5 : s = xst.length := HLX.out.symm
      clear hs5
      have HBW5 : Hid (Below w.heap.size w w5) := HBW.out.trans (HB5.out.mono HBW.out.size)
      obtain ⟨wz, rfl⟩ : ∃ wz : World, wz = w5 := ⟨_, rfl⟩
      go_loopw [63] (fun i w7 => ∃ i' : Nat, i' ≤ s ∧ i = .int .i64 i' ∧ Hid (Below wz.heap.size wz w7)) (fun i _ => s - (intOf i).toNat)
      case atStart => exact ⟨0, by omega, rfl, Below.refl _ _⟩
      case round =>
        obtain ⟨i, hi, rfl, HB7⟩ := hrel
        by_cases his : i < s
        · obtain ⟨A0, cc, hgi, hrow⟩ := HM5.out.at his
          have hgl := lt_of_heap HM5.out.arr
          have hg7 := (bcell HB7.out g i hgl).trans hgi
          have HAGi := Lib.hid (HAG.out i)
          obtain ⟨xs, hxs⟩ : ∃ xs, xs = xst.getD i [] := ⟨_, rfl⟩
          have HROW := Lib.hid hrow
          have hxlen : xs.length ≤ W := by rw [hxs]; exact HLW.out i his
          have HAG' : Hid (∀ j, j < xs.length → ageF s yst (xs.getD j 0) = j ∧ 0 ≤ xs.getD j 0 ∧ xs.getD j 0 ≤ 100000) := by
            rw [hxs]; exact fun j hj => HAG.out i j his hj
          rw [← hxs] at hg7 HROW
          clear hxs hrow hgi HAGi
          go_wp2
          obtain ⟨wo, rfl⟩ : ∃ wo : World, wo = wr := ⟨_, rfl⟩
          go_loopw [69] (fun j w8 => ∃ j' : Nat, j' ≤ xs.length ∧ j = .int .i64 j' ∧ Hid (Below wz.heap.size wz w8)) (fun j _ => xs.length - (intOf j).toNat)
          case atStart => exact ⟨0, by omega, rfl, HB7.out⟩
          case round =>
            obtain ⟨j, hj, rfl, HB8⟩ := hrel
            by_cases hjt : j < xs.length
            · obtain ⟨b2, off2, rfl, hlb2, hcy⟩ := HROW.out.at HB8.out hjt
              obtain ⟨y, hy⟩ : ∃ y, y = xs.getD j 0 := ⟨_, rfl⟩
              obtain ⟨a1, a2, a3⟩ := HAG'.out j hjt
              rw [← hy] at hcy a1 a2 a3
              have A3 := age_ca G wr b' s (W + q) ln yst ((HCY.out.below (HB5.out)).below HB8.out) HVD.out y a2 (by omega)
              rw [a1] at A3
              clear hy a1
              go_wp2_with (go_at_call 25; (with_reducible refine A3.mono ?_); rintro e w9 ⟨rfl, hb9⟩; have HB9 := Lib.hid hb9; clear hb9)
              go_roundw
              case rel => exact ⟨j + 1, by omega, by go_num, HB8.out.trans (HB9.out.mono HB8.out.size)⟩
              case measure => simp [intOf]; omega
            · go_wp2
              go_roundw
              case rel => exact ⟨i + 1, by omega, by go_num, HB8.out⟩
              case measure => simp [intOf]; omega
        · go_wp2
          go_ret
          exact ⟨rfl, HBW5.out.trans (HB7.out.mono HBW5.out.size)⟩

theorem valB_ways {S W L : Int} (h : valB S W L = true) : ∀ W', valB S W' L = (decide (1 ≤ W') && decide (W' ≤ 8)) := by
  intro W'
  unfold valB at h ⊢
  simp only [Bool.and_eq_true] at h
  obtain ⟨h1, _, _, h2⟩ := h
  rw [h1, h2]
  simp

theorem cacheInclusion_walk (S W L m : Int) (u : Value) (l : List Int) (w : World) (wm : (Lit.int .u8 m).wf = true) (hu : RdK w .i64 u l) (hl : l.length ≤ 9223372036854775807) (wl : ∀ n ∈ l, (Lit.int .i64 n).wf = true) :
    Calls Try.prog 5 #[.agg #[.int .i64 S, .int .i64 W, .int .i64 L], .int .u8 m, u] w fun e w' => e = .returned (.bool true) ∧ Below w.heap.size w w' := by
  obtain ⟨hm0, hm1⟩ := wf_u8 wm
  cases hv : valB S W L with
  | false => exact inc_bad S W L m hm0 hm1 hv u l w hu hl
  | true =>
    obtain ⟨-, -, h1, h2, h3, h4, h5, h6⟩ := valB_spec hv
    obtain ⟨s, rfl⟩ := Int.eq_ofNat_of_zero_le (show 0 ≤ S by omega)
    obtain ⟨wy, rfl⟩ := Int.eq_ofNat_of_zero_le (show 0 ≤ W by omega)
    obtain ⟨ln, rfl⟩ := Int.eq_ofNat_of_zero_le (show 0 ≤ L by omega)
    cases hv2 : valB s ((wy : Int) + m % 8) ln with
    | false => exact inc_half s wy ln m hm0 hm1 hv hv2 u l w hu hl (wf_i64s wl)
    | true => exact inc_good s wy ln m hm0 hm1 hv hv2 u l w hu hl (wf_i64s wl)
end Go.Proofs.Ytgbmbehobemocaa
