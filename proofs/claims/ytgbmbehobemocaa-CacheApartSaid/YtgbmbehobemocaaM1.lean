/- CachePlaces is true. -/
import Derived.Test.YtgbmbehobemocaaL
import Derived.Test.YtgbmbehobemocaaR
namespace Go.Proofs.Ytgbmbehobemocaa
open Go.RowKit
set_option linter.unusedVariables false
set_option linter.unusedSimpArgs false

def NewP (w : World) (e : Ending) (w' : World) : Prop := Below w.heap.size w w' ∧ ∃ p, e = .returned (.tuple #[.pointer (some p), .int .i64 0])
theorem new_yes (S W L : Int) (w : World) (hb : valB S W L = true) :
    Calls Try.prog 12 #[.agg #[.int .i64 S, .int .i64 W, .int .i64 L]] w (NewP w) := by
  obtain ⟨-, -, h1, h2, h3, h4, h5, h6⟩ := valB_spec hb
  obtain ⟨s, rfl⟩ := Int.eq_ofNat_of_zero_le (show 0 ≤ S by omega)
  obtain ⟨wy, rfl⟩ := Int.eq_ofNat_of_zero_le (show 0 ≤ W by omega)
  obtain ⟨ln, rfl⟩ := Int.eq_ofNat_of_zero_le (show 0 ≤ L by omega)
  exact (new_ok s wy ln w hb).mono fun e w' ⟨h1, b, g, h2, _⟩ => ⟨h1, _, h2⟩

theorem step_box {w w1 w2 : World} {n0 : Nat} {S W L : Value} (hb : Below w1.heap.size w1 w2) (c0 : w1.cell? ⟨n0, 0, none⟩ = some S) (c1 : w1.cell? ⟨n0, 1, none⟩ = some W) (c2 : w1.cell? ⟨n0, 2, none⟩ = some L) (hn : n0 < w1.heap.size) (hb0 : Below n0 w w1) :
    w2.cell? ⟨n0, 0, none⟩ = some S ∧ w2.cell? ⟨n0, 1, none⟩ = some W ∧ w2.cell? ⟨n0, 2, none⟩ = some L ∧ n0 < w2.heap.size ∧ Below n0 w w2 :=
  ⟨(bcell hb n0 0 hn).trans c0, (bcell hb n0 1 hn).trans c1, (bcell hb n0 2 hn).trans c2, Nat.lt_of_lt_of_le hn hb.size, hb0.trans (hb.mono (by omega))⟩

theorem places_any (S W L a l : Int) (ha : a ≤ 9223372036854775807) (hl : l ≤ 9223372036854775807) (w : World) :
    Calls Try.prog 3 #[.agg #[.int .i64 S, .int .i64 W, .int .i64 L], .int .i64 a, .int .i64 l] w fun e w' => e = .returned (.bool true) ∧ Below w.heap.size w w' := by
  have C11 := awake_any
  have C13 := rvalid_any S W L
  have C14 := valid_any S W L
  have C15 := line_any S W L a ha
  have C16 := rline_any S W L a ha
  have C17 := set_any S W L l hl
  have C18 := rset_any S W L l hl
  obtain ⟨v, hv⟩ : ∃ v, v = valB S W L := ⟨_, rfl⟩
  obtain ⟨p, hp⟩ : ∃ p, p = lineF S W L a := ⟨_, rfl⟩
  obtain ⟨q, hq⟩ : ∃ q, q = setF S W L l := ⟨_, rfl⟩
  rw [← hv] at C13 C14
  rw [← hp] at C15 C16
  rw [← hq] at C17 C18
  clear hp hq
  cases v with
  | false =>
    have C12 := fun w => new_bad S W L w hv.symm
    clear hv
    go_enter Try.func3, Try.ntmps3
    go_wp2_with (fail)
    obtain ⟨wb, hwb⟩ : ∃ wb, wb = w.alloc (.cells #[.int .i64 S, .int .i64 W, .int .i64 L] 23) := ⟨_, rfl⟩
    obtain ⟨n0, hn0⟩ : ∃ n0, n0 = w.heap.size := ⟨_, rfl⟩
    have hw0 : wb.cell? ⟨n0, 0, none⟩ = some (.int .i64 S) ∧ wb.cell? ⟨n0, 1, none⟩ = some (.int .i64 W) ∧ wb.cell? ⟨n0, 2, none⟩ = some (.int .i64 L) ∧ n0 < wb.heap.size ∧ Below n0 w wb := by
      rw [hwb, hn0]
      exact ⟨by simp, by simp, by simp, by simp, (Below.refl _ _).alloc (Nat.le_refl _) _⟩
    rw [← hwb, ← hn0]
    have HN0 := Lib.hid hn0
    clear hwb hn0
    obtain ⟨c0, c1, c2, hn, hb0⟩ := hw0
    refine (C11 wb).mono ?_
    rintro e w1 ⟨rfl, hb⟩
    obtain ⟨c0, c1, c2, hn, hb0⟩ := step_box hb c0 c1 c2 hn hb0
    go_wp2_with (first
      | (go_at_call 12; (with_reducible refine (C12 _).mono ?_); rintro e w1 ⟨rfl, hb⟩; obtain ⟨c0, c1, c2, hn, hb0⟩ := step_box hb c0 c1 c2 hn hb0)
      | (go_at_call 13; (with_reducible refine (C13 _).mono ?_); rintro e w1 ⟨rfl, hb⟩; obtain ⟨c0, c1, c2, hn, hb0⟩ := step_box hb c0 c1 c2 hn hb0)
      | (go_at_call 14; (with_reducible refine (C14 _).mono ?_); rintro e w1 ⟨rfl, hb⟩; obtain ⟨c0, c1, c2, hn, hb0⟩ := step_box hb c0 c1 c2 hn hb0))
    have hle : n0 ≤ w1.heap.size := by omega
    go_region_held3 (fun w' => w'.cell? ⟨n0, 0, none⟩ = some (.int .i64 S) ∧ w'.cell? ⟨n0, 1, none⟩ = some (.int .i64 W) ∧ w'.cell? ⟨n0, 2, none⟩ = some (.int .i64 L)) (go_keep) (first
      | (go_at_call 15; (with_reducible refine (C15 _).mono ?_); rintro e w15 ⟨rfl, hb15⟩; have k15 := fun o => bcell hb15 n0 o hn; have hn := Nat.lt_of_lt_of_le (show n0 < _ from hn) hb15.size)
      | (go_at_call 16; (with_reducible refine (C16 _).mono ?_); rintro e w16 ⟨rfl, hb16⟩; have k16 := fun o => bcell hb16 n0 o hn; have hn := Nat.lt_of_lt_of_le hn hb16.size)
      | (go_at_call 17; (with_reducible refine (C17 _).mono ?_); rintro e w17 ⟨rfl, hb17⟩; have k17 := fun o => bcell hb17 n0 o hn; have hn := Nat.lt_of_lt_of_le hn hb17.size)
      | (go_at_call 18; (with_reducible refine (C18 _).mono ?_); rintro e w18 ⟨rfl, hb18⟩; have k18 := fun o => bcell hb18 n0 o hn; have hn := Nat.lt_of_lt_of_le hn hb18.size))
    go_wp2
    go_ret
    have e1 := hb15.size
    have e2 := hb16.size
    have e3 := hb17.size
    have e4 := hb18.size
    simp at e1
    refine ⟨rfl, ?_⟩
    rw [← HN0.out]
    exact (((hb0.drew.trans (hb15.mono (show n0 ≤ _ from hle))).trans (hb16.mono (by omega))).trans (hb17.mono (by omega))).trans (hb18.mono (by omega))
  | true =>
    have C12 := fun w => new_yes S W L w hv.symm
    clear hv
    go_enter Try.func3, Try.ntmps3
    go_wp2_with (fail)
    obtain ⟨wb, hwb⟩ : ∃ wb, wb = w.alloc (.cells #[.int .i64 S, .int .i64 W, .int .i64 L] 23) := ⟨_, rfl⟩
    obtain ⟨n0, hn0⟩ : ∃ n0, n0 = w.heap.size := ⟨_, rfl⟩
    have hw0 : wb.cell? ⟨n0, 0, none⟩ = some (.int .i64 S) ∧ wb.cell? ⟨n0, 1, none⟩ = some (.int .i64 W) ∧ wb.cell? ⟨n0, 2, none⟩ = some (.int .i64 L) ∧ n0 < wb.heap.size ∧ Below n0 w wb := by
      rw [hwb, hn0]
      exact ⟨by simp, by simp, by simp, by simp, (Below.refl _ _).alloc (Nat.le_refl _) _⟩
    rw [← hwb, ← hn0]
    have HN0 := Lib.hid hn0
    clear hwb hn0
    obtain ⟨c0, c1, c2, hn, hb0⟩ := hw0
    refine (C11 wb).mono ?_
    rintro e w1 ⟨rfl, hb⟩
    obtain ⟨c0, c1, c2, hn, hb0⟩ := step_box hb c0 c1 c2 hn hb0
    go_wp2_with (first
      | (go_at_call 12; (with_reducible refine (C12 _).mono ?_); rintro e w1 ⟨hb, p0, rfl⟩; obtain ⟨c0, c1, c2, hn, hb0⟩ := step_box hb c0 c1 c2 hn hb0)
      | (go_at_call 13; (with_reducible refine (C13 _).mono ?_); rintro e w1 ⟨rfl, hb⟩; obtain ⟨c0, c1, c2, hn, hb0⟩ := step_box hb c0 c1 c2 hn hb0)
      | (go_at_call 14; (with_reducible refine (C14 _).mono ?_); rintro e w1 ⟨rfl, hb⟩; obtain ⟨c0, c1, c2, hn, hb0⟩ := step_box hb c0 c1 c2 hn hb0))
    have hle : n0 ≤ w1.heap.size := by omega
    go_region_held3 (fun w' => w'.cell? ⟨n0, 0, none⟩ = some (.int .i64 S) ∧ w'.cell? ⟨n0, 1, none⟩ = some (.int .i64 W) ∧ w'.cell? ⟨n0, 2, none⟩ = some (.int .i64 L)) (go_keep) (first
      | (go_at_call 15; (with_reducible refine (C15 _).mono ?_); rintro e w15 ⟨rfl, hb15⟩; have k15 := fun o => bcell hb15 n0 o hn; have hn := Nat.lt_of_lt_of_le (show n0 < _ from hn) hb15.size)
      | (go_at_call 16; (with_reducible refine (C16 _).mono ?_); rintro e w16 ⟨rfl, hb16⟩; have k16 := fun o => bcell hb16 n0 o hn; have hn := Nat.lt_of_lt_of_le hn hb16.size)
      | (go_at_call 17; (with_reducible refine (C17 _).mono ?_); rintro e w17 ⟨rfl, hb17⟩; have k17 := fun o => bcell hb17 n0 o hn; have hn := Nat.lt_of_lt_of_le hn hb17.size)
      | (go_at_call 18; (with_reducible refine (C18 _).mono ?_); rintro e w18 ⟨rfl, hb18⟩; have k18 := fun o => bcell hb18 n0 o hn; have hn := Nat.lt_of_lt_of_le hn hb18.size))
    go_wp2
    go_ret
    have e1 := hb15.size
    have e2 := hb16.size
    have e3 := hb17.size
    have e4 := hb18.size
    simp at e1
    refine ⟨rfl, ?_⟩
    rw [← HN0.out]
    exact (((hb0.drew.trans (hb15.mono (show n0 ≤ _ from hle))).trans (hb16.mono (by omega))).trans (hb17.mono (by omega))).trans (hb18.mono (by omega))
theorem cachePlaces_walk (S W L a l : Int) (w : World) (ha : (Lit.int .i64 a).wf = true) (hl : (Lit.int .i64 l).wf = true) :
    Calls Try.prog 3 #[.agg #[.int .i64 S, .int .i64 W, .int .i64 L], .int .i64 a, .int .i64 l] w fun e w' => e = .returned (.bool true) ∧ Below w.heap.size w w' :=
  places_any S W L a l (wf_i64 ha) (wf_i64 hl) w

end Go.Proofs.Ytgbmbehobemocaa
