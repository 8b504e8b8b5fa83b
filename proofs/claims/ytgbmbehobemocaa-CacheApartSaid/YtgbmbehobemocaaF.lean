/- What Clone and Access return and make. -/
import Derived.Test.YtgbmbehobemocaaE
namespace Go.Proofs.Ytgbmbehobemocaa
open Go.RowKit
set_option linter.unusedVariables false
set_option linter.unusedSimpArgs false

theorem clone_nil (w : World) : Calls Try.prog 27 #[.pointer none] w fun e w' => e = .returned (.pointer none) ∧ w = w' := by
  go_enter Try.func27, Try.ntmps27
  go_wp2
  go_ret
  exact ⟨rfl, rfl⟩

def CopyPost (w : World) (s wy ln : Nat) (xss : List (List Int)) (e : Ending) (w' : World) : Prop :=
  Below w.heap.size w w' ∧ ∃ b g vs, e = .returned (.pointer (some ⟨b, 0, none⟩)) ∧ CacheAt w' (fun k => w.heap.size ≤ k) b g s wy ln vs xss

theorem clone_ok (F : Nat → Prop) (w : World) (b g s wy ln : Nat) (vs : List Value) (xss : List (List Int)) (h : CacheAt w F b g s wy ln vs xss) (h1 : 1 ≤ s) (h2 : s ≤ 64) (h3 : ∀ xs ∈ xss, xs.length ≤ 1000000) :
    Calls Try.prog 27 #[.pointer (some ⟨b, 0, none⟩)] w (CopyPost w s wy ln xss) := by
  have hb := h.blk
  have hc0 : w.cell? ⟨b, 0, none⟩ = some (.int .i64 s) := by simp [World.cell?, hb]
  have hc1 : w.cell? ⟨b, 1, none⟩ = some (.int .i64 wy) := by simp [World.cell?, hb]
  have hc2 : w.cell? ⟨b, 2, none⟩ = some (.int .i64 ln) := by simp [World.cell?, hb]
  have hlb : b < w.heap.size := lt_of_heap hb
  have C1 := lines_ok F w.drew b g s wy ln vs xss (h.below ((Below.refl _ _).drew)) h1 h2 h3
  clear h hb h3
  go_enter Try.func27, Try.ntmps27
  go_wp2
  go_region_held3 (fun w' => w'.cell? ⟨b, 0, none⟩ = some (.int .i64 s) ∧ w'.cell? ⟨b, 1, none⟩ = some (.int .i64 wy) ∧ w'.cell? ⟨b, 2, none⟩ = some (.int .i64 ln)) (go_keep)
    (first | (go_at_call 24; ((with_reducible refine C1.mono ?_); rintro e w1 ⟨hb1, g', us, rfl, hm⟩; have k1 : ∀ o, w1.cell? ⟨b, o, none⟩ = w.cell? ⟨b, o, none⟩ := fun o => bcell hb1 b o hlb; have HM := Lib.hid hm; clear hm)))
  go_wp2
  go_ret
  have hm := HM.out
  have hs := hb1.size
  refine ⟨(((Below.refl _ _).drew).trans hb1).alloc hs _, w1.heap.size, g', us, rfl, MatAt.cache ?_ ?_ ?_⟩
  · exact hm.below ((Below.refl _ _).alloc (Nat.le_refl _) _)
  · exact hs
  · exact heap_alloc_new w1 _

/-- The line x becomes the most recent one; at most wy lines stay. -/
def touch (wy : Nat) (x : Int) (xs : List Int) : List Int := (x :: xs.erase x).take wy

theorem idx_mem (x : Int) : ∀ (xs : List Int), (x ∈ xs → ∃ k : Nat, k < xs.length ∧ Lib.idxOf xs x = k ∧ xs.eraseIdx k = xs.erase x) ∧ (x ∉ xs → Lib.idxOf xs x = -1) := by
  have key : ∀ (xs : List Int) (i : Nat), (x ∈ xs → ∃ k : Nat, k < xs.length ∧ Lib.idxFrom xs x i = ((i + k : Nat) : Int) ∧ xs.eraseIdx k = xs.erase x) ∧ (x ∉ xs → Lib.idxFrom xs x i = -1) := by
    intro xs
    induction xs with
    | nil => exact fun i => ⟨fun h => by simp at h, fun _ => rfl⟩
    | cons z zs ih =>
      intro i
      by_cases hz : z = x
      · subst hz
        exact ⟨fun _ => ⟨0, by simp, by simp [Lib.idxFrom], by simp⟩, fun h => by simp at h⟩
      · obtain ⟨h1, h2⟩ := ih (i + 1)
        refine ⟨fun h => ?_, fun h => ?_⟩
        · have hm : x ∈ zs := by
            rcases List.mem_cons.1 h with h | h
            · exact absurd h.symm hz
            · exact h
          obtain ⟨k, k1, k2, k3⟩ := h1 hm
          refine ⟨k + 1, by simpa using k1, ?_, ?_⟩
          · simp only [Lib.idxFrom, if_neg hz, k2]
            omega
          · rw [List.eraseIdx_cons_succ, k3, List.erase_cons_tail (by simpa using hz)]
        · simp only [Lib.idxFrom, if_neg hz]
          exact h2 (fun hm => h (List.mem_cons_of_mem _ hm))
  intro xs
  obtain ⟨h1, h2⟩ := key xs 0
  refine ⟨fun h => ?_, h2⟩
  obtain ⟨k, k1, k2, k3⟩ := h1 h
  exact ⟨k, k1, by unfold Lib.idxOf; rw [k2, Nat.zero_add], k3⟩

theorem access_nil (a : Int) (w : World) : Calls Try.prog 23 #[.pointer none, .int .i64 a] w fun e w' => e = .returned (.bool false) ∧ w = w' := by
  go_enter Try.func23, Try.ntmps23
  go_wp2
  go_ret
  exact ⟨rfl, rfl⟩
theorem access_neg (b : Nat) (a : Int) (ha : a < 0) (w : World) : Calls Try.prog 23 #[.pointer (some ⟨b, 0, none⟩), .int .i64 a] w fun e w' => e = .returned (.bool false) ∧ w = w' := by
  go_enter Try.func23, Try.ntmps23
  go_wp2
  go_ret
  exact ⟨rfl, rfl⟩
end Go.Proofs.Ytgbmbehobemocaa
