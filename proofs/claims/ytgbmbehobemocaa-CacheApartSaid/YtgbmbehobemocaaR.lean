/- What a row hands to a walk: integers in their bounds, slices that are read. -/
import Derived.Test.YtgbmbehobemocaaJ
import Derived.ProofKit
namespace Go.Proofs.Ytgbmbehobemocaa
open Go.RowKit Go.ChangeShapes Go.WideShapes Go.ChangeAt
theorem wf_i64' {a : Int} (h : (Lit.int .i64 a).wf = true) : -9223372036854775808 ≤ a ∧ a ≤ 9223372036854775807 := by
  simp only [Lit.wf, Bool.and_eq_true, decide_eq_true_eq] at h
  exact h
theorem wf_i64 {a : Int} (h : (Lit.int .i64 a).wf = true) : a ≤ 9223372036854775807 := (wf_i64' h).2
theorem wf_u8 {a : Int} (h : (Lit.int .u8 a).wf = true) : 0 ≤ a ∧ a ≤ 255 := by
  simp only [Lit.wf, Bool.and_eq_true, decide_eq_true_eq] at h
  exact h
theorem fieldInt {H : Type} {enc : TypeId × Value → H} {W : World} {base : Nat} {spare : Nat → Bool} {held : Bool} {n : Nat} {c : Value} {y : DataW H × List MemPlace} (h : DataW.trod enc Try.prog W base spare held n 3 [c] = some y) : ∃ z : Int, c = .int .i64 z ∧ z ≤ 9223372036854775807 := by
  obtain ⟨z, h1, _, h2⟩ := DataW.trod_int Try.underlying3 h
  exact ⟨z, by simpa using h1, wf_i64 h2⟩
/-- The slice v of integers of kind k reads as xs. -/
def RdK (w : World) (k : IntKind) (v : Value) (xs : List Int) : Prop :=
  ∃ A c, v = .slice A xs.length c ∧ (xs = [] ∨ ∃ b off, A = some ⟨b, off, none⟩ ∧ b < w.heap.size ∧ ∀ j, j < xs.length → w.cell? ⟨b, off + j, none⟩ = some (.int k (xs.getD j 0)))
theorem RdK.rdI {w : World} {v : Value} {xs : List Int} (h : RdK w .i64 v xs) : RdI w v xs := h
theorem RdK.at {w0 w : World} {k : IntKind} {A : Option Addr} {n c : Nat} {l : List Int} (h : RdK w0 k (.slice A n c) l) (hb : Below w0.heap.size w0 w) {j : Nat} (hk : j < l.length) :
    ∃ b off, A = some ⟨b, off, none⟩ ∧ b < w0.heap.size ∧ w.cell? ⟨b, off + j, none⟩ = some (.int k (l.getD j 0)) := by
  obtain ⟨A', c', he, h⟩ := h
  injection he with h1 h2 h3
  subst h1
  rcases h with h | ⟨b, off, rfl, hl, hc⟩
  · subst h; simp at hk
  · exact ⟨b, off, rfl, hl, (bcell hb b _ hl).trans (hc j hk)⟩
theorem RdK.slice {w : World} {k : IntKind} {v : Value} {xs : List Int} (h : RdK w k v xs) : ∃ A c, v = .slice A xs.length c := by
  obtain ⟨A, c, he, _⟩ := h
  exact ⟨A, c, he⟩
theorem rd_of_open {W : World} {x : Addr} {l c : Nat} {zs : List Int} {k : IntKind} (hl : l ≤ c) (hz : zs.length = c) (hb : ∀ i, i < zs.length → W.cell? (x.add i) = some (.int k (zs.getD i 0))) : RdK W k (.slice (some x) l c) (zs.take l) := by
  have hlen : (zs.take l).length = l := by rw [List.length_take]; omega
  refine ⟨some x, c, by rw [hlen], ?_⟩
  by_cases h0 : l = 0
  · exact .inl (List.length_eq_zero_iff.1 (by omega))
  · right
    have h1 : W.cell? x = some (.int k (zs.getD 0 0)) := by
      have := hb 0 (by omega)
      simpa [Addr.add] using this
    have hs : x.spot = none := by
      simp only [World.cell?] at h1
      split at h1
      · cases hx : x.spot with
        | none => rfl
        | some q => rw [hx] at h1; simp at h1
      · cases h1
    obtain ⟨b, off, sp⟩ := x
    simp only at hs
    subst hs
    refine ⟨b, off, rfl, World.block_lt_of_cell? W _ h1, fun j hj => ?_⟩
    have := hb j (by omega)
    rw [Addr.add_lit] at this
    rw [this, List.getD_eq_getElem?_getD, List.getD_eq_getElem?_getD, List.getElem?_take, if_pos (by omega)]

end Go.Proofs.Ytgbmbehobemocaa
