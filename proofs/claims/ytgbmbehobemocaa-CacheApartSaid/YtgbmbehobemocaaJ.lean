/- Slices of whole numbers that are read: Ints and great. -/
import Derived.Test.YtgbmbehobemocaaI
namespace Go.Proofs.Ytgbmbehobemocaa
open Go.RowKit
set_option linter.unusedVariables false
set_option linter.unusedSimpArgs false

/-- The slice v reads as xs; its cells lie below block n. -/
def RdI (w : World) (v : Value) (xs : List Int) : Prop :=
  ∃ A c, v = .slice A xs.length c ∧ (xs = [] ∨ ∃ b off, A = some ⟨b, off, none⟩ ∧ b < w.heap.size ∧ ∀ j, j < xs.length → w.cell? ⟨b, off + j, none⟩ = some (.int .i64 (xs.getD j 0)))

theorem RdI.block {w w' : World} {v : Value} {xs : List Int} (h : RdI w v xs) (n : Nat) (hn : w.heap.size ≤ n) (hb : Below n w w') : RdI w' v xs := by
  obtain ⟨A, c, rfl, h⟩ := h
  refine ⟨A, c, rfl, ?_⟩
  rcases h with h | ⟨b, off, rfl, hl, hc⟩
  · exact .inl h
  · exact .inr ⟨b, off, rfl, by have := hb.size; omega, fun j hj => (hb.cell (p := ⟨b, off + j, none⟩) (by show b < n; omega)).trans (hc j hj)⟩
theorem RdI.below {w w' : World} {v : Value} {xs : List Int} (h : RdI w v xs) (hb : Below w.heap.size w w') : RdI w' v xs := h.block _ (Nat.le_refl _) hb

theorem Row.rd {w : World} {v : Value} {xs : List Int} (h : Row w v xs) : RdI w v xs := by
  rcases h with ⟨rfl, rfl⟩ | ⟨g, cap, cur, rfl, hg, hl, hc, hs, hcur⟩
  · exact ⟨none, 0, rfl, .inl rfl⟩
  · refine ⟨some ⟨g, 0, none⟩, cap, rfl, .inr ⟨g, 0, rfl, lt_of_heap hg, fun j hj => ?_⟩⟩
    rw [Nat.zero_add]
    simp only [World.cell?, hg]
    simpa using hcur j hj

def greatB (l : List Int) : Bool := l.any (fun x => decide (100000 < x)) || decide (200 < l.length)

theorem great_any (w : World) (v : Value) (l : List Int) (h : RdI w v l) (hl : l.length ≤ 9223372036854775807) :
    Calls Try.prog 20 #[v] w fun e w' => e = .returned (.bool (greatB l)) ∧ w = w' := by
  obtain ⟨A, c, rfl, h⟩ := h
  obtain ⟨r, hr⟩ : ∃ r, r = greatB l := ⟨_, rfl⟩
  rw [← hr]
  have HR := Lib.hid hr
  have H := Lib.hid h
  clear hr h
  go_enter Try.func20, Try.ntmps20
  go_wp2
  go_loop [7] (fun i => ∃ k : Nat, k ≤ l.length ∧ i = .int .i64 k ∧ Hid (∀ j, j < k → l.getD j 0 ≤ 100000)) (fun i => l.length - (intOf i).toNat)
  case atStart => exact ⟨0, by omega, rfl, fun j hj => by omega⟩
  case round =>
    obtain ⟨k, hk, rfl, HK⟩ := hrel
    by_cases hlt : k < l.length
    · obtain ⟨b, off, rfl, hlb, hcell⟩ : ∃ b off, A = some ⟨b, off, none⟩ ∧ b < w.heap.size ∧ Hid (∀ j, j < l.length → w.cell? ⟨b, off + j, none⟩ = some (.int .i64 (l.getD j 0))) := by
        rcases H.out with h | h
        · subst h; simp at hlt
        · exact h
      have hc := hcell.out k hlt
      obtain ⟨x, hx⟩ : ∃ x, x = l.getD k 0 := ⟨_, rfl⟩
      rw [← hx] at hc
      have HX := Lib.hid hx
      clear hx
      by_cases hgx : 100000 < x
      · go_wp2
        go_ret
        refine ⟨ret_bool ?_, rfl⟩
        rw [HR.out]
        have : l.any (fun x => decide (100000 < x)) = true := List.any_eq_true.2 ⟨x, by
          rw [HX.out, List.getD_eq_getElem?_getD, List.getElem?_eq_getElem hlt]
          exact List.getElem_mem hlt, by simpa using hgx⟩
        simp [greatB, this]
      · go_wp2
        go_round
        case rel =>
          refine ⟨k + 1, by omega, by go_num, fun j hj => ?_⟩
          rcases Nat.lt_or_ge j k with h | h
          · exact HK.out j h
          · have : j = k := by omega
            subst this
            rw [← HX.out]; omega
        case measure => simp [intOf]; omega
    · go_wp2
      all_goals go_ret
      all_goals refine ⟨ret_bool ?_, rfl⟩
      all_goals rw [HR.out]
      have : l.any (fun x => decide (100000 < x)) = false := by
        rw [List.any_eq_false]
        intro x hx
        obtain ⟨j, hj, rfl⟩ := List.getElem_of_mem hx
        have := HK.out j (by omega)
        rw [List.getD_eq_getElem?_getD, List.getElem?_eq_getElem hj] at this
        simp at this ⊢
        exact this
      simp [greatB, this]
      omega

theorem ints_any (w : World) (u v : Value) (xs ys : List Int) (hu : RdI w u xs) (hv : RdI w v ys) (hl : xs.length ≤ 9223372036854775807) :
    Calls Try.prog 29 #[u, v] w fun e w' => e = .returned (.bool (decide (xs = ys))) ∧ Below w.heap.size w w' := by
  obtain ⟨A, c, rfl, hu⟩ := hu
  obtain ⟨B, d, rfl, hv⟩ := hv
  by_cases hlen : xs.length = ys.length
  · obtain ⟨n, hn⟩ : ∃ n, n = xs.length := ⟨_, rfl⟩
    rw [← hlen, ← hn]
    rw [← hn] at hl
    obtain ⟨r, hr⟩ : ∃ r, r = decide (xs = ys) := ⟨_, rfl⟩
    rw [← hr]
    have HR := Lib.hid hr
    have HU := Lib.hid hu
    have HV := Lib.hid hv
    have HN := Lib.hid hn
    have HL := Lib.hid hlen
    clear hr hu hv hn hlen
    go_enter Try.func29, Try.ntmps29
    go_wp2
    go_loopw [5] (fun i wr => ∃ k : Nat, k ≤ n ∧ i = .int .i64 k ∧ Hid (∀ j, j < k → xs.getD j 0 = ys.getD j 0) ∧ Hid (Below w.heap.size w wr)) (fun i _ => n - (intOf i).toNat)
    case atStart => exact ⟨0, by omega, rfl, fun j hj => by omega, Below.refl _ _⟩
    case round =>
      obtain ⟨k, hk, rfl, HK, HB⟩ := hrel
      by_cases hlt : k < n
      · obtain ⟨b, off, rfl, hlb, hcell⟩ : ∃ b off, A = some ⟨b, off, none⟩ ∧ b < w.heap.size ∧ Hid (∀ j, j < xs.length → w.cell? ⟨b, off + j, none⟩ = some (.int .i64 (xs.getD j 0))) := by
          rcases HU.out with h | h
          · have := HN.out; subst h; simp at this; omega
          · exact h
        obtain ⟨b', off', rfl, hlb', hcell'⟩ : ∃ b off, B = some ⟨b, off, none⟩ ∧ b < w.heap.size ∧ Hid (∀ j, j < ys.length → w.cell? ⟨b, off + j, none⟩ = some (.int .i64 (ys.getD j 0))) := by
          rcases HV.out with h | h
          · have e1 := HN.out; have e2 := HL.out; rw [h, List.length_nil] at e2; omega
          · exact h
        have hc := (bcell HB.out b (off + k) hlb).trans (hcell.out k (by have := HN.out; omega))
        have hc' := (bcell HB.out b' (off' + k) hlb').trans (hcell'.out k (by have := HN.out; have := HL.out; omega))
        obtain ⟨x, hx⟩ : ∃ x, x = xs.getD k 0 := ⟨_, rfl⟩
        obtain ⟨y, hy⟩ : ∃ y, y = ys.getD k 0 := ⟨_, rfl⟩
        rw [← hx] at hc
        rw [← hy] at hc'
        have HX := Lib.hid hx
        have HY := Lib.hid hy
        have k0 : (0 : Int) ≤ k := by omega
        have k1 : (k : Int) < n := by omega
        clear hx hy
        by_cases hxy : x = y
        · have q1 : (x != y) = false := by simpa using hxy
          go_wp2
          go_quiet (fail)
          go_wp2
          go_roundw
          case rel =>
            refine ⟨k + 1, by omega, by go_num, fun j hj => ?_, HB.out.trans (Below.drewN_ _ _)⟩
            rcases Nat.lt_or_ge j k with h | h
            · exact HK.out j h
            · have : j = k := by omega
              subst this
              rw [← HX.out, ← HY.out]; exact hxy
          case measure => simp [intOf]; omega
        · have q1 : (x != y) = true := by simpa using hxy
          go_wp2
          go_quiet (fail)
          go_wp2
          go_ret
          refine ⟨ret_bool ?_, HB.out.trans (Below.drewN_ _ _)⟩
          rw [HR.out]
          have : xs ≠ ys := fun e => hxy (by rw [HX.out, HY.out, e])
          simp [this]
      · go_wp2
        go_ret
        refine ⟨ret_bool ?_, HB.out⟩
        rw [HR.out]
        have : xs = ys := by
          apply List.ext_getElem HL.out
          intro j h1 h2
          have := HK.out j (by have := HN.out; omega)
          simpa [List.getD_eq_getElem?_getD, List.getElem?_eq_getElem h1, List.getElem?_eq_getElem h2] using this
        simp [this]
  · have hne : xs ≠ ys := fun e => hlen (by rw [e])
    have hd : decide (xs = ys) = false := by simpa using hne
    rw [hd]
    have h2 : ((xs.length : Int) != (ys.length : Int)) = true := by simp; omega
    clear hd hne
    go_enter Try.func29, Try.ntmps29
    go_wp2
    go_ret
    exact ⟨rfl, Below.refl _ _⟩

#print axioms ints_any
end Go.Proofs.Ytgbmbehobemocaa
