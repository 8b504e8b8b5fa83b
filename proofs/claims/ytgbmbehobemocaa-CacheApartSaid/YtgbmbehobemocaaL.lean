/- A cache made by accesses, and the count of misses. -/
import Derived.Test.YtgbmbehobemocaaK
namespace Go.Proofs.Ytgbmbehobemocaa
open Go.RowKit
set_option linter.unusedVariables false
set_option linter.unusedSimpArgs false

def I64s (l : List Int) : Prop := ∀ x ∈ l, x ≤ 9223372036854775807
theorem I64s.get {l : List Int} (h : I64s l) {k : Nat} (hk : k < l.length) : l.getD k 0 ≤ 9223372036854775807 := by
  rw [List.getD_eq_getElem?_getD, List.getElem?_eq_getElem hk]
  exact h _ (List.getElem_mem hk)

theorem RdI.at {w0 w : World} {A : Option Addr} {n c : Nat} {l : List Int} (h : RdI w0 (.slice A n c) l) (hb : Below w0.heap.size w0 w) {k : Nat} (hk : k < l.length) :
    ∃ b off, A = some ⟨b, off, none⟩ ∧ b < w0.heap.size ∧ w.cell? ⟨b, off + k, none⟩ = some (.int .i64 (l.getD k 0)) := by
  obtain ⟨A', c', he, h⟩ := h
  injection he with h1 h2 h3
  subst h1
  rcases h with h | ⟨b, off, rfl, hl, hc⟩
  · subst h; simp at hk
  · exact ⟨b, off, rfl, hl, (bcell hb b _ hl).trans (hc k hk)⟩
theorem RdI.slice {w : World} {v : Value} {xs : List Int} (h : RdI w v xs) : ∃ A c, v = .slice A xs.length c := by
  obtain ⟨A, c, he, _⟩ := h
  exact ⟨A, c, he⟩

def MadeP (w : World) (s wy ln : Nat) (xss : List (List Int)) (e : Ending) (w' : World) : Prop :=
  Below w.heap.size w w' ∧ ∃ b : Nat, e = .returned (.pointer (some ⟨b, 0, none⟩)) ∧ Ca w' (fun k => w.heap.size ≤ k) b s wy ln xss

theorem made_ok (s wy ln : Nat) (v : Value) (l : List Int) (w0 w : World) (hv : valB s wy ln = true) (h : RdI w0 v l) (hB : Below w0.heap.size w0 w) (hl : l.length ≤ 9223372036854775807) (hi : I64s l) :
    Calls Try.prog 19 #[.agg #[.int .i64 s, .int .i64 wy, .int .i64 ln], v] w (MadeP w s wy ln (runF s wy ln (emptyF s) l)) := by
  obtain ⟨A, c, rfl⟩ := h.slice
  have N := fun w => new_ok s wy ln w hv
  have HH := Lib.hid h
  have HI := Lib.hid hi
  have HB0 := Lib.hid hB
  have HVB := Lib.hid hv
  have hsz := hB.size
  clear h hi hB hv
  go_enter Try.func19, Try.ntmps19
  go_wp2_with (go_at_call 12; (with_reducible refine (N _).mono ?_); rintro e w1 hn; obtain ⟨hb1, b, rfl, hc1⟩ := hn.ca; clear hn; have HC1 := Lib.hid hc1; have HB1 := Lib.hid hb1; clear hc1 hb1)
  go_loopw [18] (fun i wr => ∃ k : Nat, k ≤ l.length ∧ i = .int .i64 k ∧ Hid (Below w.heap.size w wr) ∧ Hid (Ca wr (fun k => w.heap.size ≤ k) b s wy ln (runF s wy ln (emptyF s) (l.take k)))) (fun i _ => l.length - (intOf i).toNat)
  case atStart =>
    refine ⟨0, by omega, rfl, ?_, ?_⟩
    · exact ((Below.refl _ _).alloc (Nat.le_refl _) _).trans (HB1.out.mono (by simp))
    · exact HC1.out.mono (fun k hk => by simp at hk; omega)
  case round =>
    obtain ⟨k, hk, rfl, HB, HC⟩ := hrel
    by_cases hlt : k < l.length
    · obtain ⟨b1, off, rfl, hlb, hc⟩ := HH.out.at (HB0.out.trans (HB.out.mono hsz)) hlt
      obtain ⟨x, hx⟩ : ∃ x, x = l.getD k 0 := ⟨_, rfl⟩
      have hx63 := HI.out.get hlt
      rw [← hx] at hc hx63
      have HX := Lib.hid hx
      clear hx
      have A1 := access_o w.heap.size wr b s wy ln _ HC.out HB.out.size HVB.out x hx63
      go_wp2_with (go_at_call 23; (with_reducible refine A1.mono ?_); rintro e w2 ⟨rfl, hc2, hb2⟩; have HC2 := Lib.hid hc2; have HB2 := Lib.hid hb2; clear hc2 hb2)
      go_roundw
      case rel =>
        refine ⟨k + 1, by omega, by go_num, HB.out.trans HB2.out, ?_⟩
        show Ca _ _ _ _ _ _ _
        rw [runF_snoc _ _ _ _ _ _ hlt, ← HX.out]
        exact HC2.out
      case measure => simp [intOf]; omega
    · go_wp2
      go_ret
      have : k = l.length := by omega
      subst this
      have hc := HC.out
      rw [List.take_length] at hc
      exact ⟨HB.out, b, rfl, hc⟩

/-- How many of the accesses miss. -/
def missN (s wy ln : Nat) : List (List Int) → List Int → Nat
  | _, [] => 0
  | xss, a :: l => (if 0 ≤ a ∧ hitB s ln xss a = false then 1 else 0) + missN s wy ln (accF s wy ln xss a) l
theorem missN_append (s wy ln : Nat) : ∀ (l r : List Int) (xss : List (List Int)), missN s wy ln xss (l ++ r) = missN s wy ln xss l + missN s wy ln (runF s wy ln xss l) r
  | [], r, xss => by simp [missN, runF]
  | a :: l, r, xss => by
    rw [List.cons_append, missN, missN, missN_append s wy ln l r, Nat.add_assoc]
    rfl
theorem missN_snoc (s wy ln : Nat) (xss : List (List Int)) (l : List Int) (k : Nat) (hk : k < l.length) : missN s wy ln xss (l.take (k + 1)) = missN s wy ln xss (l.take k) + (if 0 ≤ l.getD k 0 ∧ hitB s ln (runF s wy ln xss (l.take k)) (l.getD k 0) = false then 1 else 0) := by
  have : l.take (k + 1) = l.take k ++ [l.getD k 0] := by
    rw [List.take_succ_eq_append_getElem hk, List.getD_eq_getElem?_getD, List.getElem?_eq_getElem hk]; rfl
  rw [this, missN_append]
  simp [missN]
theorem missN_le (s wy ln : Nat) : ∀ (l : List Int) (xss : List (List Int)), missN s wy ln xss l ≤ l.length
  | [], _ => Nat.le_refl _
  | a :: l, xss => by
    have := missN_le s wy ln l (accF s wy ln xss a)
    rw [missN, List.length_cons]
    split <;> omega

def MissP (w : World) (F : Nat → Prop) (b s wy ln : Nat) (xss : List (List Int)) (l : List Int) (e : Ending) (w' : World) : Prop :=
  e = .returned (.int .i64 (missN s wy ln xss l)) ∧ Ca w' (fun k => F k ∨ w.heap.size ≤ k) b s wy ln (runF s wy ln xss l) ∧ Fr F w w'

theorem misses_any (F : Nat → Prop) (b s wy ln : Nat) (xss : List (List Int)) (v : Value) (l : List Int) (w0 w : World) (hc : Ca w F b s wy ln xss) (hv : valB s wy ln = true) (h : RdI w0 v l) (hB : Below w0.heap.size w0 w) (hF : ∀ k, F k → w0.heap.size ≤ k) (hl : l.length ≤ 1000000) (hi : I64s l) :
    Calls Try.prog 21 #[.pointer (some ⟨b, 0, none⟩), v] w (MissP w F b s wy ln xss l) := by
  obtain ⟨A, c, rfl⟩ := h.slice
  have HH := Lib.hid h
  have HI := Lib.hid hi
  have HB0 := Lib.hid hB
  have HVB := Lib.hid hv
  have HCC := Lib.hid hc
  have HFF := Lib.hid hF
  have hsz := hB.size
  clear h hi hB hv hc hF
  go_enter Try.func21, Try.ntmps21
  go_wp2
  go_loopw [5, 10] (fun n i wr => ∃ k : Nat, k ≤ l.length ∧ i = .int .i64 k ∧ n = .int .i64 (missN s wy ln xss (l.take k)) ∧ Hid (Fr F w wr) ∧ Hid (Ca wr (fun k => F k ∨ w.heap.size ≤ k) b s wy ln (runF s wy ln xss (l.take k)))) (fun _ i _ => l.length - (intOf i).toNat)
  case atStart => exact ⟨0, by omega, rfl, by simp [missN], Fr.refl _ _, HCC.out.mono (fun k hk => .inl hk)⟩
  case round =>
    obtain ⟨k, hk, rfl, rfl, HFR, HC⟩ := hrel
    by_cases hlt : k < l.length
    · have hBw : Below w0.heap.size w0 wr := HB0.out.trans (HFR.out.below hsz HFF.out)
      obtain ⟨b1, off, rfl, hlb, hc⟩ := HH.out.at hBw hlt
      obtain ⟨x, hx⟩ : ∃ x, x = l.getD k 0 := ⟨_, rfl⟩
      have hx63 := HI.out.get hlt
      rw [← hx] at hc hx63
      have hml := missN_le s wy ln (l.take k) xss
      have htl : (l.take k).length ≤ k := List.length_take_le _ _
      have HM : Hid (missN s wy ln xss (l.take (k + 1)) = missN s wy ln xss (l.take k) + (if 0 ≤ x ∧ hitB s ln (runF s wy ln xss (l.take k)) x = false then 1 else 0)) := by
        rw [hx]; exact missN_snoc s wy ln xss l k hlt
      have HR : Hid (runF s wy ln xss (l.take (k + 1)) = accF s wy ln (runF s wy ln xss (l.take k)) x) := by
        rw [hx]; exact runF_snoc s wy ln xss l k hlt
      obtain ⟨m, hm⟩ : ∃ m, m = missN s wy ln xss (l.take k) := ⟨_, rfl⟩
      rw [← hm] at hml HM ⊢
      clear hx hm
      by_cases hx0 : 0 ≤ x
      · have A1 := access_ca _ wr b s wy ln _ HC.out HVB.out x hx63
        have hsw := HFR.out.size
        cases hh : hitB s ln (runF s wy ln xss (l.take k)) x with
        | true =>
          unfold AccP at A1
          rw [hh] at A1
          have HHH := Lib.hid hh
          clear hh
          go_wp2_with (go_at_call 23; (with_reducible refine A1.mono ?_); rintro e w2 ⟨rfl, hc2, hf2⟩; have HC2 := Lib.hid hc2; have HF2 := Lib.hid hf2; clear hc2 hf2)
          go_roundw
          case rel =>
            refine ⟨k + 1, by omega, by go_num, ?_, HFR.out.trans HF2.out (fun k hk h => by rcases h with h | h; exact h; omega), ?_⟩
            · rw [HM.out, if_neg (by rw [HHH.out]; simp)]; rfl
            · show Ca _ _ _ _ _ _ _
              rw [HR.out]
              exact HC2.out.mono (fun k hk => by rcases hk with (h | h) | h; exact .inl h; exact .inr h; exact .inr (by omega))
          case measure => simp [intOf]; omega
        | false =>
          unfold AccP at A1
          rw [hh] at A1
          have HHH := Lib.hid hh
          clear hh
          go_wp2_with (go_at_call 23; (with_reducible refine A1.mono ?_); rintro e w2 ⟨rfl, hc2, hf2⟩; have HC2 := Lib.hid hc2; have HF2 := Lib.hid hf2; clear hc2 hf2)
          go_roundw
          case rel =>
            refine ⟨k + 1, by omega, by go_num, ?_, HFR.out.trans HF2.out (fun k hk h => by rcases h with h | h; exact h; omega), ?_⟩
            · rw [HM.out, if_pos ⟨hx0, HHH.out⟩]; go_num
            · show Ca _ _ _ _ _ _ _
              rw [HR.out]
              exact HC2.out.mono (fun k hk => by rcases hk with (h | h) | h; exact .inl h; exact .inr h; exact .inr (by omega))
          case measure => simp [intOf]; omega
      · go_wp2
        go_roundw
        case rel =>
          refine ⟨k + 1, by omega, by go_num, ?_, HFR.out, ?_⟩
          · rw [HM.out, if_neg (by omega)]; rfl
          · show Ca _ _ _ _ _ _ _
            rw [HR.out, accF, if_neg hx0]
            exact HC.out
        case measure => simp [intOf]; omega
    · go_wp2
      go_ret
      have : k = l.length := by omega
      subst this
      have hc := HC.out
      rw [List.take_length] at hc ⊢
      exact ⟨rfl, hc, HFR.out⟩

#print axioms made_ok
#print axioms misses_any
end Go.Proofs.Ytgbmbehobemocaa
