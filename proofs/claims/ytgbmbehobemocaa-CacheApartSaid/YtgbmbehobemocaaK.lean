/- The chapter's example, a cache made by accesses, and the count of misses. -/
import Derived.Test.YtgbmbehobemocaaJ
namespace Go.Proofs.Ytgbmbehobemocaa
open Go.RowKit
set_option linter.unusedVariables false
set_option linter.unusedSimpArgs false

def Ca (w : World) (F : Nat → Prop) (b s wy ln : Nat) (xss : List (List Int)) : Prop := ∃ g vs, CacheAt w F b g s wy ln vs xss ∧ ∀ xs ∈ xss, xs.length ≤ wy

/-- The contents after an access; was it a hit? -/
def accF (s wy ln : Nat) (xss : List (List Int)) (a : Int) : List (List Int) :=
  if 0 ≤ a then xss.set (a / ln % s).toNat (touch wy (a / ln) (xss.getD (a / ln % s).toNat [])) else xss
def hitB (s ln : Nat) (xss : List (List Int)) (a : Int) : Bool := decide (0 ≤ a) && decide (a / ln ∈ xss.getD (a / ln % s).toNat [])

def AccP (w : World) (F : Nat → Prop) (b s wy ln : Nat) (xss : List (List Int)) (a : Int) (e : Ending) (w' : World) : Prop :=
  e = .returned (.bool (hitB s ln xss a)) ∧ Ca w' (fun k => F k ∨ w.heap.size ≤ k) b s wy ln (accF s wy ln xss a) ∧ Fr F w w'

theorem touch_len (wy : Nat) (x : Int) (xs : List Int) : (touch wy x xs).length ≤ wy := by unfold touch; simp; omega

theorem acc_len {s wy ln : Nat} {xss : List (List Int)} (h : ∀ xs ∈ xss, xs.length ≤ wy) (a : Int) : ∀ xs ∈ accF s wy ln xss a, xs.length ≤ wy := by
  unfold accF
  split
  · intro xs hx
    rcases List.mem_or_eq_of_mem_set hx with h1 | rfl
    · exact h xs h1
    · exact touch_len _ _ _
  · exact h

theorem Ca.mono {w : World} {F G : Nat → Prop} {b s wy ln : Nat} {xss : List (List Int)} (h : Ca w F b s wy ln xss) (hG : ∀ k, F k → G k) : Ca w G b s wy ln xss := by
  obtain ⟨g, vs, h, h2⟩ := h
  exact ⟨g, vs, h.mono hG, h2⟩
theorem Ca.below {w w' : World} {F : Nat → Prop} {b s wy ln : Nat} {xss : List (List Int)} (h : Ca w F b s wy ln xss) (hb : Below w.heap.size w w') : Ca w' F b s wy ln xss := by
  obtain ⟨g, vs, h, h2⟩ := h
  exact ⟨g, vs, h.below hb, h2⟩
theorem Ca.keep {w w' : World} {F G : Nat → Prop} {b s wy ln : Nat} {xss : List (List Int)} (h : Ca w F b s wy ln xss) (hf : Fr G w w') (hG : ∀ k, F k → ¬ G k) : Ca w' (fun k => F k ∧ k < w.heap.size) b s wy ln xss := by
  obtain ⟨g, vs, h, h2⟩ := h
  exact ⟨g, vs, h.keep hf hG, h2⟩

theorem access_ca (F : Nat → Prop) (w : World) (b s wy ln : Nat) (xss : List (List Int)) (h : Ca w F b s wy ln xss) (hv : valB s wy ln = true) (a : Int) (ha2 : a ≤ 9223372036854775807) :
    Calls Try.prog 23 #[.pointer (some ⟨b, 0, none⟩), .int .i64 a] w (AccP w F b s wy ln xss a) := by
  obtain ⟨g, vs, h, hw⟩ := h
  by_cases ha : 0 ≤ a
  · refine (access_ok F w b g s wy ln vs xss h hv hw a ha ha2).mono ?_
    rintro e w' ⟨rfl, hf, v', hc⟩
    obtain ⟨-, -, h1, h2, -⟩ := valB_spec hv
    have m0 : 0 ≤ a / ln % s := Int.emod_nonneg _ (by omega)
    have m1 : a / ln % s < s := Int.emod_lt_of_pos _ (by omega)
    refine ⟨ret_bool (by simp [hitB, ha]), ⟨g, vs.set (a / ln % s).toNat v', (by simp only [accF, if_pos ha]; exact hc), acc_len hw a⟩, hf.mono (fun k hk hF => ?_)⟩
    · rcases hF with rfl | hF
      · exact h.fg
      · exact h.fr _ (by omega) k hF
  · refine (access_neg b a (by omega) w).mono ?_
    rintro e w' ⟨rfl, rfl⟩
    refine ⟨ret_bool (by simp [hitB]; omega), ?_, Fr.refl _ _⟩
    have : accF s wy ln xss a = xss := by simp [accF, ha]
    rw [this]
    exact Ca.mono ⟨g, vs, h, hw⟩ (fun k hk => .inl hk)

theorem val124 : valB (1 : Nat) (2 : Nat) (4 : Nat) = true := by decide +kernel

theorem NewPost.ca {w w' : World} {s wy ln : Nat} {e : Ending} (h : NewPost w s wy ln e w') : Below w.heap.size w w' ∧ ∃ b : Nat, e = .returned (.tuple #[.pointer (some ⟨b, 0, none⟩), .int .i64 0]) ∧ Ca w' (fun k => w.heap.size ≤ k) b s wy ln (List.replicate s []) := by
  obtain ⟨hb, b, g, rfl, hc⟩ := h
  refine ⟨hb, b, rfl, g, _, hc, fun xs hx => ?_⟩
  rw [(List.mem_replicate.1 hx).2]
  exact Nat.zero_le _

theorem lines_ca (F : Nat → Prop) (w : World) (b s wy ln : Nat) (xss : List (List Int)) (h : Ca w F b s wy ln xss) (hv : valB s wy ln = true) :
    Calls Try.prog 24 #[.pointer (some ⟨b, 0, none⟩)] w (LinesPost w s xss) := by
  obtain ⟨g, vs, h, hw⟩ := h
  obtain ⟨-, -, h1, h2, h3, h4, -⟩ := valB_spec hv
  exact lines_ok F w b g s wy ln vs xss h (by omega) (by omega) (fun xs hx => by have := hw xs hx; omega)

/-- A row of a slice of rows, as it is read. -/
theorem MatAt.at {w : World} {F : Nat → Prop} {g s : Nat} {vs : List Value} {xss : List (List Int)} (h : MatAt w F g s vs xss) {i : Nat} (hi : i < s) :
    ∃ A c, w.cell? ⟨g, i, none⟩ = some (.slice A (xss.getD i []).length c) ∧ RdI w (.slice A (xss.getD i []).length c) (xss.getD i []) := by
  obtain ⟨A, c, he, _⟩ := (h.row i hi).slice
  refine ⟨A, c, ?_, ?_⟩
  · have hg := h.arr
    have : i < vs.length := by rw [h.lv]; exact hi
    rw [← he]
    simp [World.cell?, hg, List.getD_eq_getElem?_getD, this]
  · rw [← he]; exact (h.row i hi).rd

theorem awake_any (w : World) : Calls Try.prog 11 #[] w fun e w' => e = .returned (.bool true) ∧ Below w.heap.size w w' := by
  have N : Calls Try.prog 12 #[.agg #[.int .i64 1, .int .i64 2, .int .i64 4]] w (NewPost w 1 2 4) := new_ok 1 2 4 w val124
  have A := fun (F : Nat → Prop) (w : World) (b : Nat) xss (h : Ca w F b 1 2 4 xss) (a : Int) ha => access_ca F w b 1 2 4 xss h val124 a ha
  have a1 : accF 1 2 4 (List.replicate 1 []) 0 = [[0]] := by decide
  have a2 : accF 1 2 4 [[0]] 3 = [[0]] := by decide
  have a3 : accF 1 2 4 [[0]] 4 = [[1, 0]] := by decide
  have a4 : accF 1 2 4 [[1, 0]] 8 = [[2, 1]] := by decide
  have h1 : hitB 1 4 (List.replicate 1 []) 0 = false := by decide
  have h2 : hitB 1 4 [[0]] 3 = true := by decide
  have h3 : hitB 1 4 [[0]] 4 = false := by decide
  have h4 : hitB 1 4 [[1, 0]] 8 = false := by decide
  have B1 := fun F w b h => A F w b (List.replicate 1 []) h 0 (by omega)
  have B2 := fun F w b h => A F w b [[0]] h 3 (by omega)
  have B3 := fun F w b h => A F w b [[0]] h 4 (by omega)
  have B4 := fun F w b h => A F w b [[1, 0]] h 8 (by omega)
  unfold AccP at B1 B2 B3 B4
  rw [a1, h1] at B1
  rw [a2, h2] at B2
  rw [a3, h3] at B3
  rw [a4, h4] at B4
  clear A a1 a2 a3 a4 h1 h2 h3 h4
  go_enter Try.func11, Try.ntmps11
  go_wp2_with (first
    | (go_at_call 12; (with_reducible refine N.mono ?_); rintro e w1 hn; obtain ⟨hb1, b, rfl, hc1⟩ := hn.ca; clear hn; have HB1 := Lib.hid hb1; have HC1 := Lib.hid hc1; clear hb1 hc1)
    | (go_at_call 23; (with_reducible refine (B1 _ _ _ HC1.out).mono ?_); rintro e w2 ⟨rfl, hc, hf⟩; have HC2 := Lib.hid hc; have HF2 := Lib.hid hf; clear hc hf)
    | (go_at_call 23; (with_reducible refine (B2 _ _ _ HC2.out).mono ?_); rintro e w3 ⟨rfl, hc, hf⟩; have HC3 := Lib.hid hc; have HF3 := Lib.hid hf; clear hc hf)
    | (go_at_call 23; (with_reducible refine (B3 _ _ _ HC3.out).mono ?_); rintro e w4 ⟨rfl, hc, hf⟩; have HC4 := Lib.hid hc; have HF4 := Lib.hid hf; clear hc hf)
    | (go_at_call 23; (with_reducible refine (B4 _ _ _ HC4.out).mono ?_); rintro e w5 ⟨rfl, hc, hf⟩; have HC5 := Lib.hid hc; have HF5 := Lib.hid hf; clear hc hf))
  have L := lines_ca _ _ b 1 2 4 [[2, 1]] HC5.out val124
  refine L.mono ?_
  rintro e w6 ⟨hb6, g, us, rfl, hm⟩
  clear L
  obtain ⟨A0, c0, hg0, hr0⟩ := hm.at (i := 0) (by omega)
  simp only [List.getD_cons_zero, List.length_cons, List.length_nil] at hg0 hr0
  have hlg := lt_of_heap hm.arr
  have hrd := fun (w : World) (o : Obj) (h : RdI w (.slice A0 (0 + 1 + 1) c0) [2, 1]) => h.below (w' := w.alloc o) ((Below.refl _ _).alloc (Nat.le_refl _) _)
  have I := ints_any (w6.alloc (.cells #[.int .i64 2, .int .i64 1] 3)) _ (.slice (some ⟨w6.heap.size, 0, none⟩) 2 2) [2, 1] [2, 1] (hrd _ _ hr0)
    ⟨_, _, rfl, .inr ⟨_, _, rfl, by simp, fun j hj => by
      have e := heap_alloc_new w6 (.cells #[.int .i64 2, .int .i64 1] 3)
      rw [Nat.zero_add]
      simp only [World.cell?, e]
      match j, hj with
      | 0, _ => rfl
      | 1, _ => rfl⟩⟩ (by simp)
  have HB6 := Lib.hid hb6
  clear hb6 hrd hr0 hm
  go_wp2_with (go_at_call 29; (with_reducible refine I.mono ?_); rintro e w7 ⟨rfl, hb7⟩)
  go_ret
  have hB1 := HB1.out
  have s1 := hB1.size
  have s2 := HF2.out.size
  have s3 := HF3.out.size
  have s4 := HF4.out.size
  have s5 := HF5.out.size
  have s6 := HB6.out.size
  have b2 := HF2.out.below (n := w.heap.size) (by omega) (fun k hk => hk)
  have b3 := HF3.out.below (n := w.heap.size) (by omega) (fun k hk => by omega)
  have b4 := HF4.out.below (n := w.heap.size) (by omega) (fun k hk => by omega)
  have b5 := HF5.out.below (n := w.heap.size) (by omega) (fun k hk => by omega)
  have b6 : Below w.heap.size w w6 := ((((hB1.trans b2).trans b3).trans b4).trans b5).trans (HB6.out.mono (by omega))
  exact ⟨rfl, (b6.alloc (by omega) _).trans (hb7.mono (by simp; omega))⟩

/-- One cache of the call's own, from block n0 on. -/
def AccO (n0 : Nat) (w : World) (b s wy ln : Nat) (xss : List (List Int)) (a : Int) (e : Ending) (w' : World) : Prop :=
  e = .returned (.bool (hitB s ln xss a)) ∧ Ca w' (fun k => n0 ≤ k) b s wy ln (accF s wy ln xss a) ∧ Below n0 w w'
theorem access_o (n0 : Nat) (w : World) (b s wy ln : Nat) (xss : List (List Int)) (h : Ca w (fun k => n0 ≤ k) b s wy ln xss) (hn : n0 ≤ w.heap.size) (hv : valB s wy ln = true) (a : Int) (ha2 : a ≤ 9223372036854775807) :
    Calls Try.prog 23 #[.pointer (some ⟨b, 0, none⟩), .int .i64 a] w (AccO n0 w b s wy ln xss a) := by
  refine (access_ca _ w b s wy ln xss h hv a ha2).mono ?_
  rintro e w' ⟨rfl, hc, hf⟩
  exact ⟨rfl, hc.mono (fun k hk => by omega), hf.below hn (fun k hk => hk)⟩

/-- The contents after accesses. -/
def runF (s wy ln : Nat) (xss : List (List Int)) (l : List Int) : List (List Int) := l.foldl (accF s wy ln) xss
def emptyF (s : Nat) : List (List Int) := List.replicate s []
theorem runF_snoc (s wy ln : Nat) (xss : List (List Int)) (l : List Int) (k : Nat) (hk : k < l.length) : runF s wy ln xss (l.take (k + 1)) = accF s wy ln (runF s wy ln xss (l.take k)) (l.getD k 0) := by
  have : l.take (k + 1) = l.take k ++ [l.getD k 0] := by
    rw [List.take_succ_eq_append_getElem hk, List.getD_eq_getElem?_getD, List.getElem?_eq_getElem hk]; rfl
  rw [this]
  simp [runF, List.foldl_append]

theorem made_bad (S W L : Int) (v : Value) (w : World) (hv : valB S W L = false) :
    Calls Try.prog 19 #[.agg #[.int .i64 S, .int .i64 W, .int .i64 L], v] w fun e w' => e = .returned (.pointer none) ∧ Below w.heap.size w w' := by
  have N := fun w => new_bad S W L w hv
  clear hv
  go_enter Try.func19, Try.ntmps19
  go_wp2_with (go_at_call 12; (with_reducible refine (N _).mono ?_); rintro e w1 ⟨rfl, hb1⟩)
  go_ret
  exact ⟨rfl, ((Below.refl _ _).alloc (Nat.le_refl _) _).trans (hb1.mono (by simp))⟩

end Go.Proofs.Ytgbmbehobemocaa
