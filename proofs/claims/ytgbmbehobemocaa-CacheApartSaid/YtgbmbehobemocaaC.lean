/- A cache in memory, and what New, Flush, Access, Age, Probe, Lines and Clone do to it. -/
import Derived.Test.YtgbmbehobemocaaB
namespace Go.Proofs.Ytgbmbehobemocaa
open Go.RowKit
set_option linter.unusedVariables false
set_option linter.unusedSimpArgs false

/-- The pointer ⟨b, 0⟩ is a cache of that geometry; its set i holds xss[i], the most recent line first; all its blocks are in F. -/
structure CacheAt (w : World) (F : Nat → Prop) (b g : Nat) (s wy ln : Nat) (vs : List Value) (xss : List (List Int)) : Prop where
  fb : F b
  fg : F g
  blk : w.heap[b]? = some (.cells #[.int .i64 s, .int .i64 wy, .int .i64 ln, .slice (some ⟨g, 0, none⟩) s s] 52 (0, 0))
  arr : w.heap[g]? = some (.cells vs.toArray 32 (0, 0))
  lv : vs.length = s
  lx : xss.length = s
  row : ∀ i, i < s → Row w (vs.getD i undef) (xss.getD i [])
  nil : ∀ i, i < s → xss.getD i [] = [] → vs.getD i undef = .slice none 0 0
  fr : ∀ i, i < s → ∀ k, (vs.getD i undef).ownBlock = some k → F k
  apart : ∀ i j, i < s → j < s → i ≠ j → ∀ k, (vs.getD i undef).ownBlock = some k → (vs.getD j undef).ownBlock ≠ some k

section
variable {w w' : World} {F G : Nat → Prop} {b g s wy ln : Nat} {vs : List Value} {xss : List (List Int)}

theorem CacheAt.ne (h : CacheAt w F b g s wy ln vs xss) : b ≠ g := by
  intro e
  have h1 := h.blk
  have h2 := h.arr
  rw [e, h2] at h1
  injection h1 with h1
  injection h1 with _ h1
  cases h1

theorem CacheAt.rne (h : CacheAt w F b g s wy ln vs xss) {i : Nat} (hi : i < s) : ∀ k, (vs.getD i undef).ownBlock = some k → k ≠ b ∧ k ≠ g := by
  intro k hk
  obtain ⟨hl, cur, hc⟩ := (h.row i hi).lt k hk
  refine ⟨fun e => ?_, fun e => ?_⟩
  · rw [e, h.blk] at hc
    injection hc with hc
    injection hc with _ hc
    cases hc
  · rw [e, h.arr] at hc
    injection hc with hc
    injection hc with _ hc
    cases hc

/-- Another's doing leaves it alone. -/
theorem CacheAt.keep (h : CacheAt w F b g s wy ln vs xss) (hf : Fr G w w') (hG : ∀ k, F k → ¬ G k) : CacheAt w' (fun k => F k ∧ k < w.heap.size) b g s wy ln vs xss := by
  refine ⟨⟨h.fb, lt_of_heap h.blk⟩, ⟨h.fg, lt_of_heap h.arr⟩, (hf.block b (lt_of_heap h.blk) (hG b h.fb)).trans h.blk, (hf.block g (lt_of_heap h.arr) (hG g h.fg)).trans h.arr, h.lv, h.lx, fun i hi => (h.row i hi).fr hf (fun k hk => hG k (h.fr i hi k hk)), h.nil, fun i hi k hk => ⟨h.fr i hi k hk, ((h.row i hi).lt k hk).1⟩, h.apart⟩

theorem CacheAt.mono (h : CacheAt w F b g s wy ln vs xss) (hG : ∀ k, F k → G k) : CacheAt w G b g s wy ln vs xss :=
  ⟨hG b h.fb, hG g h.fg, h.blk, h.arr, h.lv, h.lx, h.row, h.nil, fun i hi k hk => hG k (h.fr i hi k hk), h.apart⟩

theorem CacheAt.below (h : CacheAt w F b g s wy ln vs xss) (hf : Below w.heap.size w w') : CacheAt w' F b g s wy ln vs xss :=
  (h.keep (G := fun _ => False) (Fr.of_below hf) (fun _ _ h => h)).mono (fun _ h => h.1)

theorem getD_set {α : Type} (l : List α) (i j : Nat) (x d : α) (hi : i < l.length) : (l.set i x).getD j d = if i = j then x else l.getD j d := by
  rw [List.getD_eq_getElem?_getD, List.getD_eq_getElem?_getD, List.getElem?_set]
  split
  · rename_i e
    subst e
    simp [hi]
  · rfl

/-- One set is written anew: by a row of its own, or a new one. -/
theorem CacheAt.put (h : CacheAt w F b g s wy ln vs xss) {i : Nat} (hi : i < s) {v' : Value} {ys : List Int} (hf : Fr (fun k => (vs.getD i undef).ownBlock = some k) w w')
    (hr : Row w' v' ys) (hy : ys = [] → v' = .slice none 0 0) (ho : v'.ownBlock = (vs.getD i undef).ownBlock ∨ ∃ k, v'.ownBlock = some k ∧ w.heap.size ≤ k) :
    CacheAt (w'.setCell ⟨g, i, none⟩ v') (fun k => F k ∨ w.heap.size ≤ k) b g s wy ln (vs.set i v') (xss.set i ys) := by
  have hgw : w'.heap[g]? = some (.cells vs.toArray 32 (0, 0)) := (hf.block g (lt_of_heap h.arr) (fun e => (h.rne hi g e).2 rfl)).trans h.arr
  have hbw : w'.heap[b]? = some (.cells #[.int .i64 s, .int .i64 wy, .int .i64 ln, .slice (some ⟨g, 0, none⟩) s s] 52 (0, 0)) := (hf.block b (lt_of_heap h.blk) (fun e => (h.rne hi b e).1 rfl)).trans h.blk
  have hiv : i < vs.length := by rw [h.lv]; exact hi
  have hix : i < xss.length := by rw [h.lx]; exact hi
  have hset : ∀ k, k ≠ g → (w'.setCell ⟨g, i, none⟩ v').heap[k]? = w'.heap[k]? := fun k hk => Below.heap_setCell _ _ _ _ hk
  refine ⟨.inl h.fb, .inl h.fg, (hset b h.ne).trans hbw, ?_, by simpa using h.lv, by simpa using h.lx, ?_, ?_, ?_, ?_⟩
  · simp only [World.setCell, Array.getElem?_modify, if_pos, hgw]
    simp
  · intro j hj
    rw [getD_set _ _ _ _ _ hiv, getD_set _ _ _ _ _ hix]
    split
    · refine hr.move fun k hk => hset k ?_
      obtain ⟨_, cur, hc⟩ := hr.lt k hk
      intro e
      rw [e, hgw] at hc
      injection hc with hc
      injection hc with _ hc
      cases hc
    · rename_i hne
      refine ((h.row j hj).fr hf (fun k hk e => h.apart i j hi hj hne k e hk)).move fun k hk => hset k (h.rne hj k hk).2
  · intro j hj
    rw [getD_set _ _ _ _ _ hiv, getD_set _ _ _ _ _ hix]
    split
    · exact hy
    · exact h.nil j hj
  · intro j hj k hk
    rw [getD_set _ _ _ _ _ hiv] at hk
    split at hk
    · rcases ho with ho | ⟨m, hm, hm2⟩
      · rw [ho] at hk; exact .inl (h.fr i hi k hk)
      · rw [hm] at hk; injection hk with hk; subst hk; exact .inr hm2
    · exact .inl (h.fr j hj k hk)
  · intro p q hp hq hpq k hk
    rw [getD_set _ _ _ _ _ hiv] at hk ⊢
    split at hk
    · rename_i e
      subst e
      rw [if_neg hpq]
      rcases ho with ho | ⟨m, hm, hm2⟩
      · rw [ho] at hk; exact h.apart i q hi hq hpq k hk
      · rw [hm] at hk; injection hk with hk; subst hk
        intro e
        have := ((h.row q hq).lt m e).1
        omega
    · split
      · rename_i e
        subst e
        rcases ho with ho | ⟨m, hm, hm2⟩
        · rw [ho]; exact h.apart p i hp hi hpq k hk
        · rw [hm]
          intro e
          injection e with e
          have := ((h.row p hp).lt k hk).1
          omega
      · exact h.apart p q hp hq hpq k hk
end

/-- The block g is a slice of rows: row i holds xss[i]. -/
structure MatAt (w : World) (F : Nat → Prop) (g s : Nat) (vs : List Value) (xss : List (List Int)) : Prop where
  fg : F g
  arr : w.heap[g]? = some (.cells vs.toArray 32 (0, 0))
  lv : vs.length = s
  lx : xss.length = s
  row : ∀ i, i < s → Row w (vs.getD i undef) (xss.getD i [])
  nil : ∀ i, i < s → xss.getD i [] = [] → vs.getD i undef = .slice none 0 0
  fr : ∀ i, i < s → ∀ k, (vs.getD i undef).ownBlock = some k → F k
  apart : ∀ i j, i < s → j < s → i ≠ j → ∀ k, (vs.getD i undef).ownBlock = some k → (vs.getD j undef).ownBlock ≠ some k

section
variable {w w' : World} {F G : Nat → Prop} {b g s wy ln : Nat} {vs : List Value} {xss : List (List Int)}
theorem CacheAt.mat (h : CacheAt w F b g s wy ln vs xss) : MatAt w F g s vs xss := ⟨h.fg, h.arr, h.lv, h.lx, h.row, h.nil, h.fr, h.apart⟩
theorem MatAt.cache (h : MatAt w F g s vs xss) (fb : F b) (blk : w.heap[b]? = some (.cells #[.int .i64 s, .int .i64 wy, .int .i64 ln, .slice (some ⟨g, 0, none⟩) s s] 52 (0, 0))) : CacheAt w F b g s wy ln vs xss := ⟨fb, h.fg, blk, h.arr, h.lv, h.lx, h.row, h.nil, h.fr, h.apart⟩
theorem MatAt.rne (h : MatAt w F g s vs xss) {i : Nat} (hi : i < s) : ∀ k, (vs.getD i undef).ownBlock = some k → k ≠ g := by
  intro k hk
  obtain ⟨hl, cur, hc⟩ := (h.row i hi).lt k hk
  intro e
  rw [e, h.arr] at hc
  injection hc with hc
  injection hc with _ hc
  cases hc
theorem MatAt.keep (h : MatAt w F g s vs xss) (hf : Fr G w w') (hG : ∀ k, F k → ¬ G k) : MatAt w' (fun k => F k ∧ k < w.heap.size) g s vs xss := by
  refine ⟨⟨h.fg, lt_of_heap h.arr⟩, (hf.block g (lt_of_heap h.arr) (hG g h.fg)).trans h.arr, h.lv, h.lx, fun i hi => (h.row i hi).fr hf (fun k hk => hG k (h.fr i hi k hk)), h.nil, fun i hi k hk => ⟨h.fr i hi k hk, ((h.row i hi).lt k hk).1⟩, h.apart⟩
theorem MatAt.mono (h : MatAt w F g s vs xss) (hG : ∀ k, F k → G k) : MatAt w G g s vs xss :=
  ⟨hG g h.fg, h.arr, h.lv, h.lx, h.row, h.nil, fun i hi k hk => hG k (h.fr i hi k hk), h.apart⟩
theorem MatAt.below (h : MatAt w F g s vs xss) (hf : Below w.heap.size w w') : MatAt w' F g s vs xss :=
  (h.keep (G := fun _ => False) (Fr.of_below hf) (fun _ _ h => h)).mono (fun _ h => h.1)
/-- One set is written anew: by a row of its own, or a new one. -/
theorem MatAt.put (h : MatAt w F g s vs xss) {i : Nat} (hi : i < s) {v' : Value} {ys : List Int} (hf : Fr (fun k => (vs.getD i undef).ownBlock = some k) w w')
    (hr : Row w' v' ys) (hy : ys = [] → v' = .slice none 0 0) (ho : v'.ownBlock = (vs.getD i undef).ownBlock ∨ ∃ k, v'.ownBlock = some k ∧ w.heap.size ≤ k) :
    MatAt (w'.setCell ⟨g, i, none⟩ v') (fun k => F k ∨ w.heap.size ≤ k) g s (vs.set i v') (xss.set i ys) := by
  have hgw : w'.heap[g]? = some (.cells vs.toArray 32 (0, 0)) := (hf.block g (lt_of_heap h.arr) (fun e => h.rne hi g e rfl)).trans h.arr
  have hiv : i < vs.length := by rw [h.lv]; exact hi
  have hix : i < xss.length := by rw [h.lx]; exact hi
  have hset : ∀ k, k ≠ g → (w'.setCell ⟨g, i, none⟩ v').heap[k]? = w'.heap[k]? := fun k hk => Below.heap_setCell _ _ _ _ hk
  refine ⟨.inl h.fg, ?_, by simpa using h.lv, by simpa using h.lx, ?_, ?_, ?_, ?_⟩
  · simp only [World.setCell, Array.getElem?_modify, if_pos, hgw]
    simp
  · intro j hj
    rw [getD_set _ _ _ _ _ hiv, getD_set _ _ _ _ _ hix]
    split
    · refine hr.move fun k hk => hset k ?_
      obtain ⟨_, cur, hc⟩ := hr.lt k hk
      intro e
      rw [e, hgw] at hc
      injection hc with hc
      injection hc with _ hc
      cases hc
    · rename_i hne
      refine ((h.row j hj).fr hf (fun k hk e => h.apart i j hi hj hne k e hk)).move fun k hk => hset k (h.rne hj k hk)
  · intro j hj
    rw [getD_set _ _ _ _ _ hiv, getD_set _ _ _ _ _ hix]
    split
    · exact hy
    · exact h.nil j hj
  · intro j hj k hk
    rw [getD_set _ _ _ _ _ hiv] at hk
    split at hk
    · rcases ho with ho | ⟨m, hm, hm2⟩
      · rw [ho] at hk; exact .inl (h.fr i hi k hk)
      · rw [hm] at hk; injection hk with hk; subst hk; exact .inr hm2
    · exact .inl (h.fr j hj k hk)
  · intro p q hp hq hpq k hk
    rw [getD_set _ _ _ _ _ hiv] at hk ⊢
    split at hk
    · rename_i e
      subst e
      rw [if_neg hpq]
      rcases ho with ho | ⟨m, hm, hm2⟩
      · rw [ho] at hk; exact h.apart i q hi hq hpq k hk
      · rw [hm] at hk; injection hk with hk; subst hk
        intro e
        have := ((h.row q hq).lt m e).1
        omega
    · split
      · rename_i e
        subst e
        rcases ho with ho | ⟨m, hm, hm2⟩
        · rw [ho]; exact h.apart p i hp hi hpq k hk
        · rw [hm]
          intro e
          injection e with e
          have := ((h.row p hp).lt k hk).1
          omega
      · exact h.apart p q hp hq hpq k hk
end
end Go.Proofs.Ytgbmbehobemocaa
