/- A row of whole numbers that the program owns, and what slices.Index, Delete and Insert do to it. -/
import Derived.Test.YtgbmbehobemocaaA
import Derived.Test.YtgbmbehobemocaaShelf
namespace Go.Proofs.Ytgbmbehobemocaa
open Go.RowKit
set_option linter.unusedVariables false
set_option linter.unusedSimpArgs false

/-- Of the old blocks only those in F may have turned. -/
structure Fr (F : Nat → Prop) (w w' : World) : Prop where
  os : w'.os = w.os
  tape : w'.tape = w.tape
  output : w'.output = w.output
  size : w.heap.size ≤ w'.heap.size
  block : ∀ k, k < w.heap.size → ¬ F k → w'.heap[k]? = w.heap[k]?

theorem Fr.refl (F : Nat → Prop) (w : World) : Fr F w w := ⟨rfl, rfl, rfl, Nat.le_refl _, fun _ _ _ => rfl⟩
theorem Fr.trans {F G : Nat → Prop} {a b c : World} (h : Fr F a b) (k : Fr G b c) (hG : ∀ i, i < a.heap.size → G i → F i) : Fr F a c :=
  ⟨k.os.trans h.os, k.tape.trans h.tape, k.output.trans h.output, Nat.le_trans h.size k.size, fun i hi hn => (k.block i (Nat.lt_of_lt_of_le hi h.size) (fun hg => hn (hG i hi hg))).trans (h.block i hi hn)⟩
theorem Fr.of_below {F : Nat → Prop} {w w' : World} (h : Below w.heap.size w w') : Fr F w w' := ⟨h.os, h.tape, h.output, h.size, fun k hk _ => h.block k hk⟩
theorem Fr.mono {F G : Nat → Prop} {w w' : World} (h : Fr F w w') (hG : ∀ i, i < w.heap.size → F i → G i) : Fr G w w' := ⟨h.os, h.tape, h.output, h.size, fun k hk hn => h.block k hk (fun hf => hn (hG k hk hf))⟩
theorem Fr.below {F : Nat → Prop} {n : Nat} {w w' : World} (h : Fr F w w') (hn : n ≤ w.heap.size) (hF : ∀ k, F k → n ≤ k) : Below n w w' :=
  ⟨h.os, h.tape, h.output, h.size, fun k hk => h.block k (by omega) (fun hf => by have := hF k hf; omega)⟩

def ints (xs : List Int) : List Value := xs.map (Value.int .i64)

/-- The slice v holds xs, at the head of a block. -/
def Row (w : World) (v : Value) (xs : List Int) : Prop :=
  (v = .slice none 0 0 ∧ xs = []) ∨
  ∃ g cap cur, v = .slice (some ⟨g, 0, none⟩) xs.length cap ∧ w.heap[g]? = some (.cells cur 3 (0, 0)) ∧ xs.length ≤ cap ∧ cap ≤ 9223372036854775807 ∧ cur.size = cap ∧ ∀ j, j < xs.length → cur[j]? = some (.int .i64 (xs.getD j 0))

theorem Row.move {w w' : World} {v : Value} {xs : List Int} (h : Row w v xs) (hm : ∀ k, v.ownBlock = some k → w'.heap[k]? = w.heap[k]?) : Row w' v xs := by
  rcases h with h | ⟨g, cap, cur, rfl, hg, r⟩
  · exact .inl h
  · exact .inr ⟨g, cap, cur, rfl, (hm g rfl).trans hg, r⟩

theorem lt_of_heap {w : World} {k : Nat} {o : Obj} (h : w.heap[k]? = some o) : k < w.heap.size := by
  rcases Nat.lt_or_ge k w.heap.size with hl | hl
  · exact hl
  · rw [Array.getElem?_eq_none hl] at h; cases h

theorem Row.lt {w : World} {v : Value} {xs : List Int} (h : Row w v xs) : ∀ k, v.ownBlock = some k → k < w.heap.size ∧ ∃ cur, w.heap[k]? = some (.cells cur 3 (0, 0)) := by
  rcases h with ⟨rfl, _⟩ | ⟨g, cap, cur, rfl, hg, r⟩
  · intro k hk; cases hk
  · intro k hk
    have : g = k := by simpa [Value.ownBlock] using hk
    subst this
    exact ⟨lt_of_heap hg, cur, hg⟩

theorem Row.slice {w : World} {v : Value} {xs : List Int} (h : Row w v xs) : ∃ A c, v = .slice A xs.length c ∧ xs.length ≤ c := by
  rcases h with ⟨rfl, rfl⟩ | ⟨g, cap, cur, rfl, hg, hl, r⟩
  · exact ⟨none, 0, rfl, Nat.le_refl _⟩
  · exact ⟨_, _, rfl, hl⟩

theorem Row.fr {F : Nat → Prop} {w w' : World} {v : Value} {xs : List Int} (h : Row w v xs) (hf : Fr F w w') (hF : ∀ k, v.ownBlock = some k → ¬ F k) : Row w' v xs :=
  h.move fun k hk => hf.block k (h.lt k hk).1 (hF k hk)

/-! what setCells does to a block -/
def putC (cur : Array Value) : Nat → List Value → Array Value
  | _, [] => cur
  | o, v :: r => putC (cur.setIfInBounds o v) (o + 1) r
theorem putC_size : ∀ (vs : List Value) (o : Nat) (cur : Array Value), (putC cur o vs).size = cur.size
  | [], _, _ => rfl
  | v :: r, o, cur => by rw [putC, putC_size r]; simp
theorem putC_out : ∀ (vs : List Value) (o : Nat) (cur : Array Value) (j : Nat), (j < o ∨ o + vs.length ≤ j) → (putC cur o vs)[j]? = cur[j]?
  | [], _, _, _, _ => rfl
  | v :: r, o, cur, j, h => by
    have hl : (v :: r).length = r.length + 1 := rfl
    rw [putC, putC_out r (o + 1) _ j (by omega), Array.getElem?_setIfInBounds]
    rw [if_neg (by omega)]
theorem putC_in : ∀ (vs : List Value) (o : Nat) (cur : Array Value) (j : Nat), o + vs.length ≤ cur.size → j < vs.length → (putC cur o vs)[o + j]? = vs[j]?
  | [], _, _, _, _, h => by simp at h
  | v :: r, o, cur, 0, h, _ => by
    have hl : (v :: r).length = r.length + 1 := rfl
    rw [putC, putC_out r (o + 1) _ _ (by omega), Array.getElem?_setIfInBounds]
    simp; omega
  | v :: r, o, cur, j + 1, h, hj => by
    have hl : (v :: r).length = r.length + 1 := rfl
    have := putC_in r (o + 1) (cur.setIfInBounds o v) j (by simp; omega) (by omega)
    rw [putC, show o + (j + 1) = o + 1 + j by omega, this]
    rfl
theorem heap_setCells {b : Nat} {e : TypeId} {fr : Nat × Nat} : ∀ (vs : List Value) (o : Nat) (w : World) (cur : Array Value), w.heap[b]? = some (.cells cur e fr) → (w.setCells b o vs).heap[b]? = some (.cells (putC cur o vs) e fr)
  | [], _, _, _, h => h
  | v :: r, o, w, cur, h => by
    rw [World.setCells]
    refine heap_setCells r (o + 1) _ _ ?_
    have hl := lt_of_heap h
    simp only [World.setCell, Array.getElem?_modify, if_pos, h]
    rfl
theorem heap_setCells_ne {b k : Nat} (hk : k ≠ b) : ∀ (vs : List Value) (o : Nat) (w : World), (w.setCells b o vs).heap[k]? = w.heap[k]?
  | [], _, _ => rfl
  | v :: r, o, w => by
    rw [World.setCells, heap_setCells_ne hk r]
    exact Below.heap_setCell _ _ _ _ hk
theorem fr_setCells {b : Nat} (vs : List Value) (o : Nat) (w : World) : Fr (fun k => k = b) w (w.setCells b o vs) := by
  have h : ∀ (vs : List Value) (o : Nat) (w : World), (w.setCells b o vs).os = w.os ∧ (w.setCells b o vs).tape = w.tape ∧ (w.setCells b o vs).output = w.output ∧ (w.setCells b o vs).heap.size = w.heap.size := by
    intro vs
    induction vs with
    | nil => exact fun _ _ => ⟨rfl, rfl, rfl, rfl⟩
    | cons v r ih =>
      intro o w
      obtain ⟨h1, h2, h3, h4⟩ := ih (o + 1) (w.setCell ⟨b, o, none⟩ v)
      exact ⟨h1, h2, h3, h4.trans (by simp [World.setCell])⟩
  obtain ⟨h1, h2, h3, h4⟩ := h vs o w
  exact ⟨h1, h2, h3, by omega, fun k _ hn => heap_setCells_ne hn vs o w⟩

theorem idx_any (w : World) (v : Value) (xs : List Int) (x : Int) (h : Row w v xs) :
    Calls Try.prog 33 #[v, .int .i64 x] w fun e w' => e = .returned (.int .i64 (Lib.idxOf xs x)) ∧ w = w' := by
  rcases h with ⟨rfl, rfl⟩ | ⟨g, cap, cur, rfl, hg, hl, hc, hs, hcur⟩
  · exact (Try.slices_Index_int_empty none 0 x w).mono fun e w' ⟨h1, h2⟩ => ⟨h1, h2.symm⟩
  · have := Try.slices_Index_int g 0 xs.length cap xs x w (Nat.le_refl _) (by omega) (fun j hj => by
      rw [Nat.zero_add]
      simp only [World.cell?, hg]
      simpa using hcur j hj)
    rw [List.take_length] at this
    exact this.mono fun e w' ⟨h1, h2⟩ => ⟨h1, h2.symm⟩

theorem delete_any (w : World) (v : Value) (xs : List Int) (i : Nat) (hi : i < xs.length) (h : Row w v xs) :
    Calls Try.prog 34 #[v, .int .i64 i, .int .i64 ((i : Int) + 1)] w fun e w' => ∃ v', e = .returned v' ∧ Row w' v' (xs.eraseIdx i) ∧ v'.ownBlock = v.ownBlock ∧ Fr (fun k => v.ownBlock = some k) w w' := by
  rcases h with ⟨rfl, rfl⟩ | ⟨g, cap, cur, rfl, hg, hl, hc, hs, hcur⟩
  · simp at hi
  · have := Try.slices_Delete_int_cells g 0 xs.length cap i (i + 1) xs w (Nat.le_refl _) hl hc (by omega) (by omega) (fun j hj => by
      rw [Nat.zero_add]
      simp only [World.cell?, hg]
      simpa using hcur j hj) (fun j hj => by simp [World.frozen?, hg])
    refine this.mono ?_
    rintro e w' ⟨rfl, q, rfl⟩
    have hlen : (xs.eraseIdx i).length = xs.length - 1 := by rw [List.length_eraseIdx]; simp [hi]
    refine ⟨_, rfl, ?_, rfl, ?_⟩
    · refine .inr ⟨g, cap, _, ?_, heap_setCells _ _ _ cur hg, by omega, hc, by rw [putC_size]; exact hs, fun j hj => ?_⟩
      · rw [hlen, show i + 1 - i = 1 by omega]
      · rw [List.take_length]
        have hll : (ints (xs.take i ++ xs.drop (i + 1) ++ List.replicate (i + 1 - i) 0)).length = xs.length := by simp [ints]; omega
        have := putC_in (ints (xs.take i ++ xs.drop (i + 1) ++ List.replicate (i + 1 - i) 0)) 0 cur j (by rw [hll]; omega) (by rw [hll]; omega)
        rw [Nat.zero_add] at this
        refine this.trans ?_
        have he : xs.take i ++ xs.drop (i + 1) = xs.eraseIdx i := by rw [List.eraseIdx_eq_take_drop_succ]
        rw [he, ints, List.getElem?_map, List.getElem?_append_left hj, List.getD_eq_getElem?_getD, List.getElem?_eq_getElem hj]
        rfl
    · exact (Fr.of_below (Below.drewN_ w q)).trans (fr_setCells _ _ _) (fun k _ hk => by subst hk; rfl)



theorem fr_grow (F : Nat → Prop) (w : World) (o : Obj) (a b : Nat) (vs vs' : List Value) :
    Fr F w (((w.alloc o).drew.setCells w.heap.size a vs).drew.setCells w.heap.size b vs') := by
  have h1 : Fr F w (w.alloc o) := Fr.of_below ((Below.refl _ _).alloc (Nat.le_refl _) _)
  have h2 : Fr (fun k => k = w.heap.size) (w.alloc o) ((w.alloc o).drew.setCells w.heap.size a vs) := (Fr.of_below ((Below.refl _ _).drew)).trans (fr_setCells _ _ _) (fun k _ hk => hk)
  have h3 : Fr (fun k => k = w.heap.size) ((w.alloc o).drew.setCells w.heap.size a vs) (((w.alloc o).drew.setCells w.heap.size a vs).drew.setCells w.heap.size b vs') := (Fr.of_below ((Below.refl _ _).drew)).trans (fr_setCells _ _ _) (fun k _ hk => hk)
  exact (h1.trans h2 (fun k hk e => by omega)).trans h3 (fun k hk e => by omega)

theorem insert_any (w : World) (v : Value) (xs : List Int) (x : Int) (vb vc : Nat) (hn : xs.length ≤ 1000000) (h : Row w v xs) (hvb : ∀ k, v.ownBlock = some k → k ≠ vb) (hb : w.heap[vb]? = some (.cells #[.int .i64 x] 3 (0, 0))) :
    Calls Try.prog 35 #[v, .int .i64 0, .slice (some ⟨vb, 0, none⟩) 1 vc] w fun e w' => ∃ v', e = .returned v' ∧ Row w' v' (x :: xs) ∧ (v'.ownBlock = v.ownBlock ∨ ∃ k, v'.ownBlock = some k ∧ w.heap.size ≤ k) ∧ Fr (fun k => v.ownBlock = some k) w w' := by
  have hvs : ∀ j u, [Value.int .i64 x][j]? = some u → w.cell? ⟨vb, 0 + j, none⟩ = some u := by
    intro j u hu
    have hj : j < [Value.int .i64 x].length := by
      rcases Nat.lt_or_ge j [Value.int .i64 x].length with hl | hl
      · exact hl
      · rw [List.getElem?_eq_none hl] at hu; cases hu
    have : j = 0 := by simpa using hj
    subst this
    simpa [World.cell?, hb] using hu
  have h1v : ∀ u ∈ [Value.int .i64 x], u.oneCell' = true := by
    intro u hu
    rw [List.mem_singleton.1 hu]; rfl
  -- what a grown row holds
  have hcells : ∀ (ys : List Int) (rest : Array Value) (j : Nat), j < ys.length → ((ints ys).toArray ++ rest)[j]? = some (.int .i64 (ys.getD j 0)) := by
    intro ys rest j hj
    rw [Array.getElem?_append_left (by simpa [ints] using hj)]
    simp [ints, List.getD_eq_getElem?_getD, List.getElem?_eq_getElem hj]
  have hgrow : ∀ (old need : Nat), need ≤ 1000001 → need ≤ grownCap w need old 3 ∧ grownCap w need old 3 ≤ 9223372036854775807 := fun old need hm =>
    ⟨grownCap_ge w need old 3, by have := grownCap_le_maxLen w need old 3 (by simp [maxLen]; omega); simpa [maxLen] using this⟩
  have hz1 : ∀ n, (Builtin.zeroCells (Value.int .i64 0).cells n).size = n := fun n => by rw [size_zeroCells]; simp [Value.cells]
  have hlt := h.lt
  rcases h with ⟨rfl, rfl⟩ | ⟨g, cap, cur, rfl, hg, hl, hc, hs, hcur⟩
  · -- the nil slice
    have := Try.slices_Insert_int_end_grow none 0 0 vb 0 1 vc [] [.int .i64 x] w (by omega) (by omega) (by omega) (by omega) rfl rfl (fun _ => rfl) (fun a ha => by cases ha) hvs h1v
    refine this.mono ?_
    rintro e w' ⟨rfl, rfl⟩
    obtain ⟨c1, c2⟩ := hgrow 0 (0 + 1) (by omega)
    have hh : ∀ o, (w.drew.alloc o).heap[w.heap.size]? = some o := fun o => heap_alloc_new w.drew _
    refine ⟨_, rfl, .inr ⟨w.heap.size, _, _, rfl, hh _, by simpa using c1, c2, ?_, fun j hj => ?_⟩, .inr ⟨_, rfl, Nat.le_refl _⟩, ?_⟩
    · rw [Array.size_append, hz1]
      simp only [List.nil_append, List.size_toArray, List.length_cons, List.length_nil]
      omega
    · exact hcells [x] _ j hj
    · exact Fr.of_below ((Below.refl w.heap.size w).drew.alloc (Nat.le_refl _) _)
  · have hne : vb ≠ g := fun e => hvb g rfl e.symm
    by_cases h0 : xs = []
    · subst h0
      by_cases hr : 1 ≤ cap
      · have := Try.slices_Insert_int_end_room g 0 0 cap vb 0 1 vc [.int .i64 x] w (by omega) (by omega) hc rfl
          (fun j hj => by simp [World.cell?, hg, hs]; omega) (fun j hj => by simp [World.frozen?, hg]) hvs h1v
        refine this.mono ?_
        rintro e w' ⟨rfl, rfl⟩
        refine ⟨_, rfl, .inr ⟨g, cap, _, rfl, heap_setCells _ _ _ cur hg, by simpa using hr, hc, by rw [putC_size]; exact hs, fun j hj => ?_⟩, .inl rfl, (fr_setCells _ _ _).mono (fun k _ hk => by subst hk; rfl)⟩
        have := putC_in [.int .i64 x] 0 cur j (by simp; omega) hj
        rw [Nat.zero_add] at this
        refine this.trans ?_
        have : j = 0 := by simpa using hj
        subst this; rfl
      · have := Try.slices_Insert_int_end_grow (some ⟨g, 0, none⟩) 0 cap vb 0 1 vc [] [.int .i64 x] w (by omega) (by omega) (by omega) (by omega) rfl rfl (fun h => by cases h) (fun a ha j v hv => by simp at hv) hvs h1v
        refine this.mono ?_
        rintro e w' ⟨rfl, rfl⟩
        obtain ⟨c1, c2⟩ := hgrow cap (0 + 1) (by omega)
        have hh : ∀ o, (w.drew.alloc o).heap[w.heap.size]? = some o := fun o => heap_alloc_new w.drew _
        refine ⟨_, rfl, .inr ⟨w.heap.size, _, _, rfl, hh _, by simpa using c1, c2, ?_, fun j hj => ?_⟩, .inr ⟨_, rfl, Nat.le_refl _⟩, ?_⟩
        · rw [Array.size_append, hz1]
          simp only [List.nil_append, List.size_toArray, List.length_cons, List.length_nil]
          omega
        · exact hcells [x] _ j hj
        · exact Fr.of_below ((Below.refl w.heap.size w).drew.alloc (Nat.le_refl _) _)
    · have hpos : 0 < xs.length := List.length_pos_iff.2 h0
      have hcs : ∀ j u, (ints xs)[j]? = some u → w.cell? ⟨g, 0 + j, none⟩ = some u := by
        intro j u hu
        have hj : j < xs.length := by
          rcases Nat.lt_or_ge j xs.length with hl | hl
          · exact hl
          · rw [ints, List.getElem?_eq_none (by simpa using hl)] at hu; cases hu
        rw [Nat.zero_add]
        simp only [World.cell?, hg]
        rw [ints, List.getElem?_map, List.getElem?_eq_getElem hj] at hu
        simp only [Option.isSome_none, Bool.false_eq_true, if_false]
        rw [hcur j hj, ← hu, List.getD_eq_getElem?_getD, List.getElem?_eq_getElem hj]
        rfl
      have h1c : ∀ u ∈ ints xs, u.oneCell' = true := by
        intro u hu
        obtain ⟨z, _, rfl⟩ := List.mem_map.1 hu
        rfl
      have hsf : w.shape? vb = some (3, 1) := by simp [World.shape?, hb]
      have hsg : w.shape? g = some (3, cap) := by simp [World.shape?, hg, hs]
      have hf0 : w.frozen? ⟨vb, 0, none⟩ = false := by simp [World.frozen?, hb]
      have hf1 : w.frozen? ⟨vb, 1, none⟩ = false := by simp [World.frozen?, hb]
      by_cases hr : xs.length + 1 ≤ cap
      · have := Try.slices_Insert_int_shift g 0 xs.length cap 0 vb 0 1 vc (ints xs) [.int .i64 x] w hpos (by omega) hr hc hne (by simp [ints]) rfl hcs
          (fun j hj => by simp [World.cell?, hg, hs]; omega) (fun j hj => by simp [World.frozen?, hg]) hvs h1c h1v 3 3 1 cap hsf hsg (by omega) hf0 hf1
        refine this.mono ?_
        rintro e w' ⟨rfl, rfl⟩
        refine ⟨_, rfl, .inr ⟨g, cap, _, rfl, heap_setCells _ _ _ _ (heap_setCells _ _ _ cur hg), by simpa using hr, hc, by rw [putC_size, putC_size]; exact hs, fun j hj => ?_⟩, .inl rfl, ?_⟩
        · rcases j with _ | j
          · have := putC_in [.int .i64 x] 0 (putC cur (0 + (0 + 1)) (List.drop 0 (ints xs))) 0 (by rw [putC_size]; simp; omega) (by simp)
            exact this
          · rw [putC_out _ _ _ _ (by right; simp)]
            have hj' : j < xs.length := by simpa using hj
            have := putC_in (List.drop 0 (ints xs)) 1 cur j (by simp [ints]; omega) (by simpa [ints] using hj')
            rw [show j + 1 = 1 + j by omega]
            refine this.trans ?_
            simp [ints, List.getD_eq_getElem?_getD, List.getElem?_eq_getElem hj', show 1 + j = j + 1 by omega]
        · exact (Fr.of_below (Below.drewN_ w 1)).trans ((fr_setCells _ _ _).trans (fr_setCells _ _ _) (fun k _ hk => hk)) (fun k _ hk => by subst hk; rfl)
      · have := Try.slices_Insert_int_grow g 0 xs.length cap 0 vb 0 1 vc (ints xs) [.int .i64 x] w hpos (by omega) hl (by omega) (by omega) (by simp [ints]) rfl hcs hvs h1c h1v
        refine this.mono ?_
        rintro e w' ⟨rfl, rfl⟩
        obtain ⟨c1, c2⟩ := hgrow cap (xs.length + 1) (by omega)
        have hh : ∀ o, (w.alloc o).heap[w.heap.size]? = some o := fun o => heap_alloc_new w _
        have H0 := hh (.cells ((List.take 0 (ints xs)).toArray ++ Builtin.zeroCells (Value.int .i64 0).cells (xs.length + 1 - 0) ++ Builtin.zeroCells (Value.int .i64 0).cells (grownCap w (xs.length + 1) cap 3 - (xs.length + 1))) 3)
        have H1 := heap_setCells (b := w.heap.size) [Value.int .i64 x] 0 (World.drew (w.alloc (.cells ((List.take 0 (ints xs)).toArray ++ Builtin.zeroCells (Value.int .i64 0).cells (xs.length + 1 - 0) ++ Builtin.zeroCells (Value.int .i64 0).cells (grownCap w (xs.length + 1) cap 3 - (xs.length + 1))) 3))) _ H0
        have H2 := heap_setCells (b := w.heap.size) (List.drop 0 (ints xs)) (0 + 1) (World.drew (World.setCells (World.drew (w.alloc (.cells ((List.take 0 (ints xs)).toArray ++ Builtin.zeroCells (Value.int .i64 0).cells (xs.length + 1 - 0) ++ Builtin.zeroCells (Value.int .i64 0).cells (grownCap w (xs.length + 1) cap 3 - (xs.length + 1))) 3))) w.heap.size 0 [Value.int .i64 x])) _ H1
        have hsz : ((List.take 0 (ints xs)).toArray ++ Builtin.zeroCells (Value.int .i64 0).cells (xs.length + 1 - 0) ++ Builtin.zeroCells (Value.int .i64 0).cells (grownCap w (xs.length + 1) cap 3 - (xs.length + 1))).size = grownCap w (xs.length + 1) cap 3 := by
          rw [Array.size_append, Array.size_append, hz1, hz1]
          simp only [List.take_zero, List.size_toArray, List.length_nil]
          omega
        refine ⟨_, rfl, .inr ⟨w.heap.size, _, _, rfl, H2, by simpa using c1, c2, by rw [putC_size, putC_size]; exact hsz, fun j hj => ?_⟩, .inr ⟨_, rfl, Nat.le_refl _⟩, ?_⟩
        · rcases j with _ | j
          · rw [putC_out _ _ _ _ (by left; omega)]
            exact putC_in [Value.int .i64 x] 0 _ 0 (by rw [hsz]; simp; omega) (by simp)
          · have hj' : j < xs.length := by simpa using hj
            have := putC_in (List.drop 0 (ints xs)) (0 + 1) (putC ((List.take 0 (ints xs)).toArray ++ Builtin.zeroCells (Value.int .i64 0).cells (xs.length + 1 - 0) ++ Builtin.zeroCells (Value.int .i64 0).cells (grownCap w (xs.length + 1) cap 3 - (xs.length + 1))) 0 [Value.int .i64 x]) j (by rw [putC_size, hsz]; simp [ints]; omega) (by simpa [ints] using hj')
            rw [show j + 1 = 0 + 1 + j by omega]
            refine this.trans ?_
            simp [ints, List.getD_eq_getElem?_getD, List.getElem?_eq_getElem hj', show 1 + j = j + 1 by omega]
        · exact fr_grow _ _ _ _ _ _ _

end Go.Proofs.Ytgbmbehobemocaa
