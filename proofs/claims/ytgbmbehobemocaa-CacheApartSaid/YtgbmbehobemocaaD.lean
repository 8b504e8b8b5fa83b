/- What New and Flush return and make. -/
import Derived.Test.YtgbmbehobemocaaC
namespace Go.Proofs.Ytgbmbehobemocaa
open Go.RowKit
set_option linter.unusedVariables false
set_option linter.unusedSimpArgs false

theorem info32 : (Try.prog.info? 32).map (fun i => (i.zero, i.size, i.bytes)) = some (some (.slice none 0 0), 1, 24) := by kernel_rfl

theorem make_sets (n : Nat) (hn : n ≤ 64) (w : World) :
    (Instr.makeSlice 39 (.int .i64 n) (.int .i64 n)).run Try.prog w = .ok (.slice (some ⟨w.heap.size, 0, none⟩) n n) (w.alloc (.cells (List.replicate n (Value.slice none 0 0)).toArray 32)) := by
  obtain ⟨i0, hi, hz0, hz1, hz2⟩ := info_parts info32
  have := run_make (P := Try.prog) w 39 32 i0 (.slice none 0 0) Try.underlying39 hi hz0 .i64 .i64 n n (by omega) (Int.le_refl _) (by rw [hz2]; omega) (by omega)
  rw [this]
  simp only [Int.toNat_natCast, hz1, Nat.mul_one]
  congr 3
  apply Array.toList_inj.1
  rw [show (Value.slice none 0 0).cells = #[.slice none 0 0] from rfl, toList_madeCells_one]

/-- A new cache is empty. -/
theorem CacheAt.fresh {w : World} {F : Nat → Prop} {b g s wy ln : Nat} (fb : F b) (fg : F g) (hb : w.heap[b]? = some (.cells #[.int .i64 s, .int .i64 wy, .int .i64 ln, .slice (some ⟨g, 0, none⟩) s s] 52 (0, 0)))
    (hg : w.heap[g]? = some (.cells (List.replicate s (Value.slice none 0 0)).toArray 32 (0, 0))) : CacheAt w F b g s wy ln (List.replicate s (.slice none 0 0)) (List.replicate s []) := by
  have h1 : ∀ i, i < s → (List.replicate s (Value.slice none 0 0)).getD i undef = .slice none 0 0 := fun i hi => by
    simp [List.getD_eq_getElem?_getD, List.getElem?_replicate, hi]
  have h2 : ∀ i, (List.replicate s ([] : List Int)).getD i [] = [] := fun i => by
    simp only [List.getD_eq_getElem?_getD, List.getElem?_replicate]
    split <;> rfl
  refine ⟨fb, fg, hb, hg, by simp, by simp, fun i hi => ?_, fun i hi _ => h1 i hi, fun i hi k hk => ?_, fun i j hi hj hne k hk => ?_⟩
  · rw [h1 i hi, h2]; exact .inl ⟨rfl, rfl⟩
  · rw [h1 i hi] at hk; cases hk
  · rw [h1 i hi] at hk; cases hk

theorem CacheAt.fresh_row (s : Nat) : (∀ {w : World} i, i < s → Row w ((List.replicate s (Value.slice none 0 0)).getD i undef) ((List.replicate s ([] : List Int)).getD i [])) ∧
    (∀ i, i < s → (List.replicate s ([] : List Int)).getD i [] = [] → (List.replicate s (Value.slice none 0 0)).getD i undef = .slice none 0 0) ∧
    (∀ {F : Nat → Prop} i, i < s → ∀ k, ((List.replicate s (Value.slice none 0 0)).getD i undef).ownBlock = some k → F k) ∧
    (∀ i j, i < s → j < s → i ≠ j → ∀ k, ((List.replicate s (Value.slice none 0 0)).getD i undef).ownBlock = some k → ((List.replicate s (Value.slice none 0 0)).getD j undef).ownBlock ≠ some k) := by
  have h1 : ∀ i, i < s → (List.replicate s (Value.slice none 0 0)).getD i undef = .slice none 0 0 := fun i hi => by
    simp [List.getD_eq_getElem?_getD, List.getElem?_replicate, hi]
  have h2 : ∀ i, (List.replicate s ([] : List Int)).getD i [] = [] := fun i => by
    simp only [List.getD_eq_getElem?_getD, List.getElem?_replicate]
    split <;> rfl
  refine ⟨fun {w} i hi => ?_, fun i hi _ => h1 i hi, fun {F} i hi k hk => ?_, fun i j hi hj hne k hk => ?_⟩
  · rw [h1 i hi, h2]; exact .inl ⟨rfl, rfl⟩
  · rw [h1 i hi] at hk; cases hk
  · rw [h1 i hi] at hk; cases hk

/-- What New leaves: a pointer to an empty cache. -/
def NewPost (w : World) (s wy ln : Nat) (e : Ending) (w' : World) : Prop :=
  Below w.heap.size w w' ∧ ∃ b g : Nat, e = .returned (.tuple #[.pointer (some ⟨b, 0, none⟩), .int .i64 0]) ∧
    CacheAt w' (fun k => w.heap.size ≤ k) b g s wy ln (List.replicate s (.slice none 0 0)) (List.replicate s [])

theorem new_bad (S W L : Int) (w : World) (hv : valB S W L = false) :
    Calls Try.prog 12 #[.agg #[.int .i64 S, .int .i64 W, .int .i64 L]] w fun e w' => e = .returned (.tuple #[.pointer none, .int .i64 1]) ∧ Below w.heap.size w w' := by
  have C1 := fun w => valid_any S W L w
  rw [hv] at C1
  clear hv
  go_enter Try.func12, Try.ntmps12
  go_wp2_with (go_at_call 14; ((with_reducible refine (C1 _).mono ?_); rintro e w1 ⟨rfl, hb1⟩; obtain ⟨hc0, hc1, hc2, hz, HB⟩ := box3 hb1; clear hb1))
  go_ret2
  exact ⟨rfl, HB⟩

theorem new_ok (s wy ln : Nat) (w : World) (hv : valB s wy ln = true) :
    Calls Try.prog 12 #[.agg #[.int .i64 s, .int .i64 wy, .int .i64 ln]] w (NewPost w s wy ln) := by
  have C1 := fun w => valid_any s wy ln w
  rw [hv] at C1
  obtain ⟨-, -, h1, h2, -⟩ := valB_spec hv
  clear hv
  go_enter Try.func12, Try.ntmps12
  go_wp2_with (go_at_call 14; ((with_reducible refine (C1 _).mono ?_); rintro e w1 ⟨rfl, hb1⟩; obtain ⟨hc0, hc1, hc2, hz, HB⟩ := box3 hb1; clear hb1))
  have hmk := fun w => make_sets s (by omega) w
  have HB' := Lib.hid HB
  clear HB
  obtain ⟨n0, hn0⟩ : ∃ n0, n0 = w.heap.size := ⟨_, rfl⟩
  rw [← hn0] at hz hc0 hc1 hc2 ⊢
  have HN := Lib.hid hn0
  clear hn0
  go_region_held3 (fun w' => w'.cell? ⟨n0, 0, none⟩ = some (.int .i64 s) ∧ w'.cell? ⟨n0, 1, none⟩ = some (.int .i64 wy) ∧ w'.cell? ⟨n0, 2, none⟩ = some (.int .i64 ln)) (go_keep) (fail)
  go_wp2
  go_ret2
  have HB := HB'.out
  have hs := HB.size
  have e1 : ∀ (x y : Obj), ((w1.alloc x).alloc y).heap[w1.heap.size + 1]? = some y := fun x y => by
    have := heap_alloc_new (w1.alloc x) y
    simpa using this
  have e2 : ∀ (x y : Obj), ((w1.alloc x).alloc y).heap[w1.heap.size]? = some x := fun x y => by
    rw [Below.heap_alloc _ _ _ (by simp)]
    exact heap_alloc_new w1 x
  refine ⟨((HB.alloc hs _).alloc (by simp; omega) _).drew, w1.heap.size + 1, w1.heap.size, rfl, CacheAt.fresh (by omega) (by omega) ?_ ?_⟩
  · exact e1 _ _
  · rw [List.toArray_replicate]
    exact e2 _ _

/-- Flush makes the cache empty; its blocks but for the struct's stay as they were. -/
def FlushPost (w : World) (F : Nat → Prop) (b s wy ln : Nat) (e : Ending) (w' : World) : Prop :=
  e = .returned (.tuple #[]) ∧ Fr (fun k => k = b) w w' ∧ ∃ g, CacheAt w' (fun k => F k ∨ w.heap.size ≤ k) b g s wy ln (List.replicate s (.slice none 0 0)) (List.replicate s [])

theorem flush_any (F : Nat → Prop) (w : World) (b g s wy ln : Nat) (vs : List Value) (xss : List (List Int)) (h : CacheAt w F b g s wy ln vs xss) (h1 : 1 ≤ s) (h2 : s ≤ 64) :
    Calls Try.prog 22 #[.pointer (some ⟨b, 0, none⟩)] w (FlushPost w F b s wy ln) := by
  have hmk := fun w => make_sets s (by omega) w
  have hb := h.blk
  have hc0 : w.cell? ⟨b, 0, none⟩ = some (.int .i64 s) := by simp [World.cell?, hb]
  have hc3 : w.cell? ⟨b, 3, none⟩ = some (.slice (some ⟨g, 0, none⟩) s s) := by simp [World.cell?, hb]
  have hf3 : w.frozen? ⟨b, 3, none⟩ = false := by simp [World.frozen?, hb]
  have hlb : b < w.heap.size := lt_of_heap hb
  have hnb : b ≠ w.heap.size := by omega
  have H := Lib.hid h
  have HB := Lib.hid hb
  clear h hb
  go_enter Try.func22, Try.ntmps22
  go_wp2
  go_end0
  have h := H.out
  have hbb := HB.out
  have hal : ∀ o, (w.alloc o).heap[b]? = w.heap[b]? := fun o => Below.heap_alloc _ _ _ hlb
  have hsz : ∀ v, (w.setCell ⟨b, 3, none⟩ v).heap.size = w.heap.size := fun v => by simp [World.setCell]
  have hal2 : ∀ v o, ((w.setCell ⟨b, 3, none⟩ v).alloc o).heap[b]? = (w.setCell ⟨b, 3, none⟩ v).heap[b]? := fun v o => Below.heap_alloc _ _ _ (by rw [hsz]; exact hlb)
  have hnew : ∀ v o, ((w.setCell ⟨b, 3, none⟩ v).alloc o).heap[w.heap.size]? = some o := fun v o => by
    have := heap_alloc_new (w.setCell ⟨b, 3, none⟩ v) o
    rwa [hsz] at this
  refine ⟨rfl, (fr_setCells [_] 3 w).trans (G := fun _ => False) (Fr.of_below ((Below.refl _ _).alloc (Nat.le_refl _) _)) (fun k _ hk => hk.elim), w.heap.size, CacheAt.fresh (.inl h.fb) (.inr (Nat.le_refl _)) ?_ ?_⟩
  · rw [hal2]
    simp only [World.setCell, Array.getElem?_modify, if_pos, hbb]
    simp
  · rw [List.toArray_replicate]
    exact hnew _ _
/-- How old a line is: its place in its set, or -1. -/
def ageF (s : Nat) (xss : List (List Int)) (l : Int) : Int := Lib.idxOf (xss.getD (l % s).toNat []) l

theorem setF_ok {s wy ln : Nat} {l : Int} (hv : valB s wy ln = true) (hl : 0 ≤ l) : setF s wy ln l = l % s := by unfold setF; rw [if_pos ⟨hv, hl⟩]
theorem lineF_ok {s wy ln : Nat} {a : Int} (hv : valB s wy ln = true) (ha : 0 ≤ a) : lineF s wy ln a = a / ln := by unfold lineF; rw [if_pos ⟨hv, ha⟩]

/-- The world's blocks stay; the cells read on the way. -/
def AgePost (w : World) (r : Int) (e : Ending) (w' : World) : Prop := e = .returned (.int .i64 r) ∧ Below w.heap.size w w'

theorem age_nil (l : Int) (w : World) : Calls Try.prog 25 #[.pointer none, .int .i64 l] w fun e w' => e = .returned (.int .i64 (-1)) ∧ w = w' := by
  go_enter Try.func25, Try.ntmps25
  go_wp2
  go_ret
  exact ⟨rfl, rfl⟩

theorem age_neg (b : Nat) (l : Int) (hl : l < 0) (w : World) : Calls Try.prog 25 #[.pointer (some ⟨b, 0, none⟩), .int .i64 l] w fun e w' => e = .returned (.int .i64 (-1)) ∧ w = w' := by
  go_enter Try.func25, Try.ntmps25
  go_wp2
  go_ret
  exact ⟨rfl, rfl⟩

theorem age_ok (F : Nat → Prop) (w : World) (b g s wy ln : Nat) (vs : List Value) (xss : List (List Int)) (h : CacheAt w F b g s wy ln vs xss) (hv : valB s wy ln = true) (l : Int) (hl : 0 ≤ l) (hl2 : l ≤ 9223372036854775807) :
    Calls Try.prog 25 #[.pointer (some ⟨b, 0, none⟩), .int .i64 l] w (AgePost w (ageF s xss l)) := by
  obtain ⟨-, -, h1, h2, -⟩ := valB_spec hv
  have hb := h.blk
  have hg := h.arr
  have m0 : 0 ≤ l % s := Int.emod_nonneg _ (by omega)
  have m1 : l % s < s := Int.emod_lt_of_pos _ (by omega)
  obtain ⟨i, hi⟩ := Int.eq_ofNat_of_zero_le m0
  have his : i < s := by omega
  have C1 := fun w => set_any s wy ln l hl2 w
  rw [setF_ok hv hl, hi] at C1
  obtain ⟨r, hr⟩ : ∃ r, r = ageF s xss l := ⟨_, rfl⟩
  rw [← hr]
  unfold ageF at hr
  rw [hi, Int.toNat_natCast] at hr
  obtain ⟨v, hvv⟩ : ∃ v, v = vs.getD i undef := ⟨_, rfl⟩
  obtain ⟨xs, hxs⟩ : ∃ xs, xs = xss.getD i [] := ⟨_, rfl⟩
  have hrow := h.row i his
  rw [← hvv, ← hxs] at hrow
  rw [← hxs] at hr
  have hcg : w.cell? ⟨g, i, none⟩ = some v := by
    simp only [World.cell?, hg]
    have : i < vs.length := by rw [h.lv]; exact his
    simp [hvv, List.getD_eq_getElem?_getD, this]
  have hc0 : w.cell? ⟨b, 0, none⟩ = some (.int .i64 s) := by simp [World.cell?, hb]
  have hc1 : w.cell? ⟨b, 1, none⟩ = some (.int .i64 wy) := by simp [World.cell?, hb]
  have hc2 : w.cell? ⟨b, 2, none⟩ = some (.int .i64 ln) := by simp [World.cell?, hb]
  have hc3 : w.cell? ⟨b, 3, none⟩ = some (.slice (some ⟨g, 0, none⟩) s s) := by simp [World.cell?, hb]
  have hlb : b < w.heap.size := lt_of_heap hb
  have hlg : g < w.heap.size := lt_of_heap hg
  have HR := Lib.hid hr
  have HROW := Lib.hid hrow
  have e1 : w.heap.size ≤ w.heap.size := Nat.le_refl _
  clear hr hrow hb hg h hi m0 m1 hvv hxs hv h1 h2
  have i0 : (0 : Int) ≤ i := by omega
  have i1 : (i : Int) < s := by omega
  go_enter Try.func25, Try.ntmps25
  go_wp2
  go_region_held3 (fun w' => w'.cell? ⟨b, 0, none⟩ = some (.int .i64 s) ∧ w'.cell? ⟨b, 1, none⟩ = some (.int .i64 wy) ∧ w'.cell? ⟨b, 2, none⟩ = some (.int .i64 ln) ∧ w'.cell? ⟨b, 3, none⟩ = some (.slice (some ⟨g, 0, none⟩) s s) ∧ w'.cell? ⟨g, i, none⟩ = some v) (go_keep)
    (first | (go_at_call 17; ((with_reducible refine (C1 _).mono ?_); rintro e w1 ⟨rfl, hb1⟩; have HROW1 := Lib.hid (HROW.out.move (w' := w1) (fun k hk => hb1.block k (HROW.out.lt k hk).1)); have k1 : ∀ o, w1.cell? ⟨b, o, none⟩ = w.cell? ⟨b, o, none⟩ := fun o => bcell hb1 b o hlb; have k2 : w1.cell? ⟨g, i, none⟩ = w.cell? ⟨g, i, none⟩ := bcell hb1 g i hlg)) | (go_at_call 33; ((with_reducible refine (idx_any _ _ xs _ HROW1.out).mono ?_); rintro e w1 ⟨rfl, rfl⟩)))
  go_wp2
  go_ret
  exact ⟨ret_int HR.out.symm, ((Below.refl _ _).drew).trans hb1⟩

end Go.Proofs.Ytgbmbehobemocaa
