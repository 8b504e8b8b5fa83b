/- The reference's Contents and Age. -/
import Derived.Test.YtgbmbehobemocaaQ
import Derived.Maps.AppendAt
namespace Go.Proofs.Ytgbmbehobemocaa
open Go.RowKit
set_option linter.unusedVariables false
set_option linter.unusedSimpArgs false

theorem info3 : (Try.prog.info? 3).map (fun i => (i.zero, i.size, i.bytes)) = some (some (.int .i64 0), 1, 8) := by kernel_rfl

theorem Row.owns {w : World} {v : Value} {xs : List Int} (h : Row w v xs) : w.ownsRow 0 3 1 v xs.length (ints xs) := by
  refine ⟨by simp [ints], ?_⟩
  rcases h with ⟨rfl, rfl⟩ | ⟨g, cap, cur, rfl, hg, hl, hc, hs, hcur⟩
  · exact .inl ⟨rfl, rfl⟩
  · refine .inr ⟨g, cap, cur, rfl, Nat.zero_le _, hg, hl, by simpa [maxLen] using hc, by omega, ?_⟩
    apply List.ext_getElem?
    intro j
    rw [List.getElem?_take, ints, List.getElem?_map]
    by_cases hj : j < xs.length
    · rw [if_pos (by omega), Array.getElem?_toList, hcur j hj, List.getElem?_eq_getElem hj, List.getD_eq_getElem?_getD, List.getElem?_eq_getElem hj]; rfl
    · rw [if_neg (by omega), List.getElem?_eq_none (by omega)]; rfl

/-- append of one number to a row of one's own. -/
theorem wl_append {ops : Array Oper} {rest : List Oper} {o : Oper} {a : Act} {Q : Exit → Act → World → Prop} (W : World) (hgd : o.guard = none) (s x : Operand)
    (ho : o.op = .call { callee := .builtin .append, args := #[s, x], argTypes := #[32, 32] }) (v : Value) (xs : List Int) (y : Int) (hs : a.eval s = v) (hx : a.eval x = .slice (some ⟨W.heap.size, 0, none⟩) 1 1)
    (hr : Row W v xs) (hl : xs.length ≤ 1000000)
    (h : ∀ v' w', Row w' v' (xs ++ [y]) → Fr (fun k => v.ownBlock = some k) W w' → (v'.ownBlock = v.ownBlock ∨ ∃ k, v'.ownBlock = some k ∧ W.heap.size ≤ k) → wpList Try.prog ops Q rest (a.put o.dst v') w') :
    wpList Try.prog ops Q (o :: rest) a (W.alloc (.cells #[.int .i64 y] 3)) := by
  obtain ⟨i0, hi, hz0, hz1, hz2⟩ := info_parts info3
  have hr' : Row (W.alloc (.cells #[.int .i64 y] 3)) v xs := hr.move (fun k hk => Below.heap_alloc _ _ _ (hr.lt k hk).1)
  refine wpList_append_own_at (W.alloc (.cells #[.int .i64 y] 3)) hgd s x 32 ho 0 3 i0 (.int .i64 0) 1 8 Try.underlying32 hi hz0 hz1 hz2 rfl (by decide) v xs.length (ints xs) hs hr'.owns ⟨W.heap.size, 0, none⟩ 1 1 [.int .i64 y] hx rfl ?_ ?_ (by simp only [maxLen]; omega) (by omega) (Nat.zero_le _) ?_
  · intro j u hu
    have hj : j < [Value.int .i64 y].length := by
      rcases Nat.lt_or_ge j [Value.int .i64 y].length with hl | hl
      · exact hl
      · rw [List.getElem?_eq_none hl] at hu; cases hu
    have : j = 0 := by simpa using hj
    subst this
    have hc : (W.alloc (.cells #[.int .i64 y] 3)).cell? ⟨W.heap.size, 0, none⟩ = some (.int .i64 y) := by simp
    rw [Addr.add_lit]
    show (W.alloc (.cells #[.int .i64 y] 3)).cell? ⟨W.heap.size, 0, none⟩ = some u
    rw [hc]
    simpa using hu
  · intro u hu
    rw [List.mem_singleton.1 hu]; rfl
  · intro v' w' hown hg _ hat
    have e1 : ints xs ++ [.int .i64 y] = ints (xs ++ [y]) := by simp [ints]
    have e2 : xs.length + 1 = (xs ++ [y]).length := by simp
    rw [e1, e2] at hown
    refine h v' w' (row_of_owns hown).1 ⟨hg.os, hg.tape, hg.output, by have := hg.size; simp at this; omega, fun k hk hn => (hg.block k (by simp; omega) (fun e => hn e.symm)).trans (Below.heap_alloc _ _ _ hk)⟩ ?_
    rcases hat with h | h
    · exact .inl h
    · exact .inr ⟨_, h, by simp⟩

/-- What Contents computes, the history's last line first. -/
def contL (p : Int → Bool) (W : Nat) : List Int → List Int → List Int
  | [], out => out
  | l :: r, out => if out.length < W then (if p l = true ∧ l ∉ out then contL p W r (out ++ [l]) else contL p W r out) else out
theorem contL_full (p : Int → Bool) (W : Nat) (r out : List Int) (h : W ≤ out.length) : contL p W r out = out := by
  cases r with
  | nil => rfl
  | cons l r => rw [contL, if_neg (by omega)]
theorem contL_len (p : Int → Bool) (W : Nat) : ∀ (r out : List Int), out.length ≤ W → (contL p W r out).length ≤ W
  | [], _, h => h
  | l :: r, out, h => by
    rw [contL]
    split
    · split
      · exact contL_len p W r _ (by simp; omega)
      · exact contL_len p W r _ h
    · exact h

def inSet (S W L q : Int) (l : Int) : Bool := decide (setF S W L l = q)

def ContP (w : World) (out : List Int) (e : Ending) (w' : World) : Prop :=
  Below w.heap.size w w' ∧ ∃ v', e = .returned v' ∧ Row w' v' out ∧ ∀ k, v'.ownBlock = some k → w.heap.size ≤ k

set_option maxHeartbeats 1000000 in
theorem contents_any (S L q : Int) (W : Nat) (v : Value) (l : List Int) (w : World) (hu : RdI w v l) (hl : l.length ≤ 1000000) (hW : W ≤ 1000000) (hil : I64s l) (hmin : ∀ x ∈ l, -9223372036854775808 ≤ x) :
    Calls Try.prog 30 #[.agg #[.int .i64 S, .int .i64 W, .int .i64 L], v, .int .i64 q] w (ContP w (contL (inSet S W L q) W l.reverse [])) := by
  obtain ⟨A, c, rfl⟩ := hu.slice
  have HU := Lib.hid hu
  have HIL := Lib.hid hil
  clear hu hil hmin
  go_enter Try.func30, Try.ntmps30
  go_wp2
  obtain ⟨n0, hn0⟩ : ∃ n0, n0 = w.heap.size := ⟨_, rfl⟩
  rw [← hn0]
  have HN := Lib.hid hn0
  clear hn0
  go_loopw [7, 8] (fun o i wr => ∃ k : Nat, ∃ out, k ≤ l.length ∧ i = .int .i64 ((k : Int) - 1) ∧ Hid (Row wr o out) ∧ Hid (∀ b, o.ownBlock = some b → n0 < b) ∧ Hid (out.length ≤ W) ∧ Hid (contL (inSet S W L q) W (l.take k).reverse out = contL (inSet S W L q) W l.reverse []) ∧ Hid (Below n0 w wr) ∧ Hid (wr.heap[n0]? = some (.cells #[.int .i64 S, .int .i64 W, .int .i64 L] 23 (0, 0)))) (fun _ i _ => (intOf i + 1).toNat)
  case atStart =>
    refine ⟨l.length, [], Nat.le_refl _, by first | rfl | go_num, .inl ⟨rfl, rfl⟩, (fun b hb => by cases hb), Nat.zero_le _, (by show contL _ _ _ _ = _; rw [List.take_length]), ?_, ?_⟩
    · rw [HN.out]; exact (Below.refl _ _).alloc (Nat.le_refl _) _
    · rw [HN.out]; exact heap_alloc_new w _
  case round =>
    obtain ⟨k, out, hk, rfl, HR, HO, HOL, HEQ, HB, HBX⟩ := hrel
    obtain ⟨Ao, co, rfl, hlo⟩ := HR.out.slice
    have hbx := HBX.out
    have c0 : wr.cell? ⟨n0, 0, none⟩ = some (.int .i64 S) := by simp [World.cell?, hbx]
    have c1 : wr.cell? ⟨n0, 1, none⟩ = some (.int .i64 W) := by simp [World.cell?, hbx]
    have c2 : wr.cell? ⟨n0, 2, none⟩ = some (.int .i64 L) := by simp [World.cell?, hbx]
    have hn := lt_of_heap hbx
    have hol := HOL.out
    clear hbx
    by_cases hk0 : k = 0
    · subst hk0
      go_wp2
      go_ret
      have he := HEQ.out
      simp only [List.take_zero, List.reverse_nil, contL] at he
      rw [← he]
      exact ⟨by rw [← HN.out]; exact HB.out, _, rfl, HR.out, fun b hb => by rw [← HN.out]; have := HO.out b hb; omega⟩
    · have hk1 : (1 : Int) ≤ k := by omega
      by_cases hfull : out.length < W
      · obtain ⟨m, rfl⟩ : ∃ m, k = m + 1 := ⟨k - 1, by omega⟩
        have hmt : m < l.length := by omega
        obtain ⟨b1, off, rfl, hlb, hc⟩ := HU.out.at (by rw [← HN.out]; exact HB.out) hmt
        have hx63 := HIL.out.get hmt
        obtain ⟨x, hx⟩ : ∃ x, x = l.getD m 0 := ⟨_, rfl⟩
        rw [← hx] at hc hx63
        have HT : Hid ((l.take (m + 1)).reverse = x :: (l.take m).reverse) := by
          show (l.take (m + 1)).reverse = _
          rw [List.take_succ_eq_append_getElem hmt, List.reverse_append, hx, List.getD_eq_getElem?_getD, List.getElem?_eq_getElem hmt]; rfl
        clear hx
        have C18 := fun w => rset_any S W L x hx63 w
        obtain ⟨sx, hsx⟩ : ∃ sx, sx = setF S W L x := ⟨_, rfl⟩
        rw [← hsx] at C18
        have HSX := Lib.hid hsx
        have hm1 : ((m + 1 : Nat) : Int) - 1 = m := by omega
        have hmm : (m : Int) ≤ 1000000 := by omega
        have hm0 : (0 : Int) ≤ m := by omega
        have hml : (m : Int) < l.length := by omega
        rw [hm1]
        clear hsx hm1 hk0 hk1
        by_cases hq : sx = q
        · have q1 : (sx != q) = false := by simpa using hq
          have HQ := Lib.hid hq
          clear hq
          go_wp2_with (go_at_call 18; (with_reducible refine (C18 _).mono ?_); rintro e w2 ⟨rfl, hb2⟩; have HB2 := Lib.hid hb2; clear hb2)
          have hB3 := HB.out.trans (HB2.out.mono (show n0 ≤ wr.heap.size by omega))
          have HR3 := Lib.hid (HR.out.move (w' := w2) (fun k hk => HB2.out.block k (HR.out.lt k hk).1))
          have HX3 := Lib.hid ((HB2.out.block n0 hn).trans HBX.out)
          have HB3 := Lib.hid hB3
          have hn2 : n0 < w2.heap.size := Nat.lt_of_lt_of_le hn HB2.out.size
          clear HB2 hB3 C18 c0 c1 c2
          go_loop [10, 11] (fun sb j => ∃ j' : Nat, j' ≤ out.length ∧ j = .int .i64 j' ∧ sb = .bool (decide (x ∈ out.take j'))) (fun _ j => out.length - (intOf j).toNat)
          case atStart => exact ⟨0, by omega, rfl, by simp⟩
          case round =>
            obtain ⟨j, hj, rfl, rfl⟩ := hrel
            by_cases hjt : j < out.length
            · obtain ⟨b2, off2, rfl, hlb2, hcy⟩ := HR3.out.rd.at (Below.refl _ _) hjt
              obtain ⟨y, hy⟩ : ∃ y, y = out.getD j 0 := ⟨_, rfl⟩
              have HTJ : Hid (x ∈ out.take (j + 1) ↔ x ∈ out.take j ∨ x = y) := by
                show x ∈ out.take (j + 1) ↔ x ∈ out.take j ∨ x = y
                have e : y = out[j] := by rw [hy, List.getD_eq_getElem?_getD, List.getElem?_eq_getElem hjt]; rfl
                rw [e, List.take_succ_eq_append_getElem hjt, List.mem_append, List.mem_singleton]
              rw [← hy] at hcy
              obtain ⟨sb, hsb⟩ : ∃ sb, sb = decide (x ∈ out.take j) := ⟨_, rfl⟩
              rw [← hsb]
              have HSB := Lib.hid hsb
              clear hy hsb
              by_cases hxy : y = x
              · have q2 : (y == x) = true := by simpa using hxy
                have HXY := Lib.hid hxy
                clear hxy
                go_wp2
                go_round
                case rel => exact ⟨j + 1, by omega, by go_num, by rw [decide_eq_true (HTJ.out.2 (.inr HXY.out.symm))]⟩
                case measure => simp [intOf]; omega
              · have q2 : (y == x) = false := by simpa using hxy
                have HXY := Lib.hid hxy
                clear hxy
                go_wp2
                go_round
                case rel =>
                  refine ⟨j + 1, by omega, by go_num, ?_⟩
                  rw [HSB.out]
                  congr 1
                  exact decide_eq_decide.2 ⟨fun h => HTJ.out.2 (.inl h), fun h => (HTJ.out.1 h).resolve_right (fun e => HXY.out e.symm)⟩
                case measure => simp [intOf]; omega
            · have hjo : j = out.length := by omega
              subst hjo
              rw [List.take_length]
              by_cases hin : x ∈ out
              · have q3 : decide (x ∈ out) = true := by simpa using hin
                have HIN := Lib.hid hin
                clear hin
                go_wp2
                go_roundw
                case rel =>
                  refine ⟨m, out, by omega, by first | rfl | go_num, HR3.out, HO.out, HOL.out, ?_, HB3.out, HX3.out⟩
                  have he := HEQ.out
                  rw [HT.out, contL, if_pos hfull, if_neg (fun h => h.2 HIN.out)] at he
                  exact he
                case measure => simp [intOf]
              · have q3 : decide (x ∈ out) = false := by simpa using hin
                have HIN := Lib.hid hin
                clear hin
                go_wp2_with (at_builtin; (refine wl_append _ rfl _ _ rfl (.slice Ao out.length co) out x rfl rfl HR3.out (by omega) ?_); intro v' w4 hr4 hf4 ho4; have HR4 := Lib.hid hr4; have HF4 := Lib.hid hf4; have HO4 := Lib.hid ho4; clear hr4 hf4 ho4)
                go_roundw
                case rel =>
                  refine ⟨m, out ++ [x], by omega, by first | rfl | go_num, HR4.out, ?_, by show (out ++ [x]).length ≤ W; simp; omega, ?_, ?_, ?_⟩
                  · intro b hb
                    rcases HO4.out with h | ⟨k, hk, hk2⟩
                    · exact HO.out b (h.symm.trans hb)
                    · rw [hk] at hb; injection hb with hb; omega
                  · have he := HEQ.out
                    rw [HT.out, contL, if_pos hfull, if_pos ⟨decide_eq_true (by rw [← HSX.out]; exact HQ.out), HIN.out⟩] at he
                    exact he
                  · exact HB3.out.trans (HF4.out.below (by omega) (fun k hk => by have := HO.out k hk; omega))
                  · exact (HF4.out.block n0 hn2 (fun hk => by have := HO.out n0 hk; omega)).trans HX3.out
                case measure => simp [intOf]
        · have q1 : (sx != q) = true := by simpa using hq
          have HQ := Lib.hid hq
          clear hq
          go_wp2_with (go_at_call 18; (with_reducible refine (C18 _).mono ?_); rintro e w2 ⟨rfl, hb2⟩; have HB2 := Lib.hid hb2; clear hb2)
          go_roundw
          case rel =>
            refine ⟨m, out, by omega, by first | rfl | go_num, HR.out.move (fun k hk => HB2.out.block k (HR.out.lt k hk).1), HO.out, HOL.out, ?_, HB.out.trans (HB2.out.mono (by omega)), (HB2.out.block n0 hn).trans HBX.out⟩
            have he := HEQ.out
            rw [HT.out, contL, if_pos hfull, if_neg (fun h => HQ.out (by rw [HSX.out]; exact of_decide_eq_true h.1))] at he
            exact he
          case measure => simp [intOf]
      · go_wp2
        go_ret
        have he := HEQ.out
        rw [contL_full _ _ _ _ (by omega)] at he
        rw [← he]
        exact ⟨by rw [← HN.out]; exact HB.out, _, rfl, HR.out, fun b hb => by rw [← HN.out]; have := HO.out b hb; omega⟩

/-- How old the reference finds a line. -/
def rAge (S W L : Int) (Wn : Nat) (hist : List Int) (z : Int) : Int := Lib.idxOf (contL (inSet S W L (setF S W L z)) Wn hist.reverse []) z

theorem rage_any (S L z : Int) (W : Nat) (v : Value) (l : List Int) (w : World) (hu : RdI w v l) (hl : l.length ≤ 1000000) (hW : W ≤ 1000000) (hil : I64s l) (hmin : ∀ x ∈ l, -9223372036854775808 ≤ x) (hz : z ≤ 9223372036854775807) :
    Calls Try.prog 28 #[.agg #[.int .i64 S, .int .i64 W, .int .i64 L], v, .int .i64 z] w (AgePost w (rAge S W L W l z)) := by
  obtain ⟨A, c, rfl⟩ := hu.slice
  have C18 := fun w => rset_any S W L z hz w
  have C30 := fun q w h => contents_any S L q W (.slice A l.length c) l w h hl hW hil hmin
  have HU := Lib.hid hu
  unfold rAge
  obtain ⟨q, hq⟩ : ∃ q, q = setF S W L z := ⟨_, rfl⟩
  rw [← hq] at C18 ⊢
  have D30 := C30 q
  obtain ⟨cl, hcl⟩ : ∃ cl, cl = contL (inSet S W L q) W l.reverse [] := ⟨_, rfl⟩
  rw [← hcl] at D30 ⊢
  have hcll : cl.length ≤ W := by rw [hcl]; exact contL_len _ _ _ _ (Nat.zero_le _)
  clear hu hil hmin hq hcl C30
  go_enter Try.func28, Try.ntmps28
  go_wp2
  obtain ⟨wb, hwb⟩ : ∃ wb, wb = w.alloc (.cells #[.int .i64 S, .int .i64 W, .int .i64 L] 23) := ⟨_, rfl⟩
  obtain ⟨n0, hn0⟩ : ∃ n0, n0 = w.heap.size := ⟨_, rfl⟩
  have hw0 : wb.cell? ⟨n0, 0, none⟩ = some (.int .i64 S) ∧ wb.cell? ⟨n0, 1, none⟩ = some (.int .i64 W) ∧ wb.cell? ⟨n0, 2, none⟩ = some (.int .i64 L) ∧ n0 < wb.heap.size ∧ Below n0 w wb := by
    rw [hwb, hn0]
    exact ⟨by simp, by simp, by simp, by simp, (Below.refl _ _).alloc (Nat.le_refl _) _⟩
  rw [← hwb, ← hn0]
  have HN0 := Lib.hid hn0
  clear hwb hn0
  obtain ⟨c0, c1, c2, hn, hb0⟩ := hw0
  have hle : n0 ≤ wb.heap.size := by omega
  go_region_held3 (fun w' => w'.cell? ⟨n0, 0, none⟩ = some (.int .i64 S) ∧ w'.cell? ⟨n0, 1, none⟩ = some (.int .i64 W) ∧ w'.cell? ⟨n0, 2, none⟩ = some (.int .i64 L)) (go_keep) (first
      | (go_at_call 18; (with_reducible refine (C18 _).mono ?_); rintro e w2 ⟨rfl, hb2⟩; have k2 := fun o => bcell hb2 n0 o hn; have hn := Nat.lt_of_lt_of_le (show n0 < _ from hn) hb2.size; have hB2 : Below n0 w w2 := hb0.drew.trans (hb2.mono hle); have HU2 := Lib.hid (HU.out.below (w' := w2) (by rw [← HN0.out]; exact hB2)))
      | (go_at_call 30; (with_reducible refine (D30 _ HU2.out).mono ?_); rintro e w3 ⟨hb3, v', rfl, hr3, ho3⟩; have k3 := fun o => bcell hb3 n0 o hn; have HR3 := Lib.hid hr3; have HB3 := Lib.hid hb3; clear hr3 ho3 hb3))
  obtain ⟨A3, c3, rfl, hl3⟩ := HR3.out.slice
  have hB2' := Lib.hid hB2
  have hle2 : n0 ≤ w2.heap.size := Nat.le_trans hle hb2.size
  clear c0 c1 c2 k2 k3 hb2 hB2 hb0 C18 D30
  try clear hHeld
  go_wp2
  go_loop [8] (fun i => ∃ j : Nat, j ≤ cl.length ∧ i = .int .i64 j ∧ Hid (∀ p, p < j → cl.getD p 0 ≠ z)) (fun i => cl.length - (intOf i).toNat)
  case atStart => exact ⟨0, by omega, rfl, fun p hp => by omega⟩
  case round =>
    obtain ⟨j, hj, rfl, HJ⟩ := hrel
    by_cases hjt : j < cl.length
    · obtain ⟨b2, off2, rfl, hlb2, hcy⟩ := HR3.out.rd.at (Below.refl _ _) hjt
      obtain ⟨y, hy⟩ : ∃ y, y = cl.getD j 0 := ⟨_, rfl⟩
      rw [← hy] at hcy
      have HY := Lib.hid hy
      clear hy
      by_cases hyz : y = z
      · have q1 : (y == z) = true := by simpa using hyz
        have HYZ := Lib.hid hyz
        clear hyz
        go_wp2
        go_ret
        refine ⟨ret_int ?_, by rw [← HN0.out]; exact hB2'.out.trans (HB3.out.mono hle2)⟩
        have := Lib.idxFrom_hit z cl j 0 hjt (by rw [← HY.out]; exact HYZ.out) HJ.out
        unfold Lib.idxOf
        rw [this, Nat.zero_add]
      · have q1 : (y == z) = false := by simpa using hyz
        have HYZ := Lib.hid hyz
        clear hyz
        go_wp2
        go_round
        case rel =>
          refine ⟨j + 1, by omega, by go_num, fun p hp => ?_⟩
          rcases Nat.lt_or_ge p j with h | h
          · exact HJ.out p h
          · have : p = j := by omega
            subst this
            rw [← HY.out]; exact HYZ.out
        case measure => simp [intOf]; omega
    · go_wp2
      go_ret
      refine ⟨ret_int ?_, by rw [← HN0.out]; exact hB2'.out.trans (HB3.out.mono hle2)⟩
      symm
      refine (idx_mem z cl).2 (fun hm => ?_)
      obtain ⟨p, hp, he⟩ := List.getElem_of_mem hm
      refine HJ.out p (by omega) ?_
      rw [List.getD_eq_getElem?_getD, List.getElem?_eq_getElem hp]
      exact he
end Go.Proofs.Ytgbmbehobemocaa
