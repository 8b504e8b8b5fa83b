/- CachePlays is true. -/
import Derived.Test.YtgbmbehobemocaaT
import Derived.Test.YtgbmbehobemocaaM5
namespace Go.Proofs.Ytgbmbehobemocaa
open Go.RowKit
set_option linter.unusedVariables false
set_option linter.unusedSimpArgs false

theorem plays_bad (S W L : Int) (hv : valB S W L = false) (u : Value) (l : List Int) (w : World) (hu : RdI w u l) (hl : l.length ≤ 9223372036854775807) :
    Calls Try.prog 9 #[.agg #[.int .i64 S, .int .i64 W, .int .i64 L], u] w fun e w' => e = .returned (.bool true) ∧ Below w.heap.size w w' := by
  obtain ⟨B, d, rfl⟩ := hu.slice
  have C12 := fun w => new_bad S W L w hv
  have C20 := fun w h => great_any w (.slice B l.length d) l h hl
  obtain ⟨g1, hg1⟩ : ∃ g1, g1 = greatB l := ⟨_, rfl⟩
  rw [← hg1] at C20
  have HU := Lib.hid hu
  clear hv hu hg1
  go_enter Try.func9, Try.ntmps9
  go_wp2_with (fail)
  obtain ⟨wb, hwb⟩ : ∃ wb, wb = w.alloc (.cells #[.int .i64 S, .int .i64 W, .int .i64 L] 23) := ⟨_, rfl⟩
  obtain ⟨n0, hn0⟩ : ∃ n0, n0 = w.heap.size := ⟨_, rfl⟩
  have hw0 : wb.cell? ⟨n0, 0, none⟩ = some (.int .i64 S) ∧ wb.cell? ⟨n0, 1, none⟩ = some (.int .i64 W) ∧ wb.cell? ⟨n0, 2, none⟩ = some (.int .i64 L) ∧ n0 < wb.heap.size ∧ Below n0 w wb := by
    rw [hwb, hn0]
    exact ⟨by simp, by simp, by simp, by simp, (Below.refl _ _).alloc (Nat.le_refl _) _⟩
  rw [← hwb, ← hn0]
  have HN0 := Lib.hid hn0
  clear hwb hn0
  obtain ⟨c0, c1, c2, hn, hb0⟩ := hw0
  refine (awake_any wb).mono ?_
  rintro e w1 ⟨rfl, hb⟩
  obtain ⟨c0, c1, c2, hn, hb0⟩ := step_box hb c0 c1 c2 hn hb0
  go_wp2_with (first
    | (go_at_call 12; (with_reducible refine (C12 _).mono ?_); rintro e w1 ⟨rfl, hb⟩; obtain ⟨c0, c1, c2, hn, hb0⟩ := step_box hb c0 c1 c2 hn hb0; have hB : Below w.heap.size w w1 := (by rw [← HN0.out]; exact hb0))
    | (go_at_call 20; (with_reducible refine (C20 _ (HU.out.below hB)).mono ?_); rintro e w' ⟨rfl, rfl⟩))
  all_goals
    go_ret
    exact ⟨rfl, hB⟩

theorem hitF_eq {s ln : Nat} {xss : List (List Int)} {a : Int} (ha : 0 ≤ a) : hitF s ln xss a = hitB s ln xss a := by
  unfold hitF hitB ageF
  rw [decide_eq_true ha, Bool.true_and]
  by_cases hm : a / ln ∈ xss.getD (a / ln % s).toNat []
  · obtain ⟨k, _, h2, _⟩ := (idx_mem (a / ln) _).1 hm
    rw [h2, decide_eq_true hm, decide_eq_true (by omega)]
  · rw [(idx_mem (a / ln) _).2 hm, decide_eq_false hm]
    rfl

/-- The cache and the history, apart. -/
def Pl (m1 : Nat) (w : World) (b s W ln : Nat) (xss : List (List Int)) (hv : Value) (hist : List Int) : Prop :=
  ∃ F : Nat → Prop, Ca w F b s W ln xss ∧ Row w hv hist ∧ (∀ k, hv.ownBlock = some k → ¬ F k ∧ m1 ≤ k) ∧ (∀ k, F k → m1 ≤ k)
section
variable {m1 : Nat} {w : World} {b s W ln : Nat} {xss : List (List Int)} {hv : Value} {hist : List Int}
theorem Pl.below {w' : World} (h : Pl m1 w b s W ln xss hv hist) (hb : Below w.heap.size w w') : Pl m1 w' b s W ln xss hv hist := by
  obtain ⟨F, h1, h2, h3, h4⟩ := h
  exact ⟨F, h1.below hb, h2.move (fun k hk => hb.block k (h2.lt k hk).1), h3, h4⟩
theorem Pl.ca (h : Pl m1 w b s W ln xss hv hist) : ∃ F, Ca w F b s W ln xss := by
  obtain ⟨F, h1, h2, h3, h4⟩ := h
  exact ⟨F, h1⟩
theorem Pl.row (h : Pl m1 w b s W ln xss hv hist) : Row w hv hist := by
  obtain ⟨F, h1, h2, h3, h4⟩ := h
  exact h2
theorem Pl.access (h : Pl m1 w b s W ln xss hv hist) (hm : m1 ≤ w.heap.size) (hvb : valB s W ln = true) (a : Int) (ha2 : a ≤ 9223372036854775807) :
    Calls Try.prog 23 #[.pointer (some ⟨b, 0, none⟩), .int .i64 a] w fun e w2 => e = .returned (.bool (hitB s ln xss a)) ∧ Pl m1 w2 b s W ln (accF s W ln xss a) hv hist ∧ Below m1 w w2 := by
  obtain ⟨F, h1, h2, h3, h4⟩ := h
  refine (access_ca F w b s W ln xss h1 hvb a ha2).mono ?_
  rintro e w2 ⟨rfl, hc, hf⟩
  refine ⟨rfl, ⟨_, hc, h2.fr hf (fun k hk => (h3 k hk).1), fun k hk => ⟨fun hF => ?_, (h3 k hk).2⟩, fun k hk => ?_⟩, hf.below hm h4⟩
  · rcases hF with hF | hF
    · exact (h3 k hk).1 hF
    · have := (h2.lt k hk).1
      omega
  · rcases hk with hk | hk
    · exact h4 k hk
    · omega
theorem Pl.flush (h : Pl m1 w b s W ln xss hv hist) (hm : m1 ≤ w.heap.size) (hvb : valB s W ln = true) :
    Calls Try.prog 22 #[.pointer (some ⟨b, 0, none⟩)] w fun e w2 => e = .returned (.tuple #[]) ∧ Pl m1 w2 b s W ln (emptyF s) (.slice none 0 0) [] ∧ Below m1 w w2 := by
  obtain ⟨F, h1, h2, h3, h4⟩ := h
  refine (flush_ca F w b s W ln xss h1 hvb).mono ?_
  rintro e w2 ⟨rfl, hf, hc⟩
  exact ⟨rfl, ⟨_, hc, .inl ⟨rfl, rfl⟩, (fun k hk => by cases hk), fun k hk => by rcases hk with hk | hk; exact h4 k hk; omega⟩, hf.below hm h4⟩
theorem Pl.append {w' : World} {v' : Value} {x : Int} (h : Pl m1 w b s W ln xss hv hist) (hm : m1 ≤ w.heap.size) (hr : Row w' v' (hist ++ [x])) (hf : Fr (fun k => hv.ownBlock = some k) w w') (ho : v'.ownBlock = hv.ownBlock ∨ ∃ k, v'.ownBlock = some k ∧ w.heap.size ≤ k) :
    Pl m1 w' b s W ln xss v' (hist ++ [x]) ∧ Below m1 w w' := by
  obtain ⟨F, h1, h2, h3, h4⟩ := h
  refine ⟨⟨_, h1.keep hf (fun k hF hk => (h3 k hk).1 hF), hr, fun k hk => ?_, fun k hk => h4 k hk.1⟩, hf.below hm (fun k hk => (h3 k hk).2)⟩
  rcases ho with ho | ⟨m, hmm, hm2⟩
  · rw [ho] at hk
    exact ⟨fun hF => (h3 k hk).1 hF.1, (h3 k hk).2⟩
  · rw [hmm] at hk
    injection hk with hk
    subst hk
    exact ⟨fun hF => by have := hF.2; omega, by omega⟩
end

set_option maxRecDepth 100000 in
set_option maxHeartbeats 4000000 in
theorem plays_good (s W ln : Nat) (hv : valB s W ln = true) (u : Value) (l : List Int) (w : World) (hu : RdI w u l) (hl : l.length ≤ 9223372036854775807) (hil : I64s l) :
    Calls Try.prog 9 #[.agg #[.int .i64 s, .int .i64 W, .int .i64 ln], u] w fun e w' => e = .returned (.bool true) ∧ Below w.heap.size w w' := by
  obtain ⟨A, c, rfl⟩ := hu.slice
  have C12 := fun w => new_ok s W ln w hv
  have C20 := fun w h => great_any w (.slice A l.length c) l h hl
  obtain ⟨g1, hg1⟩ : ∃ g1, g1 = greatB l := ⟨_, rfl⟩
  rw [← hg1] at C20
  have HU := Lib.hid hu
  have HVB := Lib.hid hv
  have HIL := Lib.hid hil
  have HG1 := Lib.hid hg1
  obtain ⟨-, -, hs1, hs2, hW1, hW2, hL1, hL2⟩ := valB_spec hv
  clear hv hu hg1 hil
  go_enter Try.func9, Try.ntmps9
  go_wp2_with (fail)
  obtain ⟨wb, hwb⟩ : ∃ wb, wb = w.alloc (.cells #[.int .i64 s, .int .i64 W, .int .i64 ln] 23) := ⟨_, rfl⟩
  obtain ⟨n0, hn0⟩ : ∃ n0, n0 = w.heap.size := ⟨_, rfl⟩
  have hw0 : wb.cell? ⟨n0, 0, none⟩ = some (.int .i64 s) ∧ wb.cell? ⟨n0, 1, none⟩ = some (.int .i64 W) ∧ wb.cell? ⟨n0, 2, none⟩ = some (.int .i64 ln) ∧ n0 < wb.heap.size ∧ Below n0 w wb := by
    rw [hwb, hn0]
    exact ⟨by simp, by simp, by simp, by simp, (Below.refl _ _).alloc (Nat.le_refl _) _⟩
  rw [← hwb, ← hn0]
  have HN0 := Lib.hid hn0
  clear hwb hn0
  obtain ⟨c0, c1, c2, hn, hb0⟩ := hw0
  refine (awake_any wb).mono ?_
  rintro e w1 ⟨rfl, hb⟩
  obtain ⟨c0, c1, c2, hn, hb0⟩ := step_box hb c0 c1 c2 hn hb0
  go_wp2_with (first
    | (go_at_call 12; (with_reducible refine (C12 _).mono ?_); rintro e w2 hnew; obtain ⟨hb, b, rfl, hc2⟩ := hnew.ca; clear hnew; obtain ⟨c0, c1, c2, hn, hb0⟩ := step_box hb c0 c1 c2 hn hb0; have HC2 := Lib.hid hc2; have HB2 : Hid (Below w.heap.size w w2) := (by rw [← HN0.out]; exact hb0); clear hc2)
    | (go_at_call 20; (with_reducible refine (C20 _ (HU.out.below HB2.out)).mono ?_); rintro e w' ⟨rfl, rfl⟩))
  · go_ret
    exact ⟨rfl, HB2.out⟩
  have g1f : g1 = false := Bool.eq_false_iff.2 (by assumption)
  obtain ⟨gl1, gl2⟩ := great_spec (HG1.out.symm.trans g1f)
  have HGL := Lib.hid gl2
  have hn1 : n0 < w1.heap.size := by assumption
  have hsz : w1.heap.size ≤ w2.heap.size := hb.size
  have hws : w.heap.size ≤ w1.heap.size := by rw [← HN0.out]; omega
  obtain ⟨m1, hm1⟩ : ∃ m1, m1 = w1.heap.size := ⟨_, rfl⟩
  rw [← hm1] at HC2 hn1 hsz hws
  have HP2 : Hid (Pl m1 w2 b s W ln (emptyF s) (.slice none 0 0) []) := ⟨_, HC2.out, .inl ⟨rfl, rfl⟩, (fun k hk => by cases hk), fun k hk => hk⟩
  clear g1f gl2 C12 C20 hb hb0 hm1 HC2
  go_wp2
  go_loopw [7, 30] (fun hv i wr => ∃ i' : Nat, ∃ xst hist, i' ≤ l.length ∧ i = .int .i64 i' ∧ Hid (Pl m1 wr b s W ln xst hv hist) ∧ Hid (Hist s W ln xst hist) ∧ hist.length ≤ i' ∧ Hid (∀ x ∈ hist, 0 ≤ x ∧ x ≤ 100000) ∧ Hid (Below m1 w2 wr)) (fun _ i _ => l.length - (intOf i).toNat)
  case atStart => exact ⟨0, emptyF s, [], by omega, rfl, HP2.out, Hist.empty s W ln, Nat.le_refl _, (fun x hx => by simp at hx), Below.refl _ _⟩
  case round =>
    obtain ⟨i, xst, hist, hi, rfl, HP, HH, hhl, HHI, HB⟩ := hrel
    have r0 := (bcell HB.out n0 0 hn1).trans c0
    have r1 := (bcell HB.out n0 1 hn1).trans c1
    have r2 := (bcell HB.out n0 2 hn1).trans c2
    have hmr : m1 ≤ wr.heap.size := Nat.le_trans hsz HB.out.size
    have rn : n0 < wr.heap.size := by omega
    have HBW : Hid (Below w.heap.size w wr) := HB2.out.trans (HB.out.mono hws)
    obtain ⟨Ah, ch, rfl, hch⟩ := HP.out.row.slice
    by_cases hlt : i < l.length
    · obtain ⟨b1, off, rfl, hlb, hc⟩ := HU.out.at HBW.out hlt
      obtain ⟨x, hx⟩ : ∃ x, x = l.getD i 0 := ⟨_, rfl⟩
      have hx63 := HIL.out.get hlt
      have hx100 : x ≤ 100000 := by rw [hx]; exact HGL.out _ (getD_memI _ hlt)
      rw [← hx] at hc hx63
      clear hx
      by_cases hm : x = -1
      · have q1 : (x == -1) = true := by simpa using hm
        clear hm
        have FL := HP.out.flush hmr HVB.out
        go_wp2_with (go_at_call 22; (with_reducible refine FL.mono ?_); rintro e w3 ⟨rfl, hp3, hb3⟩; have HP3 := Lib.hid hp3; have HB3 := Lib.hid hb3; clear hp3 hb3)
        go_roundw
        case rel => exact ⟨i + 1, _, _, by omega, by go_num, HP3.out, Hist.empty s W ln, Nat.zero_le _, (fun x hx => by simp at hx), HB.out.trans HB3.out⟩
        case measure => simp [intOf]; omega
      · have q1 : (x == -1) = false := by simpa using hm
        clear hm
        by_cases hx0 : 0 ≤ x
        · have hst := HH.out.step HVB.out (by omega) (by omega) hx0
          obtain ⟨d0, d1⟩ := div_le (ln := ln) hx0
          have hage := acc_age (W := W) (ln := ln) HH.out.lx (by omega) (by omega) hx0
          have hhf := hitF_eq (s := s) (ln := ln) (xss := xst) hx0
          have hhf2 := hitF_eq (s := s) (ln := ln) (xss := accF s W ln xst x) hx0
          have C16 := fun w => rline_any s W ln x (by omega) w
          rw [lineF_ok HVB.out hx0] at C16
          have hit2 : hitF s ln (accF s W ln xst x) x = true := by unfold hitF; rw [hage]; rfl
          obtain ⟨y, hy⟩ : ∃ y, y = x / ln := ⟨_, rfl⟩
          rw [← hy] at hst d0 d1 hage C16
          have hY63 : y ≤ 100000 := by omega
          obtain ⟨hst1, hst2⟩ := hst
          have HST := Lib.hid hst1
          have C28 := fun w h => rage_any s ln y W (.slice Ah hist.length ch) hist w h (by omega) (by omega) (fun x hx => by have := (HHI.out x hx).2; omega) (fun x hx => by have := (HHI.out x hx).1; omega) (by omega)
          obtain ⟨r, hr⟩ : ∃ r, r = rAge s W ln W hist y := ⟨_, rfl⟩
          rw [← hr] at C28 hst2
          obtain ⟨hb, hhb⟩ : ∃ hb, hb = hitB s ln xst x := ⟨_, rfl⟩
          have A23 := fun w (h : Pl m1 w b s W ln xst (.slice Ah hist.length ch) hist) hm => h.access hm HVB.out x hx63
          rw [← hhb] at hhf hst2 A23
          have P26 := fun F w (h : Ca w F b s W ln xst) => probe_ca F w b s W ln xst h HVB.out x hx0 hx63
          rw [hhf] at P26
          have P26' := fun F w (h : Ca w F b s W ln (accF s W ln xst x)) => probe_ca F w b s W ln _ h HVB.out x hx0 hx63
          rw [hit2] at P26'
          have G25 := fun F w (h : Ca w F b s W ln (accF s W ln xst x)) => age_ca F w b s W ln _ h HVB.out y d0 (by omega)
          rw [hage] at G25
          have HYL : Hid (y = x / ln) := hy
          clear hy hst1 hage hhf hhf2 hit2 hr hhb
          cases hb with
          | true =>
            have hr0 : 0 ≤ r := of_decide_eq_true hst2.symm
            clear hst2
            go_wp2_with (first
              | (go_at_call 16; (with_reducible refine (C16 _).mono ?_); rintro e w3 ⟨rfl, hb3⟩; have r0 := (bcell hb3 n0 0 rn).trans r0; have r1 := (bcell hb3 n0 1 rn).trans r1; have r2 := (bcell hb3 n0 2 rn).trans r2; have HP3 := Lib.hid (HP.out.below hb3); have HB3 := Lib.hid (HB.out.trans (hb3.mono hmr)); clear hb3)
              | (go_at_call 28; (with_reducible refine (C28 _ HP3.out.row.rd).mono ?_); rintro e w4 ⟨rfl, hb4⟩; have HP4 := Lib.hid (HP3.out.below hb4); have HB4 := Lib.hid (HB3.out.trans (hb4.mono (Nat.le_trans hsz HB3.out.size))); clear hb4; have hF := HP4.out.ca; obtain ⟨F4, hF4⟩ := hF; have HF4 := Lib.hid hF4; clear hF4)
              | (go_at_call 26; (with_reducible refine (P26 _ _ HF4.out).mono ?_); rintro e w5 ⟨rfl, hb5⟩; have HP5 := Lib.hid (HP4.out.below hb5); have HB5 := Lib.hid (HB4.out.trans (hb5.mono (Nat.le_trans hsz HB4.out.size))); have hm5 := Nat.le_trans hsz HB5.out.size; clear hb5)
              | (go_at_call 23; (with_reducible refine (A23 _ HP5.out hm5).mono ?_); rintro e w6 ⟨rfl, hp6, hb6⟩; have HP6 := Lib.hid hp6; have HB6 := Lib.hid (HB5.out.trans hb6); clear hp6 hb6; have hF := HP6.out.ca; obtain ⟨F6, hF6⟩ := hF; have HF6 := Lib.hid hF6; clear hF6)
              | (go_at_call 26; (with_reducible refine (P26' _ _ HF6.out).mono ?_); rintro e w7 ⟨rfl, hb7⟩; have HF7 := Lib.hid (HF6.out.below hb7); have HP7 := Lib.hid (HP6.out.below hb7); have HB7 := Lib.hid (HB6.out.trans (hb7.mono (Nat.le_trans hsz HB6.out.size))); clear hb7)
              | (go_at_call 25; (with_reducible refine (G25 _ _ HF7.out).mono ?_); rintro e w8 ⟨rfl, hb8⟩; have HP8 := Lib.hid (HP7.out.below hb8); have HB8 := Lib.hid (HB7.out.trans (hb8.mono (Nat.le_trans hsz HB7.out.size))); clear hb8)
              | (at_builtin; (refine wl_append _ rfl _ _ rfl (.slice Ah hist.length ch) hist y rfl rfl HP8.out.row (by omega) ?_); intro v' w9 hr9 hf9 ho9; have HR9 := Lib.hid hr9; have HF9 := Lib.hid hf9; have HO9 := Lib.hid ho9; clear hr9 hf9 ho9))
            go_roundw
            case rel =>
              obtain ⟨p1, p2⟩ := HP8.out.append (Nat.le_trans hsz HB8.out.size) HR9.out HF9.out HO9.out
              exact ⟨i + 1, _, _, by omega, by go_num, p1, HST.out, by simp; omega, (fun z hz => by
                rcases List.mem_append.1 hz with h | h
                · exact HHI.out z h
                · rw [List.mem_singleton.1 h]; exact ⟨d0, hY63⟩), HB8.out.trans p2⟩
            case measure => simp [intOf]; omega
          | false =>
            have hr0 : ¬ 0 ≤ r := of_decide_eq_false hst2.symm
            clear hst2
            go_wp2_with (first
              | (go_at_call 16; (with_reducible refine (C16 _).mono ?_); rintro e w3 ⟨rfl, hb3⟩; have r0 := (bcell hb3 n0 0 rn).trans r0; have r1 := (bcell hb3 n0 1 rn).trans r1; have r2 := (bcell hb3 n0 2 rn).trans r2; have HP3 := Lib.hid (HP.out.below hb3); have HB3 := Lib.hid (HB.out.trans (hb3.mono hmr)); clear hb3)
              | (go_at_call 28; (with_reducible refine (C28 _ HP3.out.row.rd).mono ?_); rintro e w4 ⟨rfl, hb4⟩; have HP4 := Lib.hid (HP3.out.below hb4); have HB4 := Lib.hid (HB3.out.trans (hb4.mono (Nat.le_trans hsz HB3.out.size))); clear hb4; have hF := HP4.out.ca; obtain ⟨F4, hF4⟩ := hF; have HF4 := Lib.hid hF4; clear hF4)
              | (go_at_call 26; (with_reducible refine (P26 _ _ HF4.out).mono ?_); rintro e w5 ⟨rfl, hb5⟩; have HP5 := Lib.hid (HP4.out.below hb5); have HB5 := Lib.hid (HB4.out.trans (hb5.mono (Nat.le_trans hsz HB4.out.size))); have hm5 := Nat.le_trans hsz HB5.out.size; clear hb5)
              | (go_at_call 23; (with_reducible refine (A23 _ HP5.out hm5).mono ?_); rintro e w6 ⟨rfl, hp6, hb6⟩; have HP6 := Lib.hid hp6; have HB6 := Lib.hid (HB5.out.trans hb6); clear hp6 hb6; have hF := HP6.out.ca; obtain ⟨F6, hF6⟩ := hF; have HF6 := Lib.hid hF6; clear hF6)
              | (go_at_call 26; (with_reducible refine (P26' _ _ HF6.out).mono ?_); rintro e w7 ⟨rfl, hb7⟩; have HF7 := Lib.hid (HF6.out.below hb7); have HP7 := Lib.hid (HP6.out.below hb7); have HB7 := Lib.hid (HB6.out.trans (hb7.mono (Nat.le_trans hsz HB6.out.size))); clear hb7)
              | (go_at_call 25; (with_reducible refine (G25 _ _ HF7.out).mono ?_); rintro e w8 ⟨rfl, hb8⟩; have HP8 := Lib.hid (HP7.out.below hb8); have HB8 := Lib.hid (HB7.out.trans (hb8.mono (Nat.le_trans hsz HB7.out.size))); clear hb8)
              | (at_builtin; (refine wl_append _ rfl _ _ rfl (.slice Ah hist.length ch) hist y rfl rfl HP8.out.row (by omega) ?_); intro v' w9 hr9 hf9 ho9; have HR9 := Lib.hid hr9; have HF9 := Lib.hid hf9; have HO9 := Lib.hid ho9; clear hr9 hf9 ho9))
            go_roundw
            case rel =>
              obtain ⟨p1, p2⟩ := HP8.out.append (Nat.le_trans hsz HB8.out.size) HR9.out HF9.out HO9.out
              exact ⟨i + 1, _, _, by omega, by go_num, p1, HST.out, by simp; omega, (fun z hz => by
                rcases List.mem_append.1 hz with h | h
                · exact HHI.out z h
                · rw [List.mem_singleton.1 h]; exact ⟨d0, hY63⟩), HB8.out.trans p2⟩
            case measure => simp [intOf]; omega
        · have P1 := probe_neg b x (by omega)
          have A1 := access_neg b x (by omega)
          go_wp2_with (first
            | (go_at_call 26; (with_reducible refine (P1 _).mono ?_); rintro e w3 ⟨rfl, rfl⟩)
            | (go_at_call 23; (with_reducible refine (A1 _).mono ?_); rintro e w3 ⟨rfl, rfl⟩))
          go_roundw
          case rel => exact ⟨i + 1, _, _, by omega, by go_num, HP.out, HH.out, by omega, HHI.out, HB.out⟩
          case measure => simp [intOf]; omega
    · obtain ⟨F, hF⟩ := HP.out.ca
      have L1 := lines_ca F wr b s W ln xst hF HVB.out
      have HLW : Hid (∀ i, i < s → (xst.getD i []).length ≤ W) := fun i hi => by
        obtain ⟨_, _, _, hw⟩ := hF
        exact hw _ (getD_mem (by rw [HH.out.lx]; exact hi))
      have C30 := fun (q : Int) w h => contents_any s ln q W (.slice Ah hist.length ch) hist w h (by omega) (by omega) (fun x hx => by have := (HHI.out x hx).2; omega) (fun x hx => by have := (HHI.out x hx).1; omega)
      have C30' := fun (q : Nat) (hq : q < s) w h => by
        have := C30 (q : Int) w h
        rw [← HH.out.eq q hq] at this
        exact this
      clear C30 hF
      go_wp2_with (go_at_call 24; (with_reducible refine L1.mono ?_); rintro e w5 ⟨hb5, g, us, rfl, hmat⟩; have HB5 := Lib.hid hb5; have HM5 := Lib.hid hmat; have hn5 := Nat.lt_of_lt_of_le rn hb5.size; have c0 := (bcell hb5 n0 0 rn).trans r0; have c1 := (bcell hb5 n0 1 rn).trans r1; have c2 := (bcell hb5 n0 2 rn).trans r2; clear hb5 hmat)
      have HR5 : Hid (RdI w5 (.slice Ah hist.length ch) hist) := HP.out.row.rd.below HB5.out
      have HBW5 : Hid (Below w.heap.size w w5) := HBW.out.trans (HB5.out.mono HBW.out.size)
      obtain ⟨wz, rfl⟩ : ∃ wz : World, wz = w5 := ⟨_, rfl⟩
      go_loopw [96] (fun i w7 => ∃ i' : Nat, i' ≤ s ∧ i = .int .i64 i' ∧ Hid (Below wz.heap.size wz w7)) (fun i _ => s - (intOf i).toNat)
      case atStart => exact ⟨0, by omega, rfl, Below.refl _ _⟩
      case round =>
        obtain ⟨j, hj, rfl, HB7⟩ := hrel
        have t0 := (bcell HB7.out n0 0 hn5).trans c0
        have t1 := (bcell HB7.out n0 1 hn5).trans c1
        have t2 := (bcell HB7.out n0 2 hn5).trans c2
        by_cases hjs : j < s
        · obtain ⟨A0, cc, hgi, hrow⟩ := HM5.out.at hjs
          have hgl := lt_of_heap HM5.out.arr
          have hg7 := (bcell HB7.out g j hgl).trans hgi
          have D30 := C30' j hjs
          obtain ⟨xs, hxs⟩ : ∃ xs, xs = xst.getD j [] := ⟨_, rfl⟩
          have hxlen : xs.length ≤ W := by rw [hxs]; exact HLW.out j hjs
          rw [← hxs] at hg7 hrow D30
          have HROW := Lib.hid hrow
          clear hxs hrow hgi
          go_wp2_with (first
            | (go_at_call 30; (with_reducible refine (D30 _ (HR5.out.below HB7.out)).mono ?_); rintro e w8 ⟨hb8, v8, rfl, hr8, -⟩; have HR8 := Lib.hid hr8; have HB8 := Lib.hid (HB7.out.trans (hb8.mono HB7.out.size)); clear hr8 hb8)
            | (go_at_call 29; (with_reducible refine (ints_any _ _ _ xs xs (HROW.out.below HB8.out) HR8.out.rd (by omega)).mono ?_); rintro e w9 ⟨rfl, hb9⟩; have HB9 := Lib.hid (HB8.out.trans (hb9.mono HB8.out.size)); clear hb9))
          go_roundw
          case rel => exact ⟨j + 1, by omega, by go_num, HB9.out⟩
          case measure => simp [intOf]; omega
        · go_wp2
          go_ret
          exact ⟨rfl, HBW5.out.trans (HB7.out.mono HBW5.out.size)⟩

theorem cachePlays_walk (S W L : Int) (u : Value) (l : List Int) (w : World) (hu : RdK w .i64 u l) (hl : l.length ≤ 9223372036854775807) (wl : ∀ n ∈ l, (Lit.int .i64 n).wf = true) :
    Calls Try.prog 9 #[.agg #[.int .i64 S, .int .i64 W, .int .i64 L], u] w fun e w' => e = .returned (.bool true) ∧ Below w.heap.size w w' := by
  cases hv : valB S W L with
  | false => exact plays_bad S W L hv u l w hu hl
  | true =>
    obtain ⟨-, -, h1, h2, h3, h4, h5, h6⟩ := valB_spec hv
    obtain ⟨s, rfl⟩ := Int.eq_ofNat_of_zero_le (show 0 ≤ S by omega)
    obtain ⟨wy, rfl⟩ := Int.eq_ofNat_of_zero_le (show 0 ≤ W by omega)
    obtain ⟨ln, rfl⟩ := Int.eq_ofNat_of_zero_le (show 0 ≤ L by omega)
    exact plays_good s wy ln hv u l w hu hl (wf_i64s wl)
end Go.Proofs.Ytgbmbehobemocaa
