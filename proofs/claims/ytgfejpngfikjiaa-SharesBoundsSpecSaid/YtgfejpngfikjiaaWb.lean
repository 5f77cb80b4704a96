/-
  What the functions that SharesBoundsSpec reaches compute; the law, run.
-/
import Derived.Test.YtgfejpngfikjiaaWa
import Derived.Test.YtgfejpngfikjiaaCf
import Derived.Test.YtgfejpngfikjiaaCe
set_option linter.all false
namespace Go.Proofs.Ytgfejpngfikjiaa.Tidy
open Go Go.IntWalk
set_option maxRecDepth 10000
set_option linter.unusedSimpArgs false
set_option maxHeartbeats 2000000

theorem inside_call (T : TabV) (i k : Int) (ro : Nat) (H : Heap) (nx : Nat) : callT env 117 [T.v, .int .i64 i, .int .i64 k] ro H nx = some (.ret (.bool !outB T.tab i k), .ups []) := by
  have : ∃ H', runT env 117 [T.v, .int .i64 i, .int .i64 k] [] 0 = some (.ret (.bool !outB T.tab i k), H') := by
    have lr : T.rows.l.length = T.tab.R := rfl
    have lc : T.cols.l.length = T.tab.C := rfl
    have n1 : decide (0 ≤ i) = !decide (i < 0) := by rw [← decide_not]; exact decide_eq_decide.2 (by omega)
    have n2 : decide (i < (T.tab.R : Int)) = !decide ((T.tab.R : Int) ≤ i) := by rw [← decide_not]; exact decide_eq_decide.2 (by omega)
    have n3 : decide (0 ≤ k) = !decide (k < 0) := by rw [← decide_not]; exact decide_eq_decide.2 (by omega)
    have n4 : decide (k < (T.tab.C : Int)) = !decide ((T.tab.C : Int) ≤ k) := by rw [← decide_not]; exact decide_eq_decide.2 (by omega)
    rw [run_unfold fn117 rfl]
    unfold outB
    cases d1 : decide (i < 0) <;> cases d2 : decide ((T.tab.R : Int) ≤ i) <;> cases d3 : decide (k < 0) <;> cases d4 : decide ((T.tab.C : Int) ≤ k) <;> rw [d1] at n1 <;> rw [d2] at n2 <;> rw [d3] at n3 <;> rw [d4] at n4 <;>
      (simp only [go_sem, simprocAttr, Try.f117, List.length_map, lr, lc, n1, n2, n3, n4, unwind, modeEx, resultsOf, one]
       exact ⟨_, rfl⟩)
  obtain ⟨H', h⟩ := this
  exact call_pure rfl rfl rfl (by simp [underL, AVal.under, TabV.under]) h rfl ro H nx

theorem ready_call {T : TabV} (hT : T.Wf) (i k : Int) (ro : Nat) (H : Heap) (nx : Nat) : callT env 84 [T.v, .int .i64 i, .int .i64 k] ro H nx = some (.ret (.int .i64 (askS T.tab i k)), .ups []) := by
  have : ∃ H', runT env 84 [T.v, .int .i64 i, .int .i64 k] [] 0 = some (.ret (.int .i64 (askS T.tab i k)), H') := by
    have ck := rcheck_call T hT
    have ic := inside_call T i k
    rw [run_unfold fn84 rfl]
    unfold askS
    cases hok : T.tab.ok with
    | false =>
      simp only [go_sem, simprocAttr, Try.f84, ck, ckS_no hok, unwind, modeEx, resultsOf, one, Bool.false_eq_true, if_false]
      exact ⟨_, rfl⟩
    | true =>
      have cc := Can_call hT (Tab.ok_iff.1 hok)
      cases hcan : canB T.tab with
      | false =>
        rw [hcan] at cc
        simp only [go_sem, simprocAttr, Try.f84, ck, ckS_ok hok, cc, unwind, modeEx, resultsOf, one, if_true, Bool.false_eq_true, if_false]
        exact ⟨_, rfl⟩
      | true =>
        rw [hcan] at cc
        cases ho : outB T.tab i k <;> rw [ho] at ic <;>
          (simp only [go_sem, simprocAttr, Try.f84, ck, ckS_ok hok, cc, ic, unwind, modeEx, resultsOf, one, if_true, Bool.false_eq_true, if_false]
           exact ⟨_, rfl⟩)
  obtain ⟨H', h⟩ := this
  exact call_pure rfl rfl rfl (by simp [underL, AVal.under, TabV.under]) h rfl ro H nx

set_option maxRecDepth 10000
set_option maxHeartbeats 4000000

theorem mod_facts {T : TabV} (hT : T.Wf) (hO : T.tab.Ok) {r c : Nat} (hr : r < T.tab.R) (x : Spn) (hx : x.ok = true) :
    ∃ (gc : Nat) (X : Heap) (p : Nat) (acc : List AVal), callT env 89 [T.v] 0 [boxT T] 1 = some (.ret (.agg [.ref 3 1 0 T.tab.R false, .ref 4 1 0 T.tab.C false, .ref 5 gc 0 T.tab.R false]), .ups (numbered 1 X)) ∧
      putU [boxT T] (numbered 1 X) = boxT T :: X ∧
      (boxT T :: (X ++ [.cells 0 3 false [.agg [.ref 3 1 0 T.tab.R false, .ref 4 1 0 T.tab.C false, .ref 5 gc 0 T.tab.R false]]]))[5]? = some (.cells gc 1 false acc) ∧
      acc[r]? = some (.ref p 0 0 T.tab.C false) ∧
      (boxT T :: (X ++ [.cells 0 3 false [.agg [.ref 3 1 0 T.tab.R false, .ref 4 1 0 T.tab.C false, .ref 5 gc 0 T.tab.R false]]]))[p]? = some (.cells 0 2 true (rowA T.tab r)) ∧
      (p < X.length + 1 + 1) = True ∧
      ((boxT T :: (X ++ [.cells 0 3 false [.agg [.ref 3 1 0 T.tab.R false, .ref 4 1 0 T.tab.C false, .ref 5 gc 0 T.tab.R false]]])).set p (.cells 0 2 true ((rowA T.tab r).set c (spV x))))[X.length + 1]? = some (.cells 0 3 false [.agg [.ref 3 1 0 T.tab.R false, .ref 4 1 0 T.tab.C false, .ref 5 gc 0 T.tab.R false]]) ∧
      callT env 75 [.agg [.ref 3 1 0 T.tab.R false, .ref 4 1 0 T.tab.C false, .ref 5 gc 0 T.tab.R false]] 0 ((boxT T :: (X ++ [.cells 0 3 false [.agg [.ref 3 1 0 T.tab.R false, .ref 4 1 0 T.tab.C false, .ref 5 gc 0 T.tab.R false]]])).set p (.cells 0 2 true ((rowA T.tab r).set c (spV x)))) (X.length + 1 + 1) = some (.ret (.bool (canB (T.tab.setCell r c x))), .ups []) ∧
      ∀ Tm ro V, trunc 1 ⟨Tm, (boxT T :: (X ++ [.cells 0 3 false [.agg [.ref 3 1 0 T.tab.R false, .ref 4 1 0 T.tab.C false, .ref 5 gc 0 T.tab.R false]]])).set p (.cells 0 2 true ((rowA T.tab r).set c (spV x))), [], ro, V⟩ = ⟨Tm.map (scrub 1), [boxT T], [], ro, V⟩ := by
  obtain ⟨gc, cl⟩ := copied_call hT hO
  have cl := cl 0 [boxT T] 1
  have at0 := copied_at hO [boxT T] gc
  have hpu := putU_end (cpX T 1 gc) [boxT T]
  have H1 : ([boxT T] : Heap).length = 1 := rfl
  have hps : ∀ i, cpP 1 i ≠ 0 := fun i => by unfold cpP; omega
  rw [H1] at at0 hpu
  generalize hX : cpX T 1 gc = X at cl at0 hpu
  generalize hp : cpP 1 = ps at at0 hps
  have at1 := at0.more [.cells 0 3 false [memT T.tab (1 + 2) (1 + 3) (1 + 4) 1 1 gc]]
  have at2 := at1.write (k := c) hO.len hr x
  obtain ⟨l1, l2, l3, l4⟩ := at1.lt
  have l4 := l4 r hr
  have hlen2 : (([boxT T] ++ X) ++ [Blk.cells 0 3 false [memT T.tab (1 + 2) (1 + 3) (1 + 4) 1 1 gc]]).length = X.length + 1 + 1 := by
    rw [List.length_append, List.length_append, H1]; simp only [List.length_cons, List.length_nil]; omega
  have hO2 : (T.tab.setCell r c x).Ok := setCell_ok hO hr hx
  have hpne : ps r ≠ X.length + 1 := fun e => by
    have := at0.lt.2.2.2 r hr
    rw [List.length_append, H1] at this
    omega
  have hcan := Can_run (canon_wf hO2.R8 hO2.C8 hO2.len hO2.wid) (by rw [canon_tab]; exact hO2)
  rw [canon_tab] at hcan
  obtain ⟨Hm, mr⟩ := hcan
  obtain ⟨ids, hle⟩ := at2.lend (lits := [0]) hO2.R8 hO2.len hO2.wid rfl (args := []) rfl
  obtain ⟨us, mc, hus⟩ := call_lent (f := 75) rfl rfl rfl rfl hle tv_pure mr (handBack_noRef _ _ _ _ _ rfl) rfl (X.length + 1 + 1)
  have hus := hus rfl
  subst hus
  refine ⟨gc, X, ps r, vecA T.tab.R fun i => .ref (ps i) 0 0 T.tab.C false, cl, hpu, at1.acc, vecA_get _ hr, at1.row r hr, eq_true (by rw [hlen2] at l4; exact l4), ?_, mc, fun Tm ro V => ?_⟩
  · show ((([boxT T] ++ X) ++ [Blk.cells 0 3 false [memT T.tab (1 + 2) (1 + 3) (1 + 4) 1 1 gc]]).set (ps r) _)[X.length + 1]? = _
    rw [List.getElem?_set_ne hpne]
    exact get_snoc (by rw [List.length_append, H1]; omega) _
  · obtain ⟨q, hq⟩ : ∃ q, ps r = q + 1 := ⟨ps r - 1, by have := hps r; omega⟩
    rw [hq, List.set_cons_succ]
    unfold trunc
    have h1 : ¬ ((boxT T :: (X ++ [Blk.cells 0 3 false [.agg [.ref 3 1 0 T.tab.R false, .ref 4 1 0 T.tab.C false, .ref 5 gc 0 T.tab.R false]]]).set q (Blk.cells 0 2 true ((rowA T.tab r).set c (spV x)))).length ≤ 1) := by
      simp only [List.length_cons, List.length_set, List.length_append, List.length_nil]; omega
    simp only [h1, if_false, List.take_succ_cons, List.take_zero, List.all_cons, List.all_nil, Bool.and_true]
    have h2 : underB 1 (boxT T) = true := by simp [underB, boxT, underL, TabV.under]
    simp only [h2, if_true]

structure Least (t : Tab) (r c : Nat) (v : Int) : Prop where
  at_ : ∃ s, Fits t s ∧ s r c = v
  all : ∀ s, Fits t s → v ≤ s r c
structure Great (t : Tab) (r c : Nat) (v : Int) : Prop where
  at_ : ∃ s, Fits t s ∧ s r c = v
  all : ∀ s, Fits t s → s r c ≤ v

theorem fits_narrow {t : Tab} (hO : t.Ok) {r c : Nat} (hr : r < t.R) (hc : c < t.C) {x : Spn} (h1 : (t.cell r c).lo ≤ x.lo) (h2 : x.hi ≤ (t.cell r c).hi) (s : Nat → Nat → Int) : Fits (t.setCell r c x) s ↔ Fits t s ∧ x.lo ≤ s r c ∧ s r c ≤ x.hi := by
  have hs := fun i k => setCell_cell hO x hr hc i k
  constructor
  · intro h
    have h0 := h.cell r c hr hc
    rw [hs, if_pos ⟨rfl, rfl⟩] at h0
    refine ⟨⟨fun i k hi hk => ?_, fun i hi => h.row i hi, fun k hk => h.col k hk⟩, h0⟩
    have h3 := h.cell i k hi hk
    rw [hs] at h3
    by_cases h4 : i = r ∧ k = c
    · obtain ⟨rfl, rfl⟩ := h4; omega
    · rwa [if_neg h4] at h3
  · rintro ⟨h, h3⟩
    refine ⟨fun i k hi hk => ?_, fun i hi => h.row i hi, fun k hk => h.col k hk⟩
    rw [hs]
    by_cases h4 : i = r ∧ k = c
    · obtain ⟨rfl, rfl⟩ := h4; rw [if_pos ⟨rfl, rfl⟩]; exact h3
    · rw [if_neg h4]; exact h.cell i k hi hk

theorem can_low {t : Tab} (hO : t.Ok) {r c : Nat} (hr : r < t.R) (hc : c < t.C) {v m : Int} (hv : Least t r c v) (h2 : m ≤ (t.cell r c).hi) : canB (t.setCell r c ⟨(t.cell r c).lo, m⟩) = decide (v ≤ m) := by
  rw [Bool.eq_iff_iff, canB_true, decide_eq_true_eq]
  have hf := fits_narrow hO hr hc (x := ⟨(t.cell r c).lo, m⟩) (Int.le_refl _) h2
  constructor
  · rintro ⟨s, hs⟩
    have := (hf s).1 hs
    have h3 := hv.all s this.1
    have : s r c ≤ m := this.2.2
    omega
  · intro hm
    obtain ⟨s, hs, e⟩ := hv.at_
    have := hs.cell r c hr hc
    exact ⟨s, (hf s).2 ⟨hs, by show (t.cell r c).lo ≤ s r c; omega, by show s r c ≤ m; omega⟩⟩
theorem can_high {t : Tab} (hO : t.Ok) {r c : Nat} (hr : r < t.R) (hc : c < t.C) {v m : Int} (hv : Great t r c v) (h2 : (t.cell r c).lo ≤ m) : canB (t.setCell r c ⟨m, (t.cell r c).hi⟩) = decide (m ≤ v) := by
  rw [Bool.eq_iff_iff, canB_true, decide_eq_true_eq]
  have hf := fits_narrow hO hr hc (x := ⟨m, (t.cell r c).hi⟩) h2 (Int.le_refl _)
  constructor
  · rintro ⟨s, hs⟩
    have := (hf s).1 hs
    have h3 := hv.all s this.1
    have : m ≤ s r c := this.2.1
    omega
  · intro hm
    obtain ⟨s, hs, e⟩ := hv.at_
    have := hs.cell r c hr hc
    exact ⟨s, (hf s).2 ⟨hs, by show m ≤ s r c; omega, by show s r c ≤ (t.cell r c).hi; omega⟩⟩

theorem lc_loop {T : TabV} (hT : T.Wf) (hO : T.tab.Ok) {r c : Nat} (hr : r < T.tab.R) (hc : c < T.tab.C) {v : Int} (hv : Least T.tab r c v) : ∀ (n : Nat) (lo hi : Int) (j0 j4 j5 j6 j9 j10 j11 j12 j13 j14 j15 j16 j17 j18 j19 j20 j21 j22 j23 j24 j25 j26 j27 j28 j29 j30 j31 j32 j33 j34 j35 j36 j37 j38 j39 j40 j41 j42 j43 j44 j45 j46 j47 j48 j49 j50 j51 j52 j53 j54 : AVal), hi - lo < n → (T.tab.cell r c).lo ≤ lo → lo ≤ v → v ≤ hi → hi ≤ (T.tab.cell r c).hi →
    Goes (execT env (Try.f85.at [1, 1, 0, 0]) ⟨[j0, .int .i64 r, .int .i64 c, .ptr 0 0 0 0, j4, j5, j6, .int .i64 lo, .int .i64 hi, j9, j10, j11, j12, j13, j14, j15, j16, j17, j18, j19, j20, j21, j22, j23, j24, j25, j26, j27, j28, j29, j30, j31, j32, j33, j34, j35, j36, j37, j38, j39, j40, j41, j42, j43, j44, j45, j46, j47, j48, j49, j50, j51, j52, j53, j54], [boxT T], [], 0, []⟩) fun ex s =>
      ex = .exit 0 ∧ FrP 55 [(7, .int .i64 v)] [boxT T] [] 0 [] s := by
  have bc := hO.cell_ok hr hc
  have r0 : (0 : Int) ≤ (r : Int) := by omega
  have c0 : (0 : Int) ≤ (c : Int) := by omega
  have dR : decide ((r : Int) < (T.tab.R : Int)) = true := by simp; omega
  have dC : decide ((c : Int) < (T.tab.C : Int)) = true := by simp; omega
  have hrl := rowA_length hO.len hO.wid hr
  have hget := rowA_get hO hr hc
  intro n
  induction n with
  | zero =>
    intro lo hi; intros; rename_i h1 h2 h3 h4 h5
    omega
  | succ n ih =>
    intro lo hi; intros; rename_i h1 h2 h3 h4 h5
    by_cases hlt : lo < hi
    · have hd : decide (lo < hi) = true := decide_eq_true hlt
      have wq0 : (hi - lo).tdiv 2 = (hi - lo) / 2 := Int.tdiv_eq_ediv_of_nonneg (by omega)
      have w1 : IntKind.i64.wrap (hi - lo) = hi - lo := i64_in _ (by omega)
      have w2 : IntKind.i64.wrap ((hi - lo).tdiv 2) = (hi - lo) / 2 := by rw [wq0]; exact i64_in _ (by omega)
      have w3 : IntKind.i64.wrap (lo + (hi - lo) / 2) = lo + (hi - lo) / 2 := i64_in _ (by omega)
      generalize hm : lo + (hi - lo) / 2 = m at w3
      have w4 : IntKind.i64.wrap (m + 1) = m + 1 := i64_in _ (by omega)
      obtain ⟨gc, X, p, acc, k1, k2, k3, k4, k5, k6, k7, k8, k9⟩ := mod_facts hT hO (c := c) hr ⟨(T.tab.cell r c).lo, m⟩ (by simp [Spn.ok]; omega)
      rw [can_low hO hr hc hv (by omega)] at k8
      have gs := fun b : Blk => get_snoc (X := X) rfl b
      have ss := fun b b' : Blk => set_snoc (X := X) rfl b b'
      have ls := fun b : Blk => len_snoc (X := X) rfl b
      have wr : ∀ y : Spn, writeAt (spV y) 1 (.int .i64 m) = some (spV ⟨y.lo, m⟩) := fun _ => rfl
      have scI : ∀ (k : IntKind) (z : Int), scrub 1 (.int k z) = .int k z := fun _ _ => rfl
      have scP : scrub 1 (.ptr 0 0 0 0) = .ptr 0 0 0 0 := rfl
      simp only [boxT] at k1 k2 k3 k5 k7 k8 k9
      cases hq : decide (v ≤ m) with
      | true =>
        rw [hq] at k8
        have hq' := of_decide_eq_true hq
        have ih' := ih lo m
        simp only [go_sem, simprocAttr, Try.f85, boxT] at ih' ⊢
        rw [exec_loop]
        simp only [go_sem, simprocAttr, hd, r0, c0, Int.toNat_natCast, w1, w2, hm, w3, w4, k1, k2, k3, k4, k5, k6, k7, k8, k9, gs, ss, ls, wr, hget, dR, dC, hrl, Nat.zero_le, Nat.lt_add_one, List.length_set, List.map_cons, List.map_nil, scI, scP]
        exact ih' _ _ _ _ _ _ _ _ _ _ _ _ _ _ _ _ _ _ _ _ _ _ _ _ _ _ _ _ _ _ _ _ _ _ _ _ _ _ _ _ _ _ _ _ _ _ _ _ _ _ (by omega) h2 h3 hq' (by omega)
      | false =>
        rw [hq] at k8
        have hq' := of_decide_eq_false hq
        have ih' := ih (m + 1) hi
        simp only [go_sem, simprocAttr, Try.f85, boxT] at ih' ⊢
        rw [exec_loop]
        simp only [go_sem, simprocAttr, hd, r0, c0, Int.toNat_natCast, w1, w2, hm, w3, w4, k1, k2, k3, k4, k5, k6, k7, k8, k9, gs, ss, ls, wr, hget, dR, dC, hrl, Nat.zero_le, Nat.lt_add_one, List.length_set, List.map_cons, List.map_nil, scI, scP]
        exact ih' _ _ _ _ _ _ _ _ _ _ _ _ _ _ _ _ _ _ _ _ _ _ _ _ _ _ _ _ _ _ _ _ _ _ _ _ _ _ _ _ _ _ _ _ _ _ _ _ _ _ (by omega) (by omega) (by omega) h4 h5
    · have hd : decide (lo < hi) = false := decide_eq_false hlt
      have : lo = v := by omega
      subst this
      simp only [go_sem, simprocAttr, Try.f85]
      rw [exec_loop]
      simp only [go_sem, simprocAttr, hd]
      exact frP (by kernel_rfl)

set_option maxRecDepth 10000
set_option maxHeartbeats 4000000

theorem gc_loop {T : TabV} (hT : T.Wf) (hO : T.tab.Ok) {r c : Nat} (hr : r < T.tab.R) (hc : c < T.tab.C) {v : Int} (hv : Great T.tab r c v) : ∀ (n : Nat) (lo hi : Int) (j0 j4 j5 j6 j9 j10 j11 j12 j13 j14 j15 j16 j17 j18 j19 j20 j21 j22 j23 j24 j25 j26 j27 j28 j29 j30 j31 j32 j33 j34 j35 j36 j37 j38 j39 j40 j41 j42 j43 j44 j45 j46 j47 j48 j49 j50 j51 j52 j53 j54 j55 : AVal), hi - lo < n → (T.tab.cell r c).lo ≤ lo → lo ≤ v → v ≤ hi → hi ≤ (T.tab.cell r c).hi →
    Goes (execT env (Try.f86.at [1, 1, 0, 0]) ⟨[j0, .int .i64 r, .int .i64 c, .ptr 0 0 0 0, j4, j5, j6, .int .i64 lo, .int .i64 hi, j9, j10, j11, j12, j13, j14, j15, j16, j17, j18, j19, j20, j21, j22, j23, j24, j25, j26, j27, j28, j29, j30, j31, j32, j33, j34, j35, j36, j37, j38, j39, j40, j41, j42, j43, j44, j45, j46, j47, j48, j49, j50, j51, j52, j53, j54, j55], [boxT T], [], 0, []⟩) fun ex s =>
      ex = .exit 0 ∧ FrP 56 [(7, .int .i64 v)] [boxT T] [] 0 [] s := by
  have bc := hO.cell_ok hr hc
  have r0 : (0 : Int) ≤ (r : Int) := by omega
  have c0 : (0 : Int) ≤ (c : Int) := by omega
  have dR : decide ((r : Int) < (T.tab.R : Int)) = true := by simp; omega
  have dC : decide ((c : Int) < (T.tab.C : Int)) = true := by simp; omega
  have hrl := rowA_length hO.len hO.wid hr
  have hget := rowA_get hO hr hc
  intro n
  induction n with
  | zero =>
    intro lo hi; intros; rename_i h1 h2 h3 h4 h5
    omega
  | succ n ih =>
    intro lo hi; intros; rename_i h1 h2 h3 h4 h5
    by_cases hlt : lo < hi
    · have hd : decide (lo < hi) = true := decide_eq_true hlt
      have wq0 : (hi - lo + 1).tdiv 2 = (hi - lo + 1) / 2 := Int.tdiv_eq_ediv_of_nonneg (by omega)
      have w1 : IntKind.i64.wrap (hi - lo) = hi - lo := i64_in _ (by omega)
      have w0 : IntKind.i64.wrap (hi - lo + 1) = hi - lo + 1 := i64_in _ (by omega)
      have w2 : IntKind.i64.wrap ((hi - lo + 1).tdiv 2) = (hi - lo + 1) / 2 := by rw [wq0]; exact i64_in _ (by omega)
      have w3 : IntKind.i64.wrap (lo + (hi - lo + 1) / 2) = lo + (hi - lo + 1) / 2 := i64_in _ (by omega)
      generalize hm : lo + (hi - lo + 1) / 2 = m at w3
      have w4 : IntKind.i64.wrap (m - 1) = m - 1 := i64_in _ (by omega)
      obtain ⟨gc, X, p, acc, k1, k2, k3, k4, k5, k6, k7, k8, k9⟩ := mod_facts hT hO (c := c) hr ⟨m, (T.tab.cell r c).hi⟩ (by simp [Spn.ok]; omega)
      rw [can_high hO hr hc hv (by omega)] at k8
      have gs := fun b : Blk => get_snoc (X := X) rfl b
      have ss := fun b b' : Blk => set_snoc (X := X) rfl b b'
      have ls := fun b : Blk => len_snoc (X := X) rfl b
      have wr : ∀ y : Spn, writeAt (spV y) 0 (.int .i64 m) = some (spV ⟨m, y.hi⟩) := fun _ => rfl
      have scI : ∀ (k : IntKind) (z : Int), scrub 1 (.int k z) = .int k z := fun _ _ => rfl
      have scP : scrub 1 (.ptr 0 0 0 0) = .ptr 0 0 0 0 := rfl
      simp only [boxT] at k1 k2 k3 k5 k7 k8 k9
      cases hq : decide (m ≤ v) with
      | true =>
        rw [hq] at k8
        have hq' := of_decide_eq_true hq
        have ih' := ih m hi
        simp only [go_sem, simprocAttr, Try.f86, boxT] at ih' ⊢
        rw [exec_loop]
        simp only [go_sem, simprocAttr, hd, r0, c0, Int.toNat_natCast, w0, w1, w2, hm, w3, w4, k1, k2, k3, k4, k5, k6, k7, k8, k9, gs, ss, ls, wr, hget, dR, dC, hrl, Nat.zero_le, Nat.lt_add_one, List.length_set, List.map_cons, List.map_nil, scI, scP]
        exact ih' _ _ _ _ _ _ _ _ _ _ _ _ _ _ _ _ _ _ _ _ _ _ _ _ _ _ _ _ _ _ _ _ _ _ _ _ _ _ _ _ _ _ _ _ _ _ _ _ _ _ _ (by omega) (by omega) hq' h4 h5
      | false =>
        rw [hq] at k8
        have hq' := of_decide_eq_false hq
        have ih' := ih lo (m - 1)
        simp only [go_sem, simprocAttr, Try.f86, boxT] at ih' ⊢
        rw [exec_loop]
        simp only [go_sem, simprocAttr, hd, r0, c0, Int.toNat_natCast, w0, w1, w2, hm, w3, w4, k1, k2, k3, k4, k5, k6, k7, k8, k9, gs, ss, ls, wr, hget, dR, dC, hrl, Nat.zero_le, Nat.lt_add_one, List.length_set, List.map_cons, List.map_nil, scI, scP]
        exact ih' _ _ _ _ _ _ _ _ _ _ _ _ _ _ _ _ _ _ _ _ _ _ _ _ _ _ _ _ _ _ _ _ _ _ _ _ _ _ _ _ _ _ _ _ _ _ _ _ _ _ _ (by omega) h2 h3 (by omega) (by omega)
    · have hd : decide (lo < hi) = false := decide_eq_false hlt
      have : lo = v := by omega
      subst this
      simp only [go_sem, simprocAttr, Try.f86]
      rw [exec_loop]
      simp only [go_sem, simprocAttr, hd]
      exact frP (by kernel_rfl)

theorem Least.range {t : Tab} {r c : Nat} (hr : r < t.R) (hc : c < t.C) {v : Int} (h : Least t r c v) : (t.cell r c).lo ≤ v ∧ v ≤ (t.cell r c).hi := by
  obtain ⟨s, hs, rfl⟩ := h.at_
  exact hs.cell r c hr hc
theorem Great.range {t : Tab} {r c : Nat} (hr : r < t.R) (hc : c < t.C) {v : Int} (h : Great t r c v) : (t.cell r c).lo ≤ v ∧ v ≤ (t.cell r c).hi := by
  obtain ⟨s, hs, rfl⟩ := h.at_
  exact hs.cell r c hr hc

theorem leastCell_call {T : TabV} (hT : T.Wf) (hO : T.tab.Ok) {r c : Nat} (hr : r < T.tab.R) (hc : c < T.tab.C) {v : Int} (hv : Least T.tab r c v) (ro : Nat) (H : Heap) (nx : Nat) : callT env 85 [T.v, .int .i64 r, .int .i64 c] ro H nx = some (.ret (.int .i64 v), .ups []) := by
  have hu : underL 0 [T.v, .int .i64 r, .int .i64 c] = true := by simp [underL, AVal.under, TabV.under]
  have : ∃ H', runT env 85 [T.v, .int .i64 r, .int .i64 c] [] 0 = some (.ret (.int .i64 v), H') := by
    have r0 : (0 : Int) ≤ (r : Int) := by omega
    have c0 : (0 : Int) ≤ (c : Int) := by omega
    obtain ⟨s, _, q1, q2, q3, _, _⟩ := TabV.at hT hO hr hc
    have q3 := eq_true q3
    obtain ⟨v1, v2⟩ := hv.range hr hc
    have bc := hO.cell_ok hr hc
    obtain ⟨ex, st, hx, hp⟩ := lc_loop hT hO hr hc hv (((T.tab.cell r c).hi - (T.tab.cell r c).lo).toNat + 1) (T.tab.cell r c).lo (T.tab.cell r c).hi _ _ _ _ _ _ _ _ _ _ _ _ _ _ _ _ _ _ _ _ _ _ _ _ _ _ _ _ _ _ _ _ _ _ _ _ _ _ _ _ _ _ _ _ _ _ _ _ _ _ (by omega) (Int.le_refl _) v1 v2 (Int.le_refl _)
    obtain ⟨rfl, jp, rfl⟩ := hp
    simp only [go_sem, simprocAttr, Try.f85, boxT] at hx
    rw [run_unfold fn85 rfl]
    simp only [go_sem, simprocAttr, Try.f85, r0, c0, Int.toNat_natCast, q1, q2, q3]
    rw [hx]
    simp only [go_sem, simprocAttr, unwind, modeEx, resultsOf, one]
    exact ⟨_, rfl⟩
  obtain ⟨H', h⟩ := this
  exact call_pure rfl rfl rfl hu h rfl ro H nx

theorem greatestCell_call {T : TabV} (hT : T.Wf) (hO : T.tab.Ok) {r c : Nat} (hr : r < T.tab.R) (hc : c < T.tab.C) {v : Int} (hv : Great T.tab r c v) (ro : Nat) (H : Heap) (nx : Nat) : callT env 86 [T.v, .int .i64 r, .int .i64 c] ro H nx = some (.ret (.int .i64 v), .ups []) := by
  have hu : underL 0 [T.v, .int .i64 r, .int .i64 c] = true := by simp [underL, AVal.under, TabV.under]
  have : ∃ H', runT env 86 [T.v, .int .i64 r, .int .i64 c] [] 0 = some (.ret (.int .i64 v), H') := by
    have r0 : (0 : Int) ≤ (r : Int) := by omega
    have c0 : (0 : Int) ≤ (c : Int) := by omega
    obtain ⟨s, _, q1, q2, q3, _, _⟩ := TabV.at hT hO hr hc
    have q3 := eq_true q3
    obtain ⟨v1, v2⟩ := hv.range hr hc
    have bc := hO.cell_ok hr hc
    obtain ⟨ex, st, hx, hp⟩ := gc_loop hT hO hr hc hv (((T.tab.cell r c).hi - (T.tab.cell r c).lo).toNat + 1) (T.tab.cell r c).lo (T.tab.cell r c).hi _ _ _ _ _ _ _ _ _ _ _ _ _ _ _ _ _ _ _ _ _ _ _ _ _ _ _ _ _ _ _ _ _ _ _ _ _ _ _ _ _ _ _ _ _ _ _ _ _ _ _ (by omega) (Int.le_refl _) v1 v2 (Int.le_refl _)
    obtain ⟨rfl, jp, rfl⟩ := hp
    simp only [go_sem, simprocAttr, Try.f86, boxT] at hx
    rw [run_unfold fn86 rfl]
    simp only [go_sem, simprocAttr, Try.f86, r0, c0, Int.toNat_natCast, q1, q2, q3]
    rw [hx]
    simp only [go_sem, simprocAttr, unwind, modeEx, resultsOf, one]
    exact ⟨_, rfl⟩
  obtain ⟨H', h⟩ := this
  exact call_pure rfl rfl rfl hu h rfl ro H nx

theorem askS_zero {t : Tab} {i k : Int} (h : askS t i k = 0) : t.Ok ∧ canB t = true ∧ outB t i k = false := by
  unfold askS at h
  cases hok : t.ok with
  | false => rw [hok] at h; simp at h
  | true =>
    rw [hok] at h
    cases hcan : canB t with
    | false => rw [hcan] at h; simp at h
    | true =>
      rw [hcan] at h
      cases ho : outB t i k with
      | true => rw [ho] at h; simp at h
      | false => exact ⟨Tab.ok_iff.1 hok, rfl, rfl⟩

theorem ends_cell {t : Tab} {r c : Nat} (hr : r < t.R) (hc : c < t.C) {lo hi : Int} (h : IsEnds t.net [r * t.C + c] lo hi) : Least t r c lo ∧ Great t r c hi := by
  obtain ⟨⟨x, hx, ex⟩, ⟨y, hy, ey⟩, ha⟩ := isEnds_iff.1 h
  rw [brings_cell t _ hr hc] at ex ey
  refine ⟨⟨⟨x, hx, ex⟩, fun s hs => ?_⟩, ⟨⟨y, hy, ey⟩, fun s hs => ?_⟩⟩
  · have := (ha s hs).1; rwa [brings_cell t _ hr hc] at this
  · have := (ha s hs).2; rwa [brings_cell t _ hr hc] at this

theorem rCell_call {T : TabV} (hT : T.Wf) (i k : Int) {v : AVal} (hv : EndsAns T.tab (askS T.tab i k) [i.toNat * T.tab.C + k.toNat] v) (ro : Nat) (H : Heap) (nx : Nat) : callT env 27 [T.v, .int .i64 i, .int .i64 k] ro H nx = some (.ret v, .ups []) := by
  have hu : underL 0 [T.v, .int .i64 i, .int .i64 k] = true := by simp [underL, AVal.under, TabV.under]
  have : ∃ H', runT env 27 [T.v, .int .i64 i, .int .i64 k] [] 0 = some (.ret v, H') := by
    have rc := ready_call hT i k
    rcases hv with ⟨hz, rfl⟩ | ⟨hz, hO, lo, hi, he, rfl⟩
    · have hz' : decide (askS T.tab i k = 0) = false := decide_eq_false hz
      rw [run_unfold fn27 rfl]
      simp only [go_sem, simprocAttr, Try.f27, rc, hz', unwind, modeEx, resultsOf, one]
      exact ⟨_, rfl⟩
    · obtain ⟨_, _, ho⟩ := askS_zero hz
      obtain ⟨r, c, rfl, rfl, hr, hc⟩ := outB_no ho
      rw [Int.toNat_natCast, Int.toNat_natCast] at he
      obtain ⟨e1, e2⟩ := ends_cell hr hc he
      have c1 := leastCell_call hT hO hr hc e1
      have c2 := greatestCell_call hT hO hr hc e2
      rw [hz] at rc
      rw [run_unfold fn27 rfl]
      simp only [go_sem, simprocAttr, Try.f27, rc, c1, c2, unwind, modeEx, resultsOf, one]
      rw [apart_ok]
      · simp only [go_sem, simprocAttr, unwind, modeEx, resultsOf, one]
        exact ⟨_, rfl⟩
      · kernel_rfl
  obtain ⟨H', h⟩ := this
  have hn : noRef v = true := hv.pure.1
  exact call_pure rfl rfl rfl hu h hn ro H nx

set_option maxRecDepth 10000
set_option maxHeartbeats 4000000

def Tab.setRow (t : Tab) (i : Nat) (x : Spn) : Tab := ⟨t.rows.set i x, t.cols, t.cells⟩
theorem setRow_R (t : Tab) (i : Nat) (x : Spn) : (t.setRow i x).R = t.R := List.length_set
theorem setRow_C (t : Tab) (i : Nat) (x : Spn) : (t.setRow i x).C = t.C := rfl

theorem setRow_ok {t : Tab} (hO : t.Ok) {i : Nat} {x : Spn} (hx : x.ok = true) : (t.setRow i x).Ok where
  R1 := by rw [setRow_R]; exact hO.R1
  C1 := hO.C1
  R8 := by rw [setRow_R]; exact hO.R8
  C8 := hO.C8
  len := by rw [setRow_R]; exact hO.len
  row y hy := by
    rcases List.mem_or_eq_of_mem_set hy with h | rfl
    · exact hO.row y h
    · exact hx
  col := hO.col
  wid := hO.wid
  cel := hO.cel

theorem setRow_row {t : Tab} {i : Nat} (x : Spn) (hi : i < t.R) (j : Nat) : (t.setRow i x).row j = if j = i then x else t.row j := by
  unfold Tab.row Tab.setRow
  simp only
  by_cases h : j = i
  · subst h
    rw [if_pos rfl, List.getD_eq_getElem?_getD, List.getElem?_set_self hi]; rfl
  · rw [if_neg h, List.getD_eq_getElem?_getD, List.getElem?_set_ne (Ne.symm h), ← List.getD_eq_getElem?_getD]

theorem TbAt.writeRow {H : Heap} {a b q ga gb g : Nat} {ps : Nat → Nat} {t : Tab} (h : TbAt H a b q ga gb g ps t) (i : Nat) (x : Spn) :
    TbAt (H.set a (.cells ga 2 true ((t.rows.map spV).set i (spV x)))) a b q ga gb g ps (t.setRow i x) := by
  obtain ⟨l1, l2, l3, l4⟩ := h.lt
  have e := setRow_R t i x
  refine ⟨?_, ?_, ?_, fun j hj => ?_, h.ab, h.aq, h.bq, by rw [e]; exact h.pa, by rw [e]; exact h.pp⟩
  · rw [List.getElem?_set_self l1]
    show _ = some (Blk.cells ga 2 true ((t.rows.set i x).map spV))
    rw [List.map_set]
  · rw [List.getElem?_set_ne h.ab]; exact h.cols
  · rw [List.getElem?_set_ne h.aq, e]; exact h.acc
  · rw [e] at hj
    rw [List.getElem?_set_ne (h.pa j hj).1.symm]; exact h.row j hj

structure LeastF (t : Tab) (φ : (Nat → Nat → Int) → Int) (v : Int) : Prop where
  at_ : ∃ s, Fits t s ∧ φ s = v
  all : ∀ s, Fits t s → v ≤ φ s
structure GreatF (t : Tab) (φ : (Nat → Nat → Int) → Int) (v : Int) : Prop where
  at_ : ∃ s, Fits t s ∧ φ s = v
  all : ∀ s, Fits t s → φ s ≤ v
def rowF (t : Tab) (r : Nat) (s : Nat → Nat → Int) : Int := sumN t.C (s r)

theorem fits_row {t : Tab} {r : Nat} (hr : r < t.R) {x : Spn} (h1 : (t.row r).lo ≤ x.lo) (h2 : x.hi ≤ (t.row r).hi) (s : Nat → Nat → Int) : Fits (t.setRow r x) s ↔ Fits t s ∧ x.lo ≤ rowF t r s ∧ rowF t r s ≤ x.hi := by
  have hs := fun i => setRow_row x hr i
  have eR := setRow_R t r x
  constructor
  · intro h
    have h0 := h.row r (by rw [eR]; exact hr)
    rw [hs, if_pos rfl] at h0
    refine ⟨⟨fun i k hi hk => h.cell i k (by rw [eR]; exact hi) hk, fun i hi => ?_, fun k hk => ?_⟩, h0⟩
    · have h3 := h.row i (by rw [eR]; exact hi)
      rw [hs] at h3
      by_cases h4 : i = r
      · subst h4
        rw [if_pos rfl] at h3
        exact ⟨Int.le_trans h1 h3.1, Int.le_trans h3.2 h2⟩
      · rwa [if_neg h4] at h3
    · have h3 := h.col k hk
      rwa [eR] at h3
  · rintro ⟨h, h3⟩
    refine ⟨fun i k hi hk => h.cell i k (by rw [eR] at hi; exact hi) hk, fun i hi => ?_, fun k hk => ?_⟩
    · rw [eR] at hi
      rw [hs]
      by_cases h4 : i = r
      · subst h4; rw [if_pos rfl]; exact h3
      · rw [if_neg h4]; exact h.row i hi
    · rw [eR]; exact h.col k hk

theorem row_low {t : Tab} {r : Nat} (hr : r < t.R) {v m : Int} (hv : LeastF t (rowF t r) v) (h2 : m ≤ (t.row r).hi) : canB (t.setRow r ⟨(t.row r).lo, m⟩) = decide (v ≤ m) := by
  rw [Bool.eq_iff_iff, canB_true, decide_eq_true_eq]
  have hf := fits_row hr (x := ⟨(t.row r).lo, m⟩) (Int.le_refl _) h2
  constructor
  · rintro ⟨s, hs⟩
    have := (hf s).1 hs
    have h3 := hv.all s this.1
    have : rowF t r s ≤ m := this.2.2
    omega
  · intro hm
    obtain ⟨s, hs, e⟩ := hv.at_
    have h3 : (t.row r).lo ≤ rowF t r s := (hs.row r hr).1
    exact ⟨s, (hf s).2 ⟨hs, h3, by show rowF t r s ≤ m; omega⟩⟩
theorem row_high {t : Tab} {r : Nat} (hr : r < t.R) {v m : Int} (hv : GreatF t (rowF t r) v) (h2 : (t.row r).lo ≤ m) : canB (t.setRow r ⟨m, (t.row r).hi⟩) = decide (m ≤ v) := by
  rw [Bool.eq_iff_iff, canB_true, decide_eq_true_eq]
  have hf := fits_row hr (x := ⟨m, (t.row r).hi⟩) h2 (Int.le_refl _)
  constructor
  · rintro ⟨s, hs⟩
    have := (hf s).1 hs
    have h3 := hv.all s this.1
    have : m ≤ rowF t r s := this.2.1
    omega
  · intro hm
    obtain ⟨s, hs, e⟩ := hv.at_
    have h3 : rowF t r s ≤ (t.row r).hi := (hs.row r hr).2
    exact ⟨s, (hf s).2 ⟨hs, by show m ≤ rowF t r s; omega, h3⟩⟩

theorem ends_row {t : Tab} {r : Nat} (hr : r < t.R) {lo hi : Int} (h : IsEnds t.net [t.R * t.C + r] lo hi) : LeastF t (rowF t r) lo ∧ GreatF t (rowF t r) hi := by
  obtain ⟨⟨x, hx, ex⟩, ⟨y, hy, ey⟩, ha⟩ := isEnds_iff.1 h
  rw [brings_row t _ hr] at ex ey
  refine ⟨⟨⟨x, hx, ex⟩, fun s hs => ?_⟩, ⟨⟨y, hy, ey⟩, fun s hs => ?_⟩⟩
  · have := (ha s hs).1; rwa [brings_row t _ hr] at this
  · have := (ha s hs).2; rwa [brings_row t _ hr] at this

theorem rm_facts {T : TabV} (hT : T.Wf) (hO : T.tab.Ok) {r : Nat} (x y1 y2 : Spn) (hx : x.ok = true) :
    ∃ (gc : Nat) (X : Heap), callT env 89 [T.v] 0 [boxT T, .cells 0 2 true [spV y1], .cells 0 2 true [spV y2]] 3 = some (.ret (.agg [.ref 5 1 0 T.tab.R false, .ref 6 1 0 T.tab.C false, .ref 7 gc 0 T.tab.R false]), .ups (numbered 3 X)) ∧
      putU [boxT T, .cells 0 2 true [spV y1], .cells 0 2 true [spV y2]] (numbered 3 X) = boxT T :: Blk.cells 0 2 true [spV y1] :: Blk.cells 0 2 true [spV y2] :: X ∧
      (∀ M, (X ++ [M])[2]? = some (.cells 1 2 true (T.tab.rows.map spV))) ∧ (2 < X.length) ∧
      callT env 75 [.agg [.ref 5 1 0 T.tab.R false, .ref 6 1 0 T.tab.C false, .ref 7 gc 0 T.tab.R false]] 0 (boxT T :: Blk.cells 0 2 true [spV y1] :: Blk.cells 0 2 true [spV y2] :: (X ++ [Blk.cells 0 3 false [.agg [.ref 5 1 0 T.tab.R false, .ref 6 1 0 T.tab.C false, .ref 7 gc 0 T.tab.R false]]]).set 2 (.cells 1 2 true ((T.tab.rows.map spV).set r (spV x)))) (X.length + 1 + 1 + 1 + 1) = some (.ret (.bool (canB (T.tab.setRow r x))), .ups []) ∧
      ∀ Z Tm ro V, Z.length = X.length + 1 → trunc 3 ⟨Tm, boxT T :: Blk.cells 0 2 true [spV y1] :: Blk.cells 0 2 true [spV y2] :: Z, [], ro, V⟩ = ⟨Tm.map (scrub 3), [boxT T, .cells 0 2 true [spV y1], .cells 0 2 true [spV y2]], [], ro, V⟩ := by
  obtain ⟨gc, cl⟩ := copied_call hT hO
  have cl := cl 0 [boxT T, .cells 0 2 true [spV y1], .cells 0 2 true [spV y2]] 3
  have at0 := copied_at hO [boxT T, .cells 0 2 true [spV y1], .cells 0 2 true [spV y2]] gc
  have hpu := putU_end (cpX T 3 gc) [boxT T, .cells 0 2 true [spV y1], .cells 0 2 true [spV y2]]
  have H1 : ([boxT T, .cells 0 2 true [spV y1], .cells 0 2 true [spV y2]] : Heap).length = 3 := rfl
  rw [H1] at at0 hpu
  generalize hX : cpX T 3 gc = X at cl at0 hpu
  have at1 := at0.more [.cells 0 3 false [memT T.tab (3 + 2) (3 + 3) (3 + 4) 1 1 gc]]
  have at2 := at1.writeRow r x
  have hO2 : (T.tab.setRow r x).Ok := setRow_ok hO hx
  have hcan := Can_run (canon_wf hO2.R8 hO2.C8 hO2.len hO2.wid) (by rw [canon_tab]; exact hO2)
  rw [canon_tab] at hcan
  obtain ⟨Hm, mr⟩ := hcan
  obtain ⟨ids, hle⟩ := at2.lend (lits := [0]) hO2.R8 hO2.len hO2.wid rfl (args := []) rfl
  obtain ⟨us, mc, hus⟩ := call_lent (f := 75) rfl rfl rfl rfl hle tv_pure mr (handBack_noRef _ _ _ _ _ rfl) rfl (X.length + 1 + 1 + 1 + 1)
  have hus := hus rfl
  subst hus
  have hl : 2 < X.length := by
    have := at0.lt.1
    rw [List.length_append, H1] at this; omega
  have hrow := at0.rows
  refine ⟨gc, X, cl, hpu, fun M => ?_, hl, ?_, fun Z Tm ro V hZ => ?_⟩
  · rw [List.getElem?_append_left hl]; exact hrow
  · simp only [memT, setRow_R, setRow_C, List.cons_append, List.nil_append, Nat.reduceAdd, List.set_cons_succ] at mc
    exact mc
  · unfold trunc
    have h1 : ¬ ((boxT T :: Blk.cells 0 2 true [spV y1] :: Blk.cells 0 2 true [spV y2] :: Z).length ≤ 3) := by
      simp only [List.length_cons]; omega
    simp only [h1, if_false, List.take_succ_cons, List.take_zero, List.all_cons, List.all_nil, Bool.and_true]
    have h2 : underB 3 (boxT T) = true := by simp [underB, boxT, underL, TabV.under]
    have h3 : ∀ y, underB 3 (.cells 0 2 true [spV y]) = true := fun y => by simp [underB, underL]
    simp only [h2, h3, Bool.and_self, if_true]

theorem rlo_loop {T : TabV} (hT : T.Wf) (hO : T.tab.Ok) {r : Nat} (hr : r < T.tab.R) {v : Int} (hv : LeastF T.tab (rowF T.tab r) v) : ∀ (n : Nat) (lo hi : Int) (j0 j3 j5 j6 j10 j11 j12 j13 j14 j15 j16 j17 j18 j19 j20 j21 j22 j23 j24 j25 j26 j27 j28 j29 j30 j31 j32 j33 j34 j35 j36 j37 j38 j39 j40 j41 j42 j43 j44 j45 j46 j47 j48 j49 j50 j51 j52 j53 j54 j55 j56 j57 j58 j59 j60 j61 j62 j63 j64 j65 j66 j67 j68 j69 j70 j71 j72 j73 j74 j75 j76 j77 j78 j79 j80 j81 j82 j83 j84 j85 j86 j87 : AVal), hi - lo < n → (T.tab.row r).lo ≤ lo → lo ≤ v → v ≤ hi → hi ≤ (T.tab.row r).hi →
    Goes (execT env (Try.f29.at [1, 1, 1, 1, 0, 0]) ⟨[j0, .int .i64 r, .ptr 0 0 0 0, j3, .ptr 1 0 0 0, j5, j6, .ptr 2 0 0 0, .int .i64 lo, .int .i64 hi, j10, j11, j12, j13, j14, j15, j16, j17, j18, j19, j20, j21, j22, j23, j24, j25, j26, j27, j28, j29, j30, j31, j32, j33, j34, j35, j36, j37, j38, j39, j40, j41, j42, j43, j44, j45, j46, j47, j48, j49, j50, j51, j52, j53, j54, j55, j56, j57, j58, j59, j60, j61, j62, j63, j64, j65, j66, j67, j68, j69, j70, j71, j72, j73, j74, j75, j76, j77, j78, j79, j80, j81, j82, j83, j84, j85, j86, j87], [boxT T, .cells 0 2 true [spV ⟨0, 0⟩], .cells 0 2 true [spV (T.tab.row r)]], [], 0, []⟩) fun ex s =>
      ex = .exit 0 ∧ FrP 88 [(1, .int .i64 r), (2, .ptr 0 0 0 0), (4, .ptr 1 0 0 0), (7, .ptr 2 0 0 0), (8, .int .i64 v)] ([boxT T, .cells 0 2 true [spV ⟨0, 0⟩], .cells 0 2 true [spV (T.tab.row r)]]) [] 0 [] s := by
  have bc := hO.row_ok hr
  have r0 : (0 : Int) ≤ (r : Int) := by omega
  have dR : decide ((r : Int) < (T.tab.R : Int)) = true := by simp; omega
  obtain ⟨hget, _⟩ := TabV.rowAt hT hr
  have hget' : (T.tab.rows.map spV)[r]? = some (spV (T.tab.row r)) := hget
  have hrl : (T.tab.rows.map spV).length = T.tab.R := by simp [Tab.R]
  intro n
  induction n with
  | zero =>
    intro lo hi; intros; rename_i h1 h2 h3 h4 h5
    omega
  | succ n ih =>
    intro lo hi; intros; rename_i h1 h2 h3 h4 h5
    by_cases hlt : lo < hi
    · have hd : decide (lo < hi) = true := decide_eq_true hlt
      have wq0 : (hi - lo).tdiv 2 = (hi - lo) / 2 := Int.tdiv_eq_ediv_of_nonneg (by omega)
      have w1 : IntKind.i64.wrap (hi - lo) = hi - lo := i64_in _ (by omega)
      have w2 : IntKind.i64.wrap ((hi - lo).tdiv 2) = (hi - lo) / 2 := by rw [wq0]; exact i64_in _ (by omega)
      have w3 : IntKind.i64.wrap (lo + (hi - lo) / 2) = lo + (hi - lo) / 2 := i64_in _ (by omega)
      generalize hm : lo + (hi - lo) / 2 = m at w3
      have w4 : IntKind.i64.wrap (m + 1) = m + 1 := i64_in _ (by omega)
      obtain ⟨gc, X, k1, k2, k3, k4, k5, k6⟩ := rm_facts hT hO (r := r) ⟨(T.tab.row r).lo, m⟩ ⟨0, 0⟩ (T.tab.row r) (by simp [Spn.ok]; omega)
      rw [row_low hr hv (by omega)] at k5
      have gs := fun b : Blk => get_snoc (X := X) rfl b
      have ss := fun b b' : Blk => set_snoc (X := X) rfl b b'
      have ls := fun b : Blk => len_snoc (X := X) rfl b
      have hs : ∀ b b' : Blk, ((X ++ [b]).set 2 b')[X.length]? = some b := fun b b' => by rw [List.getElem?_set_ne (by omega)]; exact get_snoc rfl b
      have wr : ∀ y : Spn, writeAt (spV y) 0 (.agg [.int .i64 (T.tab.row r).lo, .int .i64 m]) = some (spV ⟨(T.tab.row r).lo, m⟩) := fun _ => rfl
      have scI : ∀ (k : IntKind) (z : Int), scrub 3 (.int k z) = .int k z := fun _ _ => rfl
      have scP : ∀ p o, p < 3 → scrub 3 (.ptr p 0 0 o) = .ptr p 0 0 o := fun p o h => by simp [scrub, AVal.under, h]
      have sc0 := scP 0 0 (by omega)
      have sc1 := scP 1 0 (by omega)
      have sc2 := scP 2 0 (by omega)
      have z1 : (5 < X.length + 1 + 1 + 1 + 1) = True := eq_true (by omega)
      have z2 : decide (2 < X.length + 1) = true := decide_eq_true (by omega)
      have k6' := fun b b' Tm ro V => k6 ((X ++ [b]).set 2 b') Tm ro V (by simp)
      simp only [boxT] at k1 k2 k5 k6'
      cases hq : decide (v ≤ m) with
      | true =>
        rw [hq] at k5
        have hq' := of_decide_eq_true hq
        have ih' := ih lo m
        simp only [go_sem, simprocAttr, Try.f29, boxT] at ih' ⊢
        rw [exec_loop]
        simp only [go_sem, simprocAttr, hd, r0, Int.toNat_natCast, w1, w2, hm, w3, w4, k1, k2, k3, k5, k6', gs, ss, ls, hs, wr, hget', dR, hrl, z1, z2, Nat.zero_le, Nat.lt_add_one, List.length_set, List.map_cons, List.map_nil, scI, sc0, sc1, sc2]
        exact ih' _ _ _ _ _ _ _ _ _ _ _ _ _ _ _ _ _ _ _ _ _ _ _ _ _ _ _ _ _ _ _ _ _ _ _ _ _ _ _ _ _ _ _ _ _ _ _ _ _ _ _ _ _ _ _ _ _ _ _ _ _ _ _ _ _ _ _ _ _ _ _ _ _ _ _ _ _ _ _ _ _ _ (by omega) h2 h3 hq' (by omega)
      | false =>
        rw [hq] at k5
        have hq' := of_decide_eq_false hq
        have ih' := ih (m + 1) hi
        simp only [go_sem, simprocAttr, Try.f29, boxT] at ih' ⊢
        rw [exec_loop]
        simp only [go_sem, simprocAttr, hd, r0, Int.toNat_natCast, w1, w2, hm, w3, w4, k1, k2, k3, k5, k6', gs, ss, ls, hs, wr, hget', dR, hrl, z1, z2, Nat.zero_le, Nat.lt_add_one, List.length_set, List.map_cons, List.map_nil, scI, sc0, sc1, sc2]
        exact ih' _ _ _ _ _ _ _ _ _ _ _ _ _ _ _ _ _ _ _ _ _ _ _ _ _ _ _ _ _ _ _ _ _ _ _ _ _ _ _ _ _ _ _ _ _ _ _ _ _ _ _ _ _ _ _ _ _ _ _ _ _ _ _ _ _ _ _ _ _ _ _ _ _ _ _ _ _ _ _ _ _ _ (by omega) (by omega) (by omega) h4 h5
    · have hd : decide (lo < hi) = false := decide_eq_false hlt
      have : lo = v := by omega
      subst this
      simp only [go_sem, simprocAttr, Try.f29]
      rw [exec_loop]
      simp only [go_sem, simprocAttr, hd]
      exact frP (by kernel_rfl)

set_option maxRecDepth 10000
set_option maxHeartbeats 4000000

theorem rhi_loop {T : TabV} (hT : T.Wf) (hO : T.tab.Ok) {r : Nat} (hr : r < T.tab.R) {v : Int} (hv : GreatF T.tab (rowF T.tab r) v) (z : Int) : ∀ (n : Nat) (lo hi : Int) (j0 j3 j5 j6 j10 j11 j13 j14 j15 j16 j17 j18 j19 j20 j21 j22 j23 j24 j25 j26 j27 j28 j29 j30 j31 j32 j33 j34 j35 j36 j37 j38 j39 j40 j41 j42 j43 j44 j45 j46 j47 j48 j49 j50 j51 j52 j53 j54 j55 j56 j57 j58 j59 j60 j61 j62 j63 j64 j65 j66 j67 j68 j69 j70 j71 j72 j73 j74 j75 j76 j77 j78 j79 j80 j81 j82 j83 j84 j85 j86 j87 : AVal), hi - lo < n → (T.tab.row r).lo ≤ lo → lo ≤ v → v ≤ hi → hi ≤ (T.tab.row r).hi →
    Goes (execT env (Try.f29.at [1, 1, 1, 1, 1, 1, 1, 0, 0]) ⟨[j0, .int .i64 r, .ptr 0 0 0 0, j3, .ptr 1 0 0 0, j5, j6, .ptr 2 0 0 0, .int .i64 lo, .int .i64 hi, j10, j11, .int .i64 z, j13, j14, j15, j16, j17, j18, j19, j20, j21, j22, j23, j24, j25, j26, j27, j28, j29, j30, j31, j32, j33, j34, j35, j36, j37, j38, j39, j40, j41, j42, j43, j44, j45, j46, j47, j48, j49, j50, j51, j52, j53, j54, j55, j56, j57, j58, j59, j60, j61, j62, j63, j64, j65, j66, j67, j68, j69, j70, j71, j72, j73, j74, j75, j76, j77, j78, j79, j80, j81, j82, j83, j84, j85, j86, j87], [boxT T, .cells 0 2 true [spV ⟨0, 0⟩], .cells 0 2 true [spV (T.tab.row r)]], [], 0, []⟩) fun ex s =>
      ex = .exit 2 ∧ FrP 88 [(4, .ptr 1 0 0 0), (8, .int .i64 v), (12, .int .i64 z)] ([boxT T, .cells 0 2 true [spV ⟨0, 0⟩], .cells 0 2 true [spV (T.tab.row r)]]) [] 0 [] s := by
  have bc := hO.row_ok hr
  have r0 : (0 : Int) ≤ (r : Int) := by omega
  have dR : decide ((r : Int) < (T.tab.R : Int)) = true := by simp; omega
  obtain ⟨hget, _⟩ := TabV.rowAt hT hr
  have hget' : (T.tab.rows.map spV)[r]? = some (spV (T.tab.row r)) := hget
  have hrl : (T.tab.rows.map spV).length = T.tab.R := by simp [Tab.R]
  intro n
  induction n with
  | zero =>
    intro lo hi; intros; rename_i h1 h2 h3 h4 h5
    omega
  | succ n ih =>
    intro lo hi; intros; rename_i h1 h2 h3 h4 h5
    by_cases hlt : lo < hi
    · have hd : decide (lo < hi) = true := decide_eq_true hlt
      have wq0 : (hi - lo + 1).tdiv 2 = (hi - lo + 1) / 2 := Int.tdiv_eq_ediv_of_nonneg (by omega)
      have w1 : IntKind.i64.wrap (hi - lo) = hi - lo := i64_in _ (by omega)
      have w0 : IntKind.i64.wrap (hi - lo + 1) = hi - lo + 1 := i64_in _ (by omega)
      have w2 : IntKind.i64.wrap ((hi - lo + 1).tdiv 2) = (hi - lo + 1) / 2 := by rw [wq0]; exact i64_in _ (by omega)
      have w3 : IntKind.i64.wrap (lo + (hi - lo + 1) / 2) = lo + (hi - lo + 1) / 2 := i64_in _ (by omega)
      generalize hm : lo + (hi - lo + 1) / 2 = m at w3
      have w4 : IntKind.i64.wrap (m - 1) = m - 1 := i64_in _ (by omega)
      obtain ⟨gc, X, k1, k2, k3, k4, k5, k6⟩ := rm_facts hT hO (r := r) ⟨m, (T.tab.row r).hi⟩ ⟨0, 0⟩ (T.tab.row r) (by simp [Spn.ok]; omega)
      rw [row_high hr hv (by omega)] at k5
      have gs := fun b : Blk => get_snoc (X := X) rfl b
      have ss := fun b b' : Blk => set_snoc (X := X) rfl b b'
      have ls := fun b : Blk => len_snoc (X := X) rfl b
      have hs : ∀ b b' : Blk, ((X ++ [b]).set 2 b')[X.length]? = some b := fun b b' => by rw [List.getElem?_set_ne (by omega)]; exact get_snoc rfl b
      have wr : ∀ y : Spn, writeAt (spV y) 0 (.agg [.int .i64 m, .int .i64 (T.tab.row r).hi]) = some (spV ⟨m, (T.tab.row r).hi⟩) := fun _ => rfl
      have scI : ∀ (k : IntKind) (z : Int), scrub 3 (.int k z) = .int k z := fun _ _ => rfl
      have scP : ∀ p o, p < 3 → scrub 3 (.ptr p 0 0 o) = .ptr p 0 0 o := fun p o h => by simp [scrub, AVal.under, h]
      have sc0 := scP 0 0 (by omega)
      have sc1 := scP 1 0 (by omega)
      have sc2 := scP 2 0 (by omega)
      have z1 : (5 < X.length + 1 + 1 + 1 + 1) = True := eq_true (by omega)
      have z2 : decide (2 < X.length + 1) = true := decide_eq_true (by omega)
      have k6' := fun b b' Tm ro V => k6 ((X ++ [b]).set 2 b') Tm ro V (by simp)
      simp only [boxT] at k1 k2 k5 k6'
      cases hq : decide (m ≤ v) with
      | true =>
        rw [hq] at k5
        have hq' := of_decide_eq_true hq
        have ih' := ih m hi
        simp only [go_sem, simprocAttr, Try.f29, boxT] at ih' ⊢
        rw [exec_loop]
        simp only [go_sem, simprocAttr, hd, r0, Int.toNat_natCast, w0, w1, w2, hm, w3, w4, k1, k2, k3, k5, k6', gs, ss, ls, hs, wr, hget', dR, hrl, z1, z2, Nat.zero_le, Nat.lt_add_one, List.length_set, List.map_cons, List.map_nil, scI, sc0, sc1, sc2]
        exact ih' _ _ _ _ _ _ _ _ _ _ _ _ _ _ _ _ _ _ _ _ _ _ _ _ _ _ _ _ _ _ _ _ _ _ _ _ _ _ _ _ _ _ _ _ _ _ _ _ _ _ _ _ _ _ _ _ _ _ _ _ _ _ _ _ _ _ _ _ _ _ _ _ _ _ _ _ _ _ _ _ _ (by omega) (by omega) hq' h4 h5
      | false =>
        rw [hq] at k5
        have hq' := of_decide_eq_false hq
        have ih' := ih lo (m - 1)
        simp only [go_sem, simprocAttr, Try.f29, boxT] at ih' ⊢
        rw [exec_loop]
        simp only [go_sem, simprocAttr, hd, r0, Int.toNat_natCast, w0, w1, w2, hm, w3, w4, k1, k2, k3, k5, k6', gs, ss, ls, hs, wr, hget', dR, hrl, z1, z2, Nat.zero_le, Nat.lt_add_one, List.length_set, List.map_cons, List.map_nil, scI, sc0, sc1, sc2]
        exact ih' _ _ _ _ _ _ _ _ _ _ _ _ _ _ _ _ _ _ _ _ _ _ _ _ _ _ _ _ _ _ _ _ _ _ _ _ _ _ _ _ _ _ _ _ _ _ _ _ _ _ _ _ _ _ _ _ _ _ _ _ _ _ _ _ _ _ _ _ _ _ _ _ _ _ _ _ _ _ _ _ _ (by omega) h2 h3 (by omega) (by omega)
    · have hd : decide (lo < hi) = false := decide_eq_false hlt
      have : lo = v := by omega
      subst this
      simp only [go_sem, simprocAttr, Try.f29]
      rw [exec_loop]
      simp only [go_sem, simprocAttr, hd]
      exact frP (by kernel_rfl)

theorem LeastF.range {t : Tab} {r : Nat} (hr : r < t.R) {v : Int} (h : LeastF t (rowF t r) v) : (t.row r).lo ≤ v ∧ v ≤ (t.row r).hi := by
  obtain ⟨s, hs, rfl⟩ := h.at_
  exact hs.row r hr
theorem GreatF.range {t : Tab} {r : Nat} (hr : r < t.R) {v : Int} (h : GreatF t (rowF t r) v) : (t.row r).lo ≤ v ∧ v ≤ (t.row r).hi := by
  obtain ⟨s, hs, rfl⟩ := h.at_
  exact hs.row r hr

theorem rRow_call {T : TabV} (hT : T.Wf) (i : Int) {v : AVal} (hv : EndsAns T.tab (askS T.tab i 0) [T.tab.R * T.tab.C + i.toNat] v) (ro : Nat) (H : Heap) (nx : Nat) : callT env 29 [T.v, .int .i64 i] ro H nx = some (.ret v, .ups []) := by
  have hu : underL 0 [T.v, .int .i64 i] = true := by simp [underL, AVal.under, TabV.under]
  have : ∃ H', runT env 29 [T.v, .int .i64 i] [] 0 = some (.ret v, H') := by
    have rc := ready_call hT i 0
    rcases hv with ⟨hz, rfl⟩ | ⟨hz, hO, lo, hi, he, rfl⟩
    · have hz' : decide (askS T.tab i 0 = 0) = false := decide_eq_false hz
      rw [run_unfold fn29 rfl]
      simp only [go_sem, simprocAttr, Try.f29, rc, hz', unwind, modeEx, resultsOf, one]
      exact ⟨_, rfl⟩
    · obtain ⟨_, _, ho⟩ := askS_zero hz
      obtain ⟨r, c, rfl, _, hr, _⟩ := outB_no ho
      rw [Int.toNat_natCast] at he
      obtain ⟨e1, e2⟩ := ends_row hr he
      obtain ⟨v1, v2⟩ := e1.range hr
      obtain ⟨v3, v4⟩ := e2.range hr
      have r0 : (0 : Int) ≤ (r : Int) := by omega
      obtain ⟨q1, q2⟩ := TabV.rowAt hT hr
      have q2 := eq_true q2
      have hget : (T.rows.l.map spV)[r]? = some (spV (T.tab.row r)) := q1
      have bc := hO.row_ok hr
      obtain ⟨ex, st, hx, hp⟩ := rlo_loop hT hO hr e1 (((T.tab.row r).hi - (T.tab.row r).lo).toNat + 1) (T.tab.row r).lo (T.tab.row r).hi _ _ _ _ _ _ _ _ _ _ _ _ _ _ _ _ _ _ _ _ _ _ _ _ _ _ _ _ _ _ _ _ _ _ _ _ _ _ _ _ _ _ _ _ _ _ _ _ _ _ _ _ _ _ _ _ _ _ _ _ _ _ _ _ _ _ _ _ _ _ _ _ _ _ _ _ _ _ _ _ _ _ (by omega) (Int.le_refl _) v1 v2 (Int.le_refl _)
      obtain ⟨rfl, jp, rfl⟩ := hp
      obtain ⟨ex2, st2, hx2, hp2⟩ := rhi_loop hT hO hr e2 lo (((T.tab.row r).hi - (T.tab.row r).lo).toNat + 1) (T.tab.row r).lo (T.tab.row r).hi _ _ _ _ _ _ _ _ _ _ _ _ _ _ _ _ _ _ _ _ _ _ _ _ _ _ _ _ _ _ _ _ _ _ _ _ _ _ _ _ _ _ _ _ _ _ _ _ _ _ _ _ _ _ _ _ _ _ _ _ _ _ _ _ _ _ _ _ _ _ _ _ _ _ _ _ _ _ _ _ _ (by omega) (Int.le_refl _) v3 v4 (Int.le_refl _)
      obtain ⟨rfl, jq, rfl⟩ := hp2
      have hsp : spV ⟨0, 0⟩ = .agg [.int .i64 0, .int .i64 0] := rfl
      rw [hz] at rc
      simp only [go_sem, simprocAttr, Try.f29, boxT, hsp] at hx hx2
      rw [run_unfold fn29 rfl]
      simp only [go_sem, simprocAttr, Try.f29, rc, r0, Int.toNat_natCast, hget, q2]
      rw [hx]
      simp only [go_sem, simprocAttr]
      rw [hx2]
      simp only [go_sem, simprocAttr, unwind, modeEx, resultsOf, one]
      exact ⟨_, rfl⟩
  obtain ⟨H', h⟩ := this
  have hn : noRef v = true := hv.pure.1
  exact call_pure rfl rfl rfl hu h hn ro H nx

set_option maxRecDepth 10000
set_option maxHeartbeats 4000000

theorem turn_cell {t : Tab} {i k : Nat} (hi : i < t.R) (hk : k < t.C) : t.turn.cell k i = t.cell i k := by
  show (((List.range t.C).map fun k => colL t k t.R).getD k []).getD i ⟨0, 0⟩ = _
  have h1 : ((List.range t.C).map fun k => colL t k t.R).getD k [] = colL t k t.R := by
    rw [List.getD_eq_getElem?_getD, List.getElem?_map, List.getElem?_range hk]; rfl
  rw [h1]
  unfold colL
  rw [List.getD_eq_getElem?_getD, List.getElem?_map, List.getElem?_range hi]; rfl
theorem turn_ok {t : Tab} (hO : t.Ok) : t.turn.Ok where
  R1 := hO.C1
  C1 := hO.R1
  R8 := hO.C8
  C8 := hO.R8
  len := by show ((List.range t.C).map _).length = t.C; simp
  row := hO.col
  col := hO.row
  wid l hl := by
    obtain ⟨k, _, rfl⟩ := List.mem_map.1 hl
    exact colL_length _ _ _
  cel l hl y hy := by
    obtain ⟨k, hk, rfl⟩ := List.mem_map.1 hl
    obtain ⟨i, hi, rfl⟩ := List.mem_map.1 hy
    rw [List.mem_range] at hk hi
    have h := hO.cell_ok hi hk
    simp [Spn.ok]; omega
theorem fits_turn {t : Tab} (s : Nat → Nat → Int) : Fits t.turn s ↔ Fits t fun i k => s k i := by
  constructor
  · intro h
    refine ⟨fun i k hi hk => ?_, fun i hi => h.col i hi, fun k hk => h.row k hk⟩
    have := h.cell k i hk hi
    rwa [turn_cell hi hk] at this
  · intro h
    refine ⟨fun k i hk hi => ?_, fun k hk => h.col k hk, fun i hi => h.row i hi⟩
    rw [turn_cell hi hk]
    exact h.cell i k hi hk
theorem can_turn (t : Tab) : canB t.turn = canB t := by
  rw [Bool.eq_iff_iff, canB_true, canB_true]
  exact ⟨fun ⟨s, hs⟩ => ⟨_, (fits_turn s).1 hs⟩, fun ⟨s, hs⟩ => ⟨fun k i => s i k, (fits_turn _).2 hs⟩⟩
theorem ask_turn {t : Tab} (hO : t.Ok) (i k : Int) : askS t.turn k i = askS t i k := by
  have e : outB t.turn k i = outB t i k := by
    show (decide (k < 0) || (decide ((t.C : Int) ≤ k) || (decide (i < 0) || decide ((t.R : Int) ≤ i)))) = (decide (i < 0) || (decide ((t.R : Int) ≤ i) || (decide (k < 0) || decide ((t.C : Int) ≤ k))))
    cases decide (k < 0) <;> cases decide ((t.C : Int) ≤ k) <;> cases decide (i < 0) <;> cases decide ((t.R : Int) ≤ i) <;> rfl
  unfold askS
  rw [Tab.ok_iff.2 hO, Tab.ok_iff.2 (turn_ok hO), can_turn, e]

theorem ends_turn_col {t : Tab} {k : Nat} (hk : k < t.C) {lo hi : Int} (h : IsEnds t.net [t.R * t.C + t.R + k] lo hi) : IsEnds t.turn.net [t.turn.R * t.turn.C + k] lo hi := by
  obtain ⟨⟨x, hx, ex⟩, ⟨y, hy, ey⟩, ha⟩ := isEnds_iff.1 h
  rw [brings_col t _ hk] at ex ey
  refine isEnds_iff.2 ⟨⟨fun k i => x i k, (fits_turn _).2 hx, ?_⟩, ⟨fun k i => y i k, (fits_turn _).2 hy, ?_⟩, fun s hs => ?_⟩
  · rw [brings_row t.turn _ (show k < t.turn.R from hk)]; exact ex
  · rw [brings_row t.turn _ (show k < t.turn.R from hk)]; exact ey
  · have := ha _ ((fits_turn s).1 hs)
    rw [brings_col t _ hk] at this
    rw [brings_row t.turn _ (show k < t.turn.R from hk)]; exact this

theorem rCol_call {T : TabV} (hT : T.Wf) (i : Int) {v : AVal} (hv : EndsAns T.tab (askS T.tab 0 i) [T.tab.R * T.tab.C + T.tab.R + i.toNat] v) (ro : Nat) (H : Heap) (nx : Nat) : callT env 31 [T.v, .int .i64 i] ro H nx = some (.ret v, .ups []) := by
  have hu : underL 0 [T.v, .int .i64 i] = true := by simp [underL, AVal.under, TabV.under]
  have : ∃ H', runT env 31 [T.v, .int .i64 i] [] 0 = some (.ret v, H') := by
    have rc := ready_call hT 0 i
    rcases hv with ⟨hz, rfl⟩ | ⟨hz, hO, lo, hi, he, rfl⟩
    · have hz' : decide (askS T.tab 0 i = 0) = false := decide_eq_false hz
      rw [run_unfold fn31 rfl]
      simp only [go_sem, simprocAttr, Try.f31, rc, hz', unwind, modeEx, resultsOf, one]
      exact ⟨_, rfl⟩
    · obtain ⟨_, _, ho⟩ := askS_zero hz
      obtain ⟨r, c, _, rfl, _, hc⟩ := outB_no ho
      rw [Int.toNat_natCast] at he
      have hO2 := turn_ok hO
      have hW := canon_wf hO2.R8 hO2.C8 hO2.len hO2.wid
      have hz2 : askS T.tab.turn c 0 = 0 := by rw [ask_turn hO]; exact hz
      have rr := rRow_call hW c (v := .tuple [.agg [.int .i64 lo, .int .i64 hi], .int .i64 0]) (by
        rw [canon_tab]
        exact .inr ⟨hz2, hO2, lo, hi, by rw [Int.toNat_natCast]; exact ends_turn_col hc he, rfl⟩)
      have tc := turned_call hT hO
      rw [hz] at rc
      rw [run_unfold fn31 rfl]
      simp only [go_sem, simprocAttr, Try.f31, rc, tc, rr, unwind, modeEx, resultsOf, one]
      exact ⟨_, rfl⟩
  obtain ⟨H', h⟩ := this
  have hn : noRef v = true := hv.pure.1
  exact call_pure rfl rfl rfl hu h hn ro H nx

theorem bounds_law (a0 a1 a2 : List AVal) (h0 : FitT env 8 25 a0) (h1 : FitT env 8 3 a1) (h2 : FitT env 8 3 a2) : ∃ H', runT env 4 [pack ⟨.struct [(22, 0), (22, 1), (23, 2)], 3, 72, .agg [.lit true 0 [], .lit true 0 [], .lit true 0 []]⟩ a0, pack ⟨.int .i64, 1, 8, .int .i64 (0)⟩ a1, pack ⟨.int .i64, 1, 8, .int .i64 (0)⟩ a2] [] 0 = some (.ret (.bool true), H') := by
  obtain ⟨T, hT, e0⟩ := fit_tab (m := 3) h0
  obtain ⟨i, rfl, _⟩ := fit_int ti3 h1
  obtain ⟨k, rfl, _⟩ := fit_int ti3 h2
  show ∃ H', runT env 4 [.agg a0, .int .i64 i, .int .i64 k] [] 0 = some (.ret (.bool true), H')
  rw [e0]
  have sc := small_call T
  obtain ⟨v1, w1, p1⟩ := cellE_call hT i k
  obtain ⟨v2, w2, p2⟩ := rowE_call hT i
  obtain ⟨v3, w3, p3⟩ := colE_call hT k
  have r1 := rCell_call hT i k w1
  have r2 := rRow_call hT i w2
  have r3 := rCol_call hT k w3
  have key : ∀ {t : Tab} {code : Int} {l : List Nat} {v : AVal}, EndsAns t code l v → ∃ (x : Spn) (c : Int), v = .tuple [spV x, .int .i64 c] := by
    rintro t code l v (⟨_, rfl⟩ | ⟨_, _, lo, hi, _, rfl⟩)
    · exact ⟨⟨0, 0⟩, _, rfl⟩
    · exact ⟨⟨lo, hi⟩, _, rfl⟩
  obtain ⟨x1, c1, rfl⟩ := key w1
  obtain ⟨x2, c2, rfl⟩ := key w2
  obtain ⟨x3, c3, rfl⟩ := key w3
  have dd : ∀ n : Int, decide (n = n) = true := fun n => decide_eq_true rfl
  rw [run_unfold fn4 rfl]
  cases hs : smallB T.tab with
  | false =>
    simp only [go_sem, simprocAttr, Try.f4, sc, hs, unwind, modeEx, resultsOf, one]
    exact ⟨_, rfl⟩
  | true =>
    simp only [go_sem, simprocAttr, Try.f4, sc, hs, p1, p2, p3, r1, r2, r3, eql_spV, dd, unwind, modeEx, resultsOf, one]
    exact ⟨_, rfl⟩
end Go.Proofs.Ytgfejpngfikjiaa.Tidy

