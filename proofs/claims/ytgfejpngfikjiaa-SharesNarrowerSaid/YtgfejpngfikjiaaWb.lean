/-
  What the functions that SharesNarrower reaches compute; the law, run.
-/
import Derived.Test.YtgfejpngfikjiaaWa
import Derived.Test.YtgfejpngfikjiaaCf
import Derived.Test.YtgfejpngfikjiaaCe
set_option linter.all false
namespace Go.Proofs.Ytgfejpngfikjiaa.Tidy
open Go Go.IntWalk
set_option maxRecDepth 10000
set_option linter.unusedSimpArgs false
set_option maxHeartbeats 2000000

set_option maxRecDepth 10000
set_option maxHeartbeats 4000000

structure Least (t : Tab) (r c : Nat) (v : Int) : Prop where
  at_ : ∃ s, Fits t s ∧ s r c = v
  all : ∀ s, Fits t s → v ≤ s r c
structure Great (t : Tab) (r c : Nat) (v : Int) : Prop where
  at_ : ∃ s, Fits t s ∧ s r c = v
  all : ∀ s, Fits t s → s r c ≤ v

theorem fits_narrow {t : Tab} (hO : t.Ok) {r c : Nat} (hr : r < t.R) (hc : c < t.C) {x : Spn} (h1 : (t.cell r c).lo ≤ x.lo) (h2 : x.hi ≤ (t.cell r c).hi) (s : Nat → Nat → Int) : Fits (t.setCell r c x) s ↔ Fits t s ∧ x.lo ≤ s r c ∧ s r c ≤ x.hi := by
  have hs := fun i k => setCell_cell hO x hr hc i k
  constructor
  · intro h
    have h0 := h.cell r c hr hc
    rw [hs, if_pos ⟨rfl, rfl⟩] at h0
    refine ⟨⟨fun i k hi hk => ?_, fun i hi => h.row i hi, fun k hk => h.col k hk⟩, h0⟩
    have h3 := h.cell i k hi hk
    rw [hs] at h3
    by_cases h4 : i = r ∧ k = c
    · obtain ⟨rfl, rfl⟩ := h4; omega
    · rwa [if_neg h4] at h3
  · rintro ⟨h, h3⟩
    refine ⟨fun i k hi hk => ?_, fun i hi => h.row i hi, fun k hk => h.col k hk⟩
    rw [hs]
    by_cases h4 : i = r ∧ k = c
    · obtain ⟨rfl, rfl⟩ := h4; rw [if_pos ⟨rfl, rfl⟩]; exact h3
    · rw [if_neg h4]; exact h.cell i k hi hk

set_option maxRecDepth 10000
set_option maxHeartbeats 4000000

theorem Least.range {t : Tab} {r c : Nat} (hr : r < t.R) (hc : c < t.C) {v : Int} (h : Least t r c v) : (t.cell r c).lo ≤ v ∧ v ≤ (t.cell r c).hi := by
  obtain ⟨s, hs, rfl⟩ := h.at_
  exact hs.cell r c hr hc
theorem Great.range {t : Tab} {r c : Nat} (hr : r < t.R) (hc : c < t.C) {v : Int} (h : Great t r c v) : (t.cell r c).lo ≤ v ∧ v ≤ (t.cell r c).hi := by
  obtain ⟨s, hs, rfl⟩ := h.at_
  exact hs.cell r c hr hc

set_option maxRecDepth 10000
set_option maxHeartbeats 4000000

structure LeastF (t : Tab) (φ : (Nat → Nat → Int) → Int) (v : Int) : Prop where
  at_ : ∃ s, Fits t s ∧ φ s = v
  all : ∀ s, Fits t s → v ≤ φ s
structure GreatF (t : Tab) (φ : (Nat → Nat → Int) → Int) (v : Int) : Prop where
  at_ : ∃ s, Fits t s ∧ φ s = v
  all : ∀ s, Fits t s → φ s ≤ v
def rowF (t : Tab) (r : Nat) (s : Nat → Nat → Int) : Int := sumN t.C (s r)

set_option maxRecDepth 10000
set_option maxHeartbeats 4000000

theorem LeastF.range {t : Tab} {r : Nat} (hr : r < t.R) {v : Int} (h : LeastF t (rowF t r) v) : (t.row r).lo ≤ v ∧ v ≤ (t.row r).hi := by
  obtain ⟨s, hs, rfl⟩ := h.at_
  exact hs.row r hr
theorem GreatF.range {t : Tab} {r : Nat} (hr : r < t.R) {v : Int} (h : GreatF t (rowF t r) v) : (t.row r).lo ≤ v ∧ v ≤ (t.row r).hi := by
  obtain ⟨s, hs, rfl⟩ := h.at_
  exact hs.row r hr

set_option maxRecDepth 10000
set_option maxHeartbeats 4000000

set_option maxRecDepth 10000
set_option maxHeartbeats 4000000

section
variable {A : Heap} {x y : AVal} {r0 : RowD} {rs : List RowD}
end

set_option maxRecDepth 10000
set_option maxHeartbeats 4000000

set_option maxRecDepth 10000
set_option maxHeartbeats 4000000

theorem hb_tab {H : Heap} {t : Tab} {p1 g1 p2 g2 q g n : Nat} {es : List AVal} (h1 : H[p1]? = some (.cells g1 2 true (t.rows.map spV))) (h2 : H[p2]? = some (.cells g2 2 true (t.cols.map spV))) (h3 : H[q]? = some (.cells g 1 false es))
    (hes : mapO (toLit (fun j => decide (0 ≤ j) && !([] : List Nat).contains j) H 7) es = some (t.cells.map fun l => .lit false 2 (l.map spV))) (hl : es.length = t.R) :
    handBack H 0 [] (n + 1 + 1) (.agg [.ref p1 g1 0 t.R false, .ref p2 g2 0 t.C false, .ref q g 0 t.R false]) = some (canon t).v := by
  have t1 : (t.rows.map spV).take t.R = t.rows.map spV := List.take_of_length_le (by rw [List.length_map]; exact Nat.le_refl _)
  have t2 : (t.cols.map spV).take t.C = t.cols.map spV := List.take_of_length_le (by rw [List.length_map]; exact Nat.le_refl _)
  have t3 : es.take t.R = es := List.take_of_length_le (by omega)
  have lr : t.rows.length = t.R := rfl
  have lc : t.cols.length = t.C := rfl
  have e1 : toLit (fun j => decide (0 ≤ j) && !([] : List Nat).contains j) H 8 (.ref p1 g1 0 t.R false) = some (.lit false 2 (t.rows.map spV)) := by
    simp [toLit, noRef, AVal.under, h1, t1, lr]
  have e2 : toLit (fun j => decide (0 ≤ j) && !([] : List Nat).contains j) H 8 (.ref p2 g2 0 t.C false) = some (.lit false 2 (t.cols.map spV)) := by
    simp [toLit, noRef, AVal.under, h2, t2, lc]
  have e3 : toLit (fun j => decide (0 ≤ j) && !([] : List Nat).contains j) H 8 (.ref q g 0 t.R false) = some (.lit false 1 (t.cells.map fun l => .lit false 2 (l.map spV))) := by
    unfold toLit
    simp only [noRef, AVal.under, Nat.not_lt_zero, decide_false, Bool.false_eq_true, if_false, h3, decide_true, Nat.zero_add, hl, Nat.le_refl, Bool.and_true, if_true, List.drop_zero, t3]
    rw [hes]
    simp
  have ec : (canon t).v = .agg [.lit false 2 (t.rows.map spV), .lit false 2 (t.cols.map spV), .lit false 1 (t.cells.map fun l => .lit false 2 (l.map spV))] := by
    unfold canon TabV.v
    simp only [List.map_map]
    rfl
  have hk : ∀ (i : Nat) (v : AVal) (n : Nat), (∃ g o l c, v = .ref i g o l c) → handBack H 0 [] (n + 1) v = toLit (fun j => decide (0 ≤ j) && !([] : List Nat).contains j) H 8 v := by
    rintro i v n ⟨g, o, l, c, rfl⟩
    simp [handBack]
  rw [ec]
  unfold handBack
  simp only [mapO, hk p1 _ n ⟨_, _, _, _, rfl⟩, hk p2 _ n ⟨_, _, _, _, rfl⟩, hk q _ n ⟨_, _, _, _, rfl⟩, e1, e2, e3]
  rfl

def noTab : AVal := .agg [.lit true 0 [], .lit true 0 [], .lit true 0 []]
set_option maxRecDepth 10000
set_option maxHeartbeats 4000000

theorem rows_lit {t : Tab} (hl : t.cells.length = t.R) : (vecA t.R fun i => AVal.lit false 2 (rowA t i)) = t.cells.map fun l => .lit false 2 (l.map spV) := by
  unfold vecA
  apply List.ext_getElem
  · simp [hl]
  · intro i h1 h2
    have hi : i < t.cells.length := by simpa using h2
    simp [rowA, hi]

theorem TbAt.back {H : Heap} {a b q ga gb g n : Nat} {ps : Nat → Nat} {t : Tab} (h : TbAt H a b q ga gb g ps t) (hl : t.cells.length = t.R) (hw : ∀ l ∈ t.cells, l.length = t.C) : handBack H 0 [] (n + 1 + 1) (memT t a b q ga gb g) = some (canon t).v := by
  refine hb_tab h.rows h.cols h.acc ?_ (vecA_length _ _)
  rw [← rows_lit hl]
  have gen : ∀ l : List Nat, (∀ i ∈ l, i < t.R) → mapO (Tidy.toLit (fun j => decide (0 ≤ j) && !([] : List Nat).contains j) H 7) (l.map fun i => AVal.ref (ps i) 0 0 t.C false) = some (l.map fun i => AVal.lit false 2 (rowA t i)) := by
    intro l
    induction l with
    | nil => intro _; rfl
    | cons i l ih =>
      intro hl'
      have hi := hl' i (by simp)
      have hr := h.row i hi
      have hrl := rowA_length hl hw hi
      have htk : (rowA t i).take t.C = rowA t i := List.take_of_length_le (by omega)
      simp only [List.map_cons, mapO, ih fun j hj => hl' j (by simp [hj])]
      simp [Tidy.toLit, noRef, AVal.under, hr, hrl, htk]
  exact gen _ fun i hi => List.mem_range.1 hi

theorem cl_write {T : TabV} (hT : T.Wf) (hO : T.tab.Ok) {r c : Nat} (hr : r < T.tab.R) (x : Spn) (H0 : Heap) :
    ∃ (g : Nat) (X : Heap) (p : Nat) (acc : List AVal) (ps : Nat → Nat), callT env 96 [T.v] 0 H0 H0.length = some (.ret (memT T.tab (H0.length + 2) (H0.length + 3) (H0.length + 10) 0 0 g), .ups (numbered H0.length X)) ∧
      putU H0 (numbered H0.length X) = H0 ++ X ∧ (∀ Z : Heap, ((H0 ++ X) ++ Z)[H0.length + 10]? = some (.cells g 1 false acc)) ∧ acc[r]? = some (.ref p 0 0 T.tab.C false) ∧ (∀ Z : Heap, ((H0 ++ X) ++ Z)[p]? = some (.cells 0 2 true (rowA T.tab r))) ∧ H0.length ≤ p ∧ p < H0.length + X.length ∧ 10 < X.length ∧ (∀ i, H0.length ≤ ps i) ∧
      ∀ Z : Heap, TbAt (((H0 ++ X) ++ Z).set p (.cells 0 2 true ((rowA T.tab r).set c (spV x)))) (H0.length + 2) (H0.length + 3) (H0.length + 10) 0 0 g ps (T.tab.setCell r c x) := by
  obtain ⟨g, cl⟩ := clone_call hT hO
  have at0 := clone_at hO H0 g
  have hl := clX_len T H0.length g hO.R1
  have hR1 := hO.R1
  have hps : ∀ i, H0.length ≤ clP' H0.length i := fun i => by unfold clP'; split <;> omega
  refine ⟨g, _, clP' H0.length r, _, clP' H0.length, cl 0 H0 H0.length, putU_end _ _, fun Z => (at0.more Z).acc, vecA_get _ hr, fun Z => (at0.more Z).row r hr, hps r, ?_, by omega, hps, fun Z => (at0.more Z).write hO.len hr x⟩
  have := at0.lt.2.2.2 r hr
  rwa [List.length_append] at this

def meetS (x y : Spn) : Spn := ⟨max x.lo y.lo, min x.hi y.hi⟩
def withV (t : Tab) (i k : Int) (x : Spn) : AVal :=
  if t.ok then (if outB t i k || !x.ok then .tuple [noTab, .int .i64 1] else
    if (meetS x (t.cell i.toNat k.toNat)).hi < (meetS x (t.cell i.toNat k.toNat)).lo then .tuple [noTab, .int .i64 4] else .tuple [(canon (t.setCell i.toNat k.toNat (meetS x (t.cell i.toNat k.toNat)))).v, .int .i64 0]) else .tuple [noTab, .int .i64 60]

theorem meet_ok {x y : Spn} (hx : x.ok = true) (h : (meetS x y).lo ≤ (meetS x y).hi) : (meetS x y).ok = true := by
  have e : ∀ z : Spn, z.ok = true ↔ 0 ≤ z.lo ∧ z.hi ≤ 2 ^ 30 ∧ z.lo ≤ z.hi := fun z => by simp [Spn.ok, and_assoc]
  rw [e] at hx ⊢
  have h1 : (meetS x y).lo = max x.lo y.lo := rfl
  have h2 : (meetS x y).hi = min x.hi y.hi := rfl
  rw [h1, h2] at *
  refine ⟨by omega, by omega, h⟩


set_option maxRecDepth 10000
set_option maxHeartbeats 4000000

theorem maxL_two (a b : Int) : maxL .i64 a [.int .i64 b] = some (max a b) := by
  simp only [maxL, if_true]; congr 1; omega
theorem minL_two (a b : Int) : minL .i64 a [.int .i64 b] = some (min a b) := by
  simp only [minL, if_true]; congr 1; omega

theorem With_call {T : TabV} (hT : T.Wf) (i k : Int) (x : Spn) (ro : Nat) (H : Heap) (nx : Nat) : callT env 62 [T.v, .int .i64 i, .int .i64 k, spV x] ro H nx = some (.ret (withV T.tab i k x), .ups []) := by
  have hu : underL 0 [T.v, .int .i64 i, .int .i64 k, spV x] = true := by simp [underL, AVal.under, TabV.under, spV_under]
  have ck := check_call T hT
  have lr : T.rows.l.length = T.tab.R := rfl
  have lc : T.cols.l.length = T.tab.C := rfl
  unfold withV
  have pure : ∀ n : Int, noRef (.tuple [noTab, .int .i64 n]) = true := fun _ => rfl
  cases hok : T.tab.ok with
  | false =>
    have : ∃ H', runT env 62 [T.v, .int .i64 i, .int .i64 k, spV x] [] 0 = some (.ret (.tuple [noTab, .int .i64 60]), H') := by
      rw [run_unfold fn62 rfl]
      simp only [go_sem, simprocAttr, Try.f62, ck, ckS_no hok, unwind, modeEx, resultsOf, one]
      exact ⟨_, rfl⟩
    obtain ⟨H', h⟩ := this
    exact call_pure rfl rfl rfl hu h (pure _) ro H nx
  | true =>
    cases ho : outB T.tab i k with
    | true =>
      have : ∃ H', runT env 62 [T.v, .int .i64 i, .int .i64 k, spV x] [] 0 = some (.ret (.tuple [noTab, .int .i64 1]), H') := by
        rw [run_unfold fn62 rfl]
        cases d1 : decide (i < 0) <;> cases d2 : decide ((T.tab.R : Int) ≤ i) <;> cases d3 : decide (k < 0) <;> cases d4 : decide ((T.tab.C : Int) ≤ k) <;>
          first
          | (exfalso; unfold outB at ho; rw [d1, d2, d3, d4] at ho; exact Bool.noConfusion ho)
          | (simp only [go_sem, simprocAttr, Try.f62, ck, ckS_ok hok, List.length_map, lr, lc, d1, d2, d3, d4, unwind, modeEx, resultsOf, one]
             exact ⟨_, rfl⟩)
      obtain ⟨H', h⟩ := this
      exact call_pure rfl rfl rfl hu h (pure _) ro H nx
    | false =>
      have d : decide (i < 0) = false ∧ decide ((T.tab.R : Int) ≤ i) = false ∧ decide (k < 0) = false ∧ decide ((T.tab.C : Int) ≤ k) = false := by
        unfold outB at ho
        simpa only [Bool.or_eq_false_iff] using ho
      obtain ⟨d1, d2, d3, d4⟩ := d
      cases hx : x.ok with
      | false =>
        have : ∃ H', runT env 62 [T.v, .int .i64 i, .int .i64 k, spV x] [] 0 = some (.ret (.tuple [noTab, .int .i64 1]), H') := by
          rw [run_unfold fn62 rfl]
          simp only [go_sem, simprocAttr, Try.f62, ck, ckS_ok hok, List.length_map, lr, lc, d1, d2, d3, d4, hx, unwind, modeEx, resultsOf, one]
          exact ⟨_, rfl⟩
        obtain ⟨H', h⟩ := this
        exact call_pure rfl rfl rfl hu h (pure _) ro H nx
      | true =>
        have hO := Tab.ok_iff.1 hok
        obtain ⟨r, c, rfl, rfl, hr, hc⟩ := outB_no ho
        have r0 : (0 : Int) ≤ (r : Int) := by omega
        have c0 : (0 : Int) ≤ (c : Int) := by omega
        obtain ⟨s, _, q1, q2, q3, _, _⟩ := TabV.at hT hO hr hc
        have q3 := eq_true q3
        rw [Int.toNat_natCast, Int.toNat_natCast]
        generalize hy : T.tab.cell r c = y at q2
        have m1 : (meetS x y).lo = max x.lo y.lo := rfl
        have m2 : (meetS x y).hi = min x.hi y.hi := rfl
        have hmt : AVal.agg [.int .i64 (max x.lo y.lo), .int .i64 (min x.hi y.hi)] = spV (meetS x y) := rfl
        have wr0 : writeAt (spV x) 0 (spV (meetS x y)) = some (spV (meetS x y)) := rfl
        cases hm : decide ((meetS x y).hi < (meetS x y).lo) with
        | true =>
          have hm' := of_decide_eq_true hm
          rw [if_pos rfl, if_neg (by simp), if_pos hm']
          have : ∃ H', runT env 62 [T.v, .int .i64 r, .int .i64 c, spV x] [] 0 = some (.ret (.tuple [noTab, .int .i64 4]), H') := by
            rw [run_unfold fn62 rfl]
            simp only [go_sem, simprocAttr, Try.f62, ck, ckS_ok hok, List.length_map, lr, lc, d1, d2, d3, d4, hx, r0, c0, Int.toNat_natCast, q1, q2, q3, maxL_two, minL_two, hm, hmt, wr0, unwind, modeEx, resultsOf, one]
            exact ⟨_, rfl⟩
          obtain ⟨H', h⟩ := this
          exact call_pure rfl rfl rfl hu h (pure _) ro H nx
        | false =>
          have hm' := of_decide_eq_false hm
          rw [if_pos rfl, if_neg (by simp), if_neg hm']
          have hok2 := meet_ok (y := y) hx (by omega)
          have hO2 := setCell_ok hO (i := r) (k := c) (x := meetS x y) hr hok2
          obtain ⟨g, X, p, acc, ps, k1, k2, k3, k4, k5, k6, k7, k8, hpsge, k9⟩ := cl_write hT hO (c := c) hr (meetS x y) [boxT T, .cells 0 2 true [spV (meetS x y)], .cells 0 3 false [noTab], .cells 0 2 true [spV y]]
          have dR : decide ((r : Int) < (T.tab.R : Int)) = true := by simp; omega
          have dC : decide ((c : Int) < (T.tab.C : Int)) = true := by simp; omega
          have hrl := rowA_length hO.len hO.wid hr
          have hget := rowA_get hO hr hc
          rw [hy] at hget
          have gs := fun b : Blk => get_snoc (X := X) rfl b
          have ss := fun b b' : Blk => set_snoc (X := X) rfl b b'
          have ls := fun b : Blk => len_snoc (X := X) rfl b
          have H4 : ([boxT T, .cells 0 2 true [spV (meetS x y)], .cells 0 3 false [noTab], .cells 0 2 true [spV y]] : Heap).length = 4 := rfl
          rw [H4] at k1 k2 k3 k6 k7 hpsge k9
          have wr : writeAt (spV y) 0 (spV (meetS x y)) = some (spV (meetS x y)) := rfl
          have z1 : (p < X.length + 1 + 1 + 1 + 1 + 1) = True := eq_true (by omega)
          have hne1 : ∀ (Z : Heap) b, (Z.set p b)[X.length + 1 + 1 + 1 + 1]? = Z[X.length + 1 + 1 + 1 + 1]? := fun Z b => List.getElem?_set_ne (by omega)
          have hne2 : ∀ (Z : Heap) b, (Z.set p b)[2]? = Z[2]? := fun Z b => List.getElem?_set_ne (by omega)
          have k9 := k9 [.cells 0 3 false [memT T.tab 6 7 14 0 0 g]]
          simp only [boxT, memT, noTab, List.cons_append, List.nil_append, Nat.reduceAdd] at k1 k2 k3 k5 k9
          have z2 : decide (1 < X.length + 1 + 1 + 1 + 1 + 1) = true := decide_eq_true (by omega)
          have z3 : decide (14 < X.length + 1 + 1 + 1 + 1 + 1) = true := decide_eq_true (by omega)
          have z4 : decide (p < X.length + 1 + 1 + 1 + 1 + 1) = true := decide_eq_true (by omega)
          have z5 : decide (X.length + 1 + 1 + 1 + 1 < X.length + 1 + 1 + 1 + 1 + 1) = true := decide_eq_true (by omega)
          have z6 : (2 < X.length + 1 + 1 + 1 + 1 + 1) = True := eq_true (by omega)
          obtain ⟨Y, hY⟩ : ∃ Y : Heap, Y = (boxT T :: Blk.cells 0 2 true [spV (meetS x y)] :: Blk.cells 0 3 false [noTab] :: Blk.cells 0 2 true [spV y] :: (X ++ [Blk.cells 0 3 false [memT T.tab 6 7 14 0 0 g]])).set p (Blk.cells 0 2 true ((rowA T.tab r).set c (spV (meetS x y)))) := ⟨_, rfl⟩
          have y1 : Y[X.length + 1 + 1 + 1 + 1]? = some (.cells 0 3 false [memT T.tab 6 7 14 0 0 g]) := by
            rw [hY, hne1]
            exact get_snoc (X := X) rfl _
          have y2 : Y[2]? = some (.cells 0 3 false [noTab]) := by
            rw [hY, hne2]; rfl
          have yl : Y.length = X.length + 1 + 1 + 1 + 1 + 1 := by rw [hY]; simp
          have y3 : ∀ b, (Y.set 2 b)[2]? = some b := fun b => List.getElem?_set_self (by omega)
          have y4 : ∀ b j, j ≠ 2 → (Y.set 2 b)[j]? = Y[j]? := fun b j h => List.getElem?_set_ne (Ne.symm h)
          have yat : TbAt (Y.set 2 (.cells 0 3 false [memT T.tab 6 7 14 0 0 g])) 6 7 14 0 0 g ps (T.tab.setCell r c (meetS x y)) := by
            have hlt := k9.lt
            have k9' : TbAt Y 6 7 14 0 0 g ps (T.tab.setCell r c (meetS x y)) := by rw [hY]; exact k9
            refine k9'.mono fun j hj => y4 _ _ ?_
            rcases hj with rfl | rfl | rfl | ⟨m, hm, rfl⟩
            · omega
            · omega
            · omega
            · exact Nat.ne_of_gt (Nat.lt_of_lt_of_le (by decide) (hpsge m))
          simp only [boxT, memT, noTab] at hY y1 y2
          have hrun : runT env 62 [T.v, .int .i64 r, .int .i64 c, spV x] [] 0 = some (.ret (.tuple [memT T.tab 6 7 14 0 0 g, .int .i64 0]), Y.set 2 (.cells 0 3 false [memT T.tab 6 7 14 0 0 g])) := by
            rw [run_unfold fn62 rfl]
            simp only [go_sem, simprocAttr, Try.f62, ck, ckS_ok hok, List.length_map, lr, lc, d1, d2, d3, d4, hx, r0, c0, Int.toNat_natCast, q1, q2, q3, maxL_two, minL_two, hm, hmt, wr0, k1, k2, k3, k4, k5, gs, ss, ls, hget, hrl, dR, dC, wr, z1, z2, z3, z4, z5, Nat.zero_le, Nat.lt_add_one, unwind, modeEx, resultsOf, one]
            rw [apart_ok]
            · rw [← hY]
              simp only [go_sem, simprocAttr, y1, y2, y3, yl, z6, unwind, modeEx, resultsOf, one, memT]
            · exact apart_of_V (by kernel_rfl)
          refine call_back rfl rfl rfl hu hrun ?_ rfl ro H nx
          unfold handBack
          have hb := yat.back (n := 1) hO2.len hO2.wid
          have hb : handBack (Y.set 2 (.cells 0 3 false [memT T.tab 6 7 14 0 0 g])) 0 [] 3 (memT T.tab 6 7 14 0 0 g) = some (canon (T.tab.setCell r c (meetS x y))).v := hb
          simp only [mapO, hb]
          rfl

set_option maxRecDepth 10000
set_option maxHeartbeats 2000000

def cutRow (C : Nat) (c : CutA) (i k : Nat) : List Nat := ((List.range k).filter fun k => c.l1.getD i false && c.l2.getD k false).map (i * C + ·)
theorem cutRow_succ (C : Nat) (c : CutA) (i k : Nat) : cutRow C c i (k + 1) = if c.l1.getD i false && c.l2.getD k false then cutRow C c i k ++ [i * C + k] else cutRow C c i k := by
  unfold cutRow
  rw [List.range_succ, List.filter_append, List.filter_cons, List.filter_nil]
  by_cases h : (c.l1.getD i false && c.l2.getD k false) = true
  · rw [if_pos h, if_pos h, List.map_append]; rfl
  · rw [if_neg h, if_neg h, List.append_nil]
theorem cutRow_length (C : Nat) (c : CutA) (i k : Nat) : (cutRow C c i k).length ≤ k := by
  unfold cutRow
  rw [List.length_map]
  have := List.length_filter_le (fun k => c.l1.getD i false && c.l2.getD k false) (List.range k)
  simpa using this

def blkH (T : TabV) (c : CutA) (g : Nat) (f : Nat → Int) (gt : Nat) (l : List Nat) : Heap := [boxT T, .cells 0 2 false [c.v], .cells 0 2 true [.agg [.int .i64 0, .int .i64 0]], boxT T, boxT T, arcB g T.tab.net f, netB T.tab.R T.tab.C 5 g T.tab.net.n, cellP88 6, accB 1 gt (natsV l)]

theorem blk_inner {T : TabV} (hO : T.tab.Ok) {c : CutA} (hc : c.Wf) (h1 : c.l1.length = T.tab.R) (h2 : c.l2.length = T.tab.C) (g : Nat) (f : Nat → Int) {i : Nat} (hi : i < T.tab.R) (l : List Nat) (hl : l.length ≤ 64) : ∀ (n k gt : Nat) (j0 j1 j2 j5 j7 j10 j11 j12 j13 j14 j15 j16 j17 j18 j19 j20 j21 j22 j23 j24 j25 j26 j27 j30 j31 j32 j33 j34 j37 j38 j39 j40 j41 j42 j43 j44 j45 j46 j47 j48 j49 j50 j51 j52 j53 j54 j55 j56 j57 j58 j59 j60 j61 j62 : AVal), k + n = T.tab.C →
    Goes (execT env (Try.f32.at [1, 1, 1, 1, 1, 0, 1, 0, 0, 1, 1, 0, 0, 1, 1, 0]) ⟨[j0, j1, j2, .ptr 1 0 0 0, .ptr 2 0 0 0, j5, .ptr 6 0 0 0, j7, .ref 8 (accG gt (natsV (l ++ cutRow T.tab.C c i k))) 0 (l ++ cutRow T.tab.C c i k).length false, .int .i64 i, j10, j11, j12, j13, j14, j15, j16, j17, j18, j19, j20, j21, j22, j23, j24, j25, j26, j27, .int .i64 T.tab.R, .int .i64 i, j30, j31, j32, j33, j34, .int .i64 T.tab.C, .int .i64 k, j37, j38, j39, j40, j41, j42, j43, j44, j45, j46, j47, j48, j49, j50, j51, j52, j53, j54, j55, j56, j57, j58, j59, j60, j61, j62], blkH T c g f gt (l ++ cutRow T.tab.C c i k), [], 0, [8]⟩) fun e s =>
      e = .exit 2 ∧ ∃ (gt : Nat), FrP 63 [(3, .ptr 1 0 0 0), (4, .ptr 2 0 0 0), (6, .ptr 6 0 0 0), (8, .ref 8 (accG gt (natsV (l ++ cutRow T.tab.C c i T.tab.C))) 0 (l ++ cutRow T.tab.C c i T.tab.C).length false), (28, .int .i64 T.tab.R), (29, .int .i64 i)] (blkH T c g f gt (l ++ cutRow T.tab.C c i T.tab.C)) [] 0 [8] s := by
  have hR8 := hO.R8
  have hC8 := hO.C8
  intro n
  induction n with
  | zero =>
    intro k gt; intros; rename_i hk
    have hd : decide ((k : Int) < (T.tab.C : Int)) = false := by simp; omega
    have : k = T.tab.C := by omega
    subst this
    simp only [go_sem, simprocAttr, Try.f32]
    rw [exec_loop]
    simp only [go_sem, simprocAttr, hd]
    exact ⟨gt, frP (by kernel_rfl)⟩
  | succ n ih =>
    intro k gt; intros; rename_i hk
    have hd : decide ((k : Int) < (T.tab.C : Int)) = true := by simp; omega
    have k0 : (0 : Int) ≤ (k : Int) := by omega
    have i0 : (0 : Int) ≤ (i : Int) := by omega
    have hz1 := sz_of hc.s1 (List.getElem?_eq_getElem (show i < c.l1.length by omega))
    have hz2 := sz_of hc.s2 (List.getElem?_eq_getElem (show k < c.l2.length by omega))
    have g1 := boolsV_get (l := c.l1) (i := i) (by omega)
    have g2 := boolsV_get (l := c.l2) (i := k) (by omega)
    have hlen := cutRow_length T.tab.C c i k
    have hll : (l ++ cutRow T.tab.C c i k).length < 2 ^ 30 := by rw [List.length_append]; omega
    have es := cutRow_succ T.tab.C c i k
    have hA : NetAt (blkH T c g f gt (l ++ cutRow T.tab.C c i k)) 6 5 T.tab.R T.tab.C g T.tab.net.n (arcB g T.tab.net f) := ⟨rfl, rfl, by decide, flat_arcB _ _ _⟩
    have cc := cellArc_call hA (i := i) (k := k) (by omega) hC8 (by omega) 0 9
    obtain ⟨gt', ap⟩ := append_nat (H := blkH T c g f gt (l ++ cutRow T.tab.C c i k)) (id := 8) (l := l ++ cutRow T.tab.C c i k) (j := i * T.tab.C + k) (cl := true) rfl hll 9 (ro := 0) (Nat.zero_le _)
    have iha := ih (k + 1) gt
    have ihb := ih (k + 1) gt'
    rw [es] at iha ihb
    rw [List.append_assoc] at ap
    simp only [blkH, boxT, netB, arcB, cellP88] at cc ap
    cases hb1 : c.l1.getD i false <;> cases hb2 : c.l2.getD k false <;> rw [hb1] at iha ihb g1 <;> rw [hb2] at iha ihb g2 <;>
      simp only [go_sem, simprocAttr, Try.f32, blkH, boxT, netB, arcB, cellP88, Bool.false_eq_true, if_false, if_true, Bool.and_true, Bool.and_false, Bool.and_self] at iha ihb ⊢ <;>
      rw [exec_loop] <;>
      simp only [go_sem, simprocAttr, hd, k0, i0, Int.toNat_natCast, hz1, hz2, g1, g2, cc, ap, wrap_succ (show k < 2 ^ 63 - 1 by omega)] <;>
      first
      | exact iha _ _ _ _ _ _ _ _ _ _ _ _ _ _ _ _ _ _ _ _ _ _ _ _ _ _ _ _ _ _ _ _ _ _ _ _ _ _ _ _ _ _ _ _ _ _ _ _ _ _ _ _ _ _ (by omega)
      | exact ihb _ _ _ _ _ _ _ _ _ _ _ _ _ _ _ _ _ _ _ _ _ _ _ _ _ _ _ _ _ _ _ _ _ _ _ _ _ _ _ _ _ _ _ _ _ _ _ _ _ _ _ _ _ _ (by omega)

def blkL (C : Nat) (c : CutA) (n : Nat) : List Nat := (List.range n).flatMap fun i => cutRow C c i C
theorem blkL_succ (C : Nat) (c : CutA) (n : Nat) : blkL C c (n + 1) = blkL C c n ++ cutRow C c n C := by simp [blkL, List.range_succ]
theorem blkL_length (C : Nat) (c : CutA) : ∀ n, (blkL C c n).length ≤ n * C
  | 0 => by simp [blkL]
  | n + 1 => by
    rw [blkL_succ, List.length_append, Nat.succ_mul]
    have := blkL_length C c n
    have := cutRow_length C c n C
    omega

theorem blk_outer {T : TabV} (hO : T.tab.Ok) {c : CutA} (hc : c.Wf) (h1 : c.l1.length = T.tab.R) (h2 : c.l2.length = T.tab.C) (g : Nat) (f : Nat → Int) : ∀ (n i gt : Nat) (j0 j1 j2 j5 j7 j9 j10 j11 j12 j13 j14 j15 j16 j17 j18 j19 j20 j21 j22 j23 j24 j25 j26 j27 j30 j31 j32 j33 j34 j35 j36 j37 j38 j39 j40 j41 j42 j43 j44 j45 j46 j47 j48 j49 j50 j51 j52 j53 j54 j55 j56 j57 j58 j59 j60 j61 j62 : AVal), i + n = T.tab.R →
    Goes (execT env (Try.f32.at [1, 1, 1, 1, 1, 0, 1, 0]) ⟨[j0, j1, j2, .ptr 1 0 0 0, .ptr 2 0 0 0, j5, .ptr 6 0 0 0, j7, .ref 8 (accG gt (natsV (blkL T.tab.C c i))) 0 (blkL T.tab.C c i).length false, j9, j10, j11, j12, j13, j14, j15, j16, j17, j18, j19, j20, j21, j22, j23, j24, j25, j26, j27, .int .i64 T.tab.R, .int .i64 i, j30, j31, j32, j33, j34, j35, j36, j37, j38, j39, j40, j41, j42, j43, j44, j45, j46, j47, j48, j49, j50, j51, j52, j53, j54, j55, j56, j57, j58, j59, j60, j61, j62], blkH T c g f gt (blkL T.tab.C c i), [], 0, [8]⟩) fun e s =>
      e = .exit 0 ∧ ∃ (gt : Nat), FrP 63 [(4, .ptr 2 0 0 0), (6, .ptr 6 0 0 0), (8, .ref 8 (accG gt (natsV (blkL T.tab.C c T.tab.R))) 0 (blkL T.tab.C c T.tab.R).length false)] (blkH T c g f gt (blkL T.tab.C c T.tab.R)) [] 0 [8] s := by
  have hR8 := hO.R8
  have hC8 := hO.C8
  intro n
  induction n with
  | zero =>
    intro i gt; intros; rename_i hi
    have hd : decide ((i : Int) < (T.tab.R : Int)) = false := by simp; omega
    have : i = T.tab.R := by omega
    subst this
    simp only [go_sem, simprocAttr, Try.f32]
    rw [exec_loop]
    simp only [go_sem, simprocAttr, hd]
    exact ⟨gt, frP (by kernel_rfl)⟩
  | succ n ih =>
    intro i gt; intros; rename_i hi
    have hiR : i < T.tab.R := by omega
    have hd : decide ((i : Int) < (T.tab.R : Int)) = true := by simp; omega
    have hl := blkL_length T.tab.C c i
    have hl2 : i * T.tab.C ≤ 8 * 8 := Nat.mul_le_mul (by omega) hC8
    obtain ⟨ex, st, hx, hp⟩ := blk_inner hO hc h1 h2 g f hiR (blkL T.tab.C c i) (by omega) T.tab.C 0 gt _ _ _ _ _ _ _ _ _ _ _ _ _ _ _ _ _ _ _ _ _ _ _ _ _ _ _ _ _ _ _ _ _ _ _ _ _ _ _ _ _ _ _ _ _ _ _ _ _ _ _ _ _ _ (by omega)
    obtain ⟨rfl, gt', jp, rfl⟩ := hp
    have z0 : cutRow T.tab.C c i 0 = [] := rfl
    have ih' := ih (i + 1) gt'
    rw [blkL_succ] at ih'
    simp only [go_sem, simprocAttr, Try.f32, blkH, boxT, netB, arcB, cellP88, z0, List.append_nil, Int.natCast_zero, Int.ofNat_zero] at hx
    simp only [go_sem, simprocAttr, Try.f32, blkH, boxT, netB, arcB, cellP88] at ih' ⊢
    rw [exec_loop]
    simp only [go_sem, simprocAttr, hd]
    rw [hx]
    simp only [go_sem, simprocAttr, blkH, boxT, netB, arcB, cellP88, wrap_succ (show i < 2 ^ 63 - 1 by omega)]
    exact ih' _ _ _ _ _ _ _ _ _ _ _ _ _ _ _ _ _ _ _ _ _ _ _ _ _ _ _ _ _ _ _ _ _ _ _ _ _ _ _ _ _ _ _ _ _ _ _ _ _ _ _ _ _ _ _ _ _ (by omega)
end Go.Proofs.Ytgfejpngfikjiaa.Tidy

namespace Go.Proofs.Ytgfejpngfikjiaa.Tidy
open Go

theorem mem_blk {C R : Nat} {c : CutA} {i k : Nat} (hi : i < R) (hk : k < C) : (i * C + k ∈ blkL C c R) ↔ (c.l1.getD i false && c.l2.getD k false) = true := by
  simp only [blkL, cutRow, List.mem_flatMap, List.mem_map, List.mem_filter, List.mem_range]
  constructor
  · rintro ⟨i', hi', k', ⟨hk', h⟩, e⟩
    have e1 : i' = i := by rw [← cell_div (i := i') hk', ← cell_div (i := i) hk, e]
    subst e1
    have e2 : k' = k := by omega
    subst e2
    exact h
  · intro h
    exact ⟨i, hi, k, ⟨hk, h⟩, rfl⟩

theorem not_blk {C R : Nat} {c : CutA} {j : Nat} (hj : R * C ≤ j) : j ∉ blkL C c R := by
  simp only [blkL, cutRow, List.mem_flatMap, List.mem_map, List.mem_filter, List.mem_range]
  rintro ⟨i', hi', k', ⟨hk', h⟩, e⟩
  have := cell_lt hi' hk'
  omega

theorem brings_blk (t : Tab) (c : CutA) (x : Nat → Nat → Int) : t.brings (blkL t.C c t.R) x = sumN t.R fun i => sumN t.C fun k => if c.l1.getD i false && c.l2.getD k false then x i k else 0 := by
  unfold Tab.brings brings
  rw [show t.net.n = t.R * t.C + t.R + t.C from rfl, net_sum]
  rw [sumN_zero (n := t.R) (f := fun i => pickG (blkL t.C c t.R) (t.R * t.C + i) * t.flow x (t.R * t.C + i)) fun i _ => by
      unfold pickG; rw [if_neg (not_blk (by omega))]; omega,
    sumN_zero (n := t.C) (f := fun k => pickG (blkL t.C c t.R) (t.R * t.C + t.R + k) * t.flow x (t.R * t.C + t.R + k)) fun i _ => by
      unfold pickG; rw [if_neg (not_blk (by omega))]; omega, Int.add_zero, Int.add_zero]
  refine sumN_congr fun i hi => sumN_congr fun k hk => ?_
  rw [t.flow_cell x hi hk]
  unfold pickG
  by_cases h : (c.l1.getD i false && c.l2.getD k false) = true
  · rw [if_pos ((mem_blk hi hk).2 h), if_pos h]; omega
  · rw [if_neg fun e => h ((mem_blk hi hk).1 e), if_neg h]; omega

theorem brings_total (t : Tab) (x : Nat → Nat → Int) : t.brings (rowsL t t.R) x = sumN t.R fun i => sumN t.C (x i) := by
  have m1 : ∀ j, j < t.R * t.C → j ∉ rowsL t t.R := by
    intro j hj h
    simp only [rowsL, List.mem_map, List.mem_range] at h
    obtain ⟨i, _, e⟩ := h
    omega
  have m2 : ∀ i, i < t.R → t.R * t.C + i ∈ rowsL t t.R := by
    intro i hi
    simp only [rowsL, List.mem_map, List.mem_range]
    exact ⟨i, hi, rfl⟩
  have m3 : ∀ k, t.R * t.C + t.R + k ∉ rowsL t t.R := by
    intro k h
    simp only [rowsL, List.mem_map, List.mem_range] at h
    obtain ⟨i, hi, e⟩ := h
    omega
  unfold Tab.brings brings
  rw [show t.net.n = t.R * t.C + t.R + t.C from rfl, net_sum]
  rw [sumN_zero (n := t.R) (f := fun i => sumN t.C fun k => pickG (rowsL t t.R) (i * t.C + k) * t.flow x (i * t.C + k)) fun i hi => sumN_zero fun k hk => by
      unfold pickG; rw [if_neg (m1 _ (cell_lt hi hk))]; omega,
    sumN_zero (n := t.C) (f := fun k => pickG (rowsL t t.R) (t.R * t.C + t.R + k) * t.flow x (t.R * t.C + t.R + k)) fun k _ => by
      unfold pickG; rw [if_neg (m3 k)]; omega, Int.add_zero, Int.zero_add]
  refine sumN_congr fun i hi => ?_
  rw [t.flow_row x hi]
  unfold pickG
  rw [if_pos (m2 i hi)]; omega

def EndsP (t : Tab) (μ : (Nat → Nat → Int) → Int) (x : Spn) : Prop := (∃ s, Fits t s ∧ μ s = x.lo) ∧ (∃ s, Fits t s ∧ μ s = x.hi) ∧ ∀ s, Fits t s → x.lo ≤ μ s ∧ μ s ≤ x.hi

theorem EndsP.of {t : Tab} {l : List Nat} {lo hi : Int} (h : IsEnds t.net l lo hi) {μ : (Nat → Nat → Int) → Int} (e : ∀ s, t.brings l s = μ s) : EndsP t μ ⟨lo, hi⟩ := by
  obtain ⟨⟨s1, h1, e1⟩, ⟨s2, h2, e2⟩, h3⟩ := isEnds_iff.1 h
  exact ⟨⟨s1, h1, by rw [← e, e1]⟩, ⟨s2, h2, by rw [← e, e2]⟩, fun s hs => by rw [← e]; exact h3 s hs⟩

theorem EndsP.le {t : Tab} {μ : (Nat → Nat → Int) → Int} {x : Spn} (h : EndsP t μ x) : x.lo ≤ x.hi := by
  obtain ⟨⟨s1, a1, b1⟩, _, c⟩ := h
  have := c s1 a1
  omega

def blkM (t : Tab) (p q : Nat → Bool) (x : Nat → Nat → Int) : Int := sumN t.R fun i => sumN t.C fun k => if p i && q k then x i k else 0

theorem blkM_congr {t : Tab} {p p' q q' : Nat → Bool} (hp : ∀ i, i < t.R → p i = p' i) (hq : ∀ k, k < t.C → q k = q' k) (x : Nat → Nat → Int) : blkM t p q x = blkM t p' q' x :=
  sumN_congr fun i hi => sumN_congr fun k hk => by rw [hp i hi, hq k hk]

theorem blkM_row {t : Tab} {r : Nat} (hr : r < t.R) (x : Nat → Nat → Int) : blkM t (fun i => decide (i = r)) (fun _ => true) x = sumN t.C (x r) := by
  unfold blkM
  rw [← sumN_one hr (sumN t.C (x r))]
  refine sumN_congr fun i _ => ?_
  by_cases h : i = r
  · subst h; simp
  · simp only [h, decide_false, Bool.false_and, Bool.false_eq_true, if_false]
    exact sumN_zero fun _ _ => rfl
theorem blkM_col {t : Tab} {c : Nat} (hc : c < t.C) (x : Nat → Nat → Int) : blkM t (fun _ => true) (fun k => decide (k = c)) x = sumN t.R fun i => x i c := by
  unfold blkM
  refine sumN_congr fun i _ => ?_
  rw [← sumN_one hc (x i c)]
  refine sumN_congr fun k _ => ?_
  by_cases h : k = c
  · subst h; simp
  · simp [h]
theorem blkM_cell {t : Tab} {r c : Nat} (hr : r < t.R) (hc : c < t.C) (x : Nat → Nat → Int) : blkM t (fun i => decide (i = r)) (fun k => decide (k = c)) x = x r c := by
  unfold blkM
  rw [← sumN_one hr (x r c)]
  refine sumN_congr fun i _ => ?_
  by_cases h : i = r
  · subst h
    rw [if_pos rfl, ← sumN_one hc (x i c)]
    refine sumN_congr fun k _ => ?_
    by_cases h2 : k = c
    · subst h2; simp
    · simp [h2]
  · simp only [h, decide_false, Bool.false_and, Bool.false_eq_true, if_false]
    exact sumN_zero fun _ _ => rfl
end Go.Proofs.Ytgfejpngfikjiaa.Tidy

namespace Go.Proofs.Ytgfejpngfikjiaa.Tidy
open Go Go.IntWalk
set_option maxRecDepth 10000
set_option linter.unusedSimpArgs false
set_option maxHeartbeats 2000000

noncomputable def blkS (t : Tab) (c : CutA) : Int := if t.ok then (if canB t then (if fitC t c then 0 else 61) else 31) else 60

theorem block_run {T : TabV} (hT : T.Wf) {c : CutA} (hc' : c.Wf) : ∃ (v : AVal) (H' : Heap), runT env 32 [T.v, c.v] [] 0 = some (.ret v, H') ∧ EndsAns T.tab (blkS T.tab c) (blkL T.tab.C c T.tab.R) v := by
  rcases settled_call hT 0 [boxT T, .cells 0 2 false [c.v], .cells 0 2 true [.agg [.int .i64 0, .int .i64 0]]] 3 with ⟨hok, us, hc, X, rfl⟩ | ⟨hO, hcan, us, hc, X, rfl⟩ | ⟨hO, hcan, f, g, _, hin, hci, hc⟩
  · have ha : blkS T.tab c = 60 := by unfold blkS; rw [hok]; rfl
    rw [ha]
    have : ∃ H', runT env 32 [T.v, c.v] [] 0 = some (.ret (.tuple [.agg [.int .i64 0, .int .i64 0], .int .i64 60]), H') := by
      have hp := putU_end X [boxT T, .cells 0 2 false [c.v], .cells 0 2 true [.agg [.int .i64 0, .int .i64 0]]]
      simp only [boxT, List.length_cons, List.length_nil, Nat.zero_add, Nat.reduceAdd, List.cons_append, List.nil_append] at hc hp
      rw [run_unfold fn32 rfl]
      simp only [go_sem, simprocAttr, Try.f32, hc, hp, unwind, modeEx, resultsOf, one]
      exact ⟨_, rfl⟩
    obtain ⟨H', h⟩ := this
    exact ⟨_, _, h, .inl ⟨by decide, rfl⟩⟩
  · have hok := Tab.ok_iff.2 hO
    have ha : blkS T.tab c = 31 := by unfold blkS; rw [hok, hcan]; rfl
    rw [ha]
    have : ∃ H', runT env 32 [T.v, c.v] [] 0 = some (.ret (.tuple [.agg [.int .i64 0, .int .i64 0], .int .i64 31]), H') := by
      have hp := putU_end X [boxT T, .cells 0 2 false [c.v], .cells 0 2 true [.agg [.int .i64 0, .int .i64 0]]]
      simp only [boxT, List.length_cons, List.length_nil, Nat.zero_add, Nat.reduceAdd, List.cons_append, List.nil_append] at hc hp
      rw [run_unfold fn32 rfl]
      simp only [go_sem, simprocAttr, Try.f32, hc, hp, unwind, modeEx, resultsOf, one]
      exact ⟨_, rfl⟩
    obtain ⟨H', h⟩ := this
    exact ⟨_, _, h, .inl ⟨by decide, rfl⟩⟩
  · have hok := Tab.ok_iff.2 hO
    have hf := fits_call T c
    cases hfc : fitC T.tab c with
    | false =>
      have ha : blkS T.tab c = 61 := by unfold blkS; rw [hok, hcan, hfc]; rfl
      rw [ha]
      have : ∃ H', runT env 32 [T.v, c.v] [] 0 = some (.ret (.tuple [.agg [.int .i64 0, .int .i64 0], .int .i64 61]), H') := by
        simp only [setX, boxT, netB, arcB, cellP88] at hc
        rw [run_unfold fn32 rfl]
        simp only [go_sem, simprocAttr, Try.f32, hc, numbered, hf, hfc, unwind, modeEx, resultsOf, one]
        exact ⟨_, rfl⟩
      obtain ⟨H', h⟩ := this
      exact ⟨_, _, h, .inl ⟨by decide, rfl⟩⟩
    | true =>
      have ha : blkS T.tab c = 0 := by unfold blkS; rw [hok, hcan, hfc]; rfl
      rw [ha]
      obtain ⟨h1, h2⟩ := fitC_iff.1 hfc
      have hR8 := hO.R8
      have hC8 := hO.C8
      have hl := blkL_length T.tab.C c T.tab.R
      have hl2 : T.tab.R * T.tab.C ≤ 8 * 8 := Nat.mul_le_mul hR8 hC8
      obtain ⟨e1, t1, hx1, hp1⟩ := blk_outer hO hc' h1 h2 g f T.tab.R 0 0 _ _ _ _ _ _ _ _ _ _ _ _ _ _ _ _ _ _ _ _ _ _ _ _ _ _ _ _ _ _ _ _ _ _ _ _ _ _ _ _ _ _ _ _ _ _ _ _ _ _ _ _ _ _ _ _ _ (by omega)
      obtain ⟨rfl, gt, jp, rfl⟩ := hp1
      obtain ⟨sz, hsz, hle⟩ := lend_acc (H := blkH T c g f gt (blkL T.tab.C c T.tab.R)) (p := 6) (q := 8) (g := gt) (l := blkL T.tab.C c T.tab.R) rfl
      obtain ⟨lo, hi, he, f', ec⟩ := ends_call (gn := g) (cl := false) (sz := sz) (l := blkL T.tab.C c T.tab.R) (netOk_tab hO) (net_pos hO) hin hci hsz (fun j hj => by
        simp only [blkL, cutRow, List.mem_flatMap, List.mem_map, List.mem_filter, List.mem_range] at hj
        obtain ⟨i, hi, k, ⟨hk, _⟩, rfl⟩ := hj
        have := cell_lt hi hk
        show _ < T.tab.R * T.tab.C + T.tab.R + T.tab.C
        omega) (by omega)
      have hA : NetAt (blkH T c g f gt (blkL T.tab.C c T.tab.R)) 6 5 T.tab.R T.tab.C g T.tab.net.n (arcB g T.tab.net f) := ⟨rfl, rfl, by decide, flat_arcB _ _ _⟩
      have ec := ec hA hle (by simp) 9
      have e0 : blkL T.tab.C c 0 = [] := rfl
      have en : natsV [] = [] := rfl
      simp only [setX, boxT, netB, arcB, cellP88] at hc
      simp only [blkH, boxT, netB, arcB, cellP88] at ec
      simp only [go_sem, simprocAttr, Try.f32, blkH, boxT, netB, arcB, cellP88, e0, en, accB_nil, accG_nil, List.length_nil, Int.natCast_zero, Int.ofNat_zero] at hx1
      have : ∃ H', runT env 32 [T.v, c.v] [] 0 = some (.ret (.tuple [.agg [.int .i64 lo, .int .i64 hi], .int .i64 0]), H') := by
        rw [run_unfold fn32 rfl]
        simp only [go_sem, simprocAttr, Try.f32, hc, numbered, hf, hfc]
        rw [hx1]
        simp only [go_sem, simprocAttr, blkH, boxT, netB, arcB, cellP88, ec, unwind, modeEx, resultsOf, one]
        exact ⟨_, rfl⟩
      obtain ⟨H', h⟩ := this
      exact ⟨_, _, h, .inr ⟨rfl, hO, lo, hi, he, rfl⟩⟩

theorem block_call {T : TabV} (hT : T.Wf) {c : CutA} (hc : c.Wf) : ∃ v, EndsAns T.tab (blkS T.tab c) (blkL T.tab.C c T.tab.R) v ∧ ∀ ro H nx, callT env 32 [T.v, c.v] ro H nx = some (.ret v, .ups []) := by
  obtain ⟨v, H', hr, hv⟩ := block_run hT hc
  exact ⟨v, hv, fun ro H nx => call_pure rfl rfl rfl (tc_pure T c) hr hv.pure.2 ro H nx⟩

set_option maxRecDepth 10000
set_option maxHeartbeats 2000000

theorem EndsAns.zero {t : Tab} {code : Int} {l : List Nat} {v : AVal} (h : EndsAns t code l v) (hc : code = 0) : ∃ lo hi, IsEnds t.net l lo hi ∧ v = .tuple [.agg [.int .i64 lo, .int .i64 hi], .int .i64 0] := by
  rcases h with ⟨h1, _⟩ | ⟨_, _, lo, hi, h2, rfl⟩
  · exact absurd hc h1
  · exact ⟨lo, hi, h2, rfl⟩

theorem blk_ends {T : TabV} (hT : T.Wf) (hO : T.tab.Ok) (hcan : canB T.tab = true) (a b : Int) : ∃ x : Spn, EndsP T.tab (blkM T.tab (bitU a) (bitU b)) x ∧ ∀ ro H nx, callT env 32 [T.v, (bitC T.tab a b).v] ro H nx = some (.ret (.tuple [.agg [.int .i64 x.lo, .int .i64 x.hi], .int .i64 0]), .ups []) := by
  obtain ⟨v, hv, hc⟩ := block_call hT (bitC_wf hO a b)
  have hf : fitC T.tab (bitC T.tab a b) = true := fitC_iff.2 ⟨bitsL_length _ _, bitsL_length _ _⟩
  obtain ⟨lo, hi, he, rfl⟩ := hv.zero (by unfold blkS; rw [Tab.ok_iff.2 hO, hcan, hf]; rfl)
  refine ⟨⟨lo, hi⟩, EndsP.of he fun s => ?_, hc⟩
  rw [brings_blk]
  exact blkM_congr (fun i hi => bitsL_getD hi) (fun k hk => bitsL_getD hk) s

set_option maxRecDepth 10000
set_option maxHeartbeats 4000000

theorem askS_in {t : Tab} {i k : Int} (hok : t.ok = true) (hcan : canB t = true) (h : outB t i k = false) : askS t i k = 0 := by
  unfold askS; rw [hok, hcan, h]; rfl
theorem outB_in {t : Tab} {i k : Nat} (hi : i < t.R) (hk : k < t.C) : outB t i k = false := by
  unfold outB
  rw [decide_eq_false (p := (i : Int) < 0) (by omega), decide_eq_false (p := (t.R : Int) ≤ i) (by omega), decide_eq_false (p := (k : Int) < 0) (by omega), decide_eq_false (p := (t.C : Int) ≤ k) (by omega)]; rfl

theorem total_ends {T : TabV} (hT : T.Wf) (hO : T.tab.Ok) (hcan : canB T.tab = true) : ∃ x : Spn, EndsP T.tab (blkM T.tab (fun _ => true) fun _ => true) x ∧ ∀ ro H nx, callT env 34 [T.v] ro H nx = some (.ret (.tuple [spV x, .int .i64 0]), .ups []) := by
  obtain ⟨v, hv, hc⟩ := total_call hT
  obtain ⟨lo, hi, he, rfl⟩ := hv.zero (askS_in (Tab.ok_iff.2 hO) hcan (outB_in hO.R1 hO.C1))
  exact ⟨⟨lo, hi⟩, EndsP.of he fun s => brings_total _ s, hc⟩
theorem row_ends {T : TabV} (hT : T.Wf) (hO : T.tab.Ok) (hcan : canB T.tab = true) {r : Nat} (hr : r < T.tab.R) : ∃ x : Spn, EndsP T.tab (blkM T.tab (fun i => decide (i = r)) fun _ => true) x ∧ ∀ ro H nx, callT env 28 [T.v, .int .i64 (r : Int)] ro H nx = some (.ret (.tuple [spV x, .int .i64 0]), .ups []) := by
  obtain ⟨v, hv, hc⟩ := rowE_call hT (r : Int)
  obtain ⟨lo, hi, he, rfl⟩ := hv.zero (askS_in (Tab.ok_iff.2 hO) hcan (outB_in hr hO.C1))
  exact ⟨⟨lo, hi⟩, EndsP.of he fun s => by rw [Int.toNat_natCast, brings_row _ _ hr, blkM_row hr], hc⟩
theorem col_ends {T : TabV} (hT : T.Wf) (hO : T.tab.Ok) (hcan : canB T.tab = true) {c : Nat} (hc' : c < T.tab.C) : ∃ x : Spn, EndsP T.tab (blkM T.tab (fun _ => true) fun k => decide (k = c)) x ∧ ∀ ro H nx, callT env 30 [T.v, .int .i64 (c : Int)] ro H nx = some (.ret (.tuple [spV x, .int .i64 0]), .ups []) := by
  obtain ⟨v, hv, hc⟩ := colE_call hT (c : Int)
  obtain ⟨lo, hi, he, rfl⟩ := hv.zero (askS_in (Tab.ok_iff.2 hO) hcan (outB_in (i := 0) hO.R1 hc'))
  exact ⟨⟨lo, hi⟩, EndsP.of he fun s => by rw [Int.toNat_natCast, brings_col _ _ hc', blkM_col hc'], hc⟩
theorem cell_ends {T : TabV} (hT : T.Wf) (hO : T.tab.Ok) (hcan : canB T.tab = true) {r c : Nat} (hr : r < T.tab.R) (hc' : c < T.tab.C) : ∃ x : Spn, EndsP T.tab (blkM T.tab (fun i => decide (i = r)) fun k => decide (k = c)) x ∧ ∀ ro H nx, callT env 26 [T.v, .int .i64 (r : Int), .int .i64 (c : Int)] ro H nx = some (.ret (.tuple [spV x, .int .i64 0]), .ups []) := by
  obtain ⟨v, hv, hc⟩ := cellE_call hT (r : Int) (c : Int)
  obtain ⟨lo, hi, he, rfl⟩ := hv.zero (askS_in (Tab.ok_iff.2 hO) hcan (outB_in hr hc'))
  exact ⟨⟨lo, hi⟩, EndsP.of he fun s => by rw [Int.toNat_natCast, Int.toNat_natCast, brings_cell _ _ hr hc', blkM_cell hr hc'], hc⟩

set_option maxRecDepth 10000
set_option maxHeartbeats 4000000

theorem ren_val (T : TabV) (f : Nat → Option Nat) : T.v.ren f = T.v := (ren_noRef f).1 _ rfl
def intB (n : Int) : Blk := .cells 0 1 true [.int .i64 n]

section
variable {T : TabV} {x : Spn}
theorem q_cell {a b : Int} (hc : ∀ ro H nx, callT env 26 [T.v, .int .i64 a, .int .i64 b] ro H nx = some (.ret (.tuple [spV x, .int .i64 0]), .ups [])) {H : Heap} {p q : Nat} (hp : H[p]? = some (intB a)) (hq : H[q]? = some (intB b)) (hpq : p ≠ q) (nx : Nat) :
    callT env 63 [T.v, .ptr p 0 0 0, .ptr q 0 0 0] 0 H nx = some (.ret (.tuple [spV x, .int .i64 0]), .ups [(p, intB a), (q, intB b)]) := by
  have : ∃ X, runT env 63 [T.v, .ptr 0 0 0 0, .ptr 1 0 0 0] [intB a, intB b] 0 = some (.ret (.tuple [spV x, .int .i64 0]), intB a :: intB b :: X) := by
    rw [run_unfold fn63 rfl]
    simp only [go_sem, simprocAttr, Try.f63, intB, hc, unwind, modeEx, resultsOf, one]
    exact ⟨_, rfl⟩
  obtain ⟨X, hr⟩ := this
  have hp' : H[p]? = some (.cells 0 1 true [.int .i64 a]) := hp
  have hq' : H[q]? = some (.cells 0 1 true [.int .i64 b]) := hq
  have hqp : q ≠ p := Ne.symm hpq
  have hre : reach H fuel0 [p, q] [] = some [p, q] := by
    unfold fuel0
    simp [reach, hp', hq', hqp]
  have h := call_fp (f := 63) (args := [T.v, .ptr p 0 0 0, .ptr q 0 0 0]) (qs := [T.v, .ptr p 0 0 0, .ptr q 0 0 0]) (lent := []) (fp := [p, q]) (bs := [intB a, intB b]) (H := H) (H' := intB a :: intB b :: X) (v := .tuple [spV x, .int .i64 0]) (w := .tuple [spV x, .int .i64 0]) (ro := 0) (nx := nx) rfl rfl rfl
    (by rfl) (by simpa [refsL, AVal.refs, TabV.refs] using hre) (by simp only [getAll, hp, hq]) (by simp)
    (by
      have : renL (idx [p, q]) [T.v, .ptr p 0 0 0, .ptr q 0 0 0] = [T.v, .ptr 0 0 0 0, .ptr 1 0 0 0] := by
        have e1 : idx [p, q] p = some 0 := by simp [idx, List.findIdx?_cons]
        have e2 : idx [p, q] q = some 1 := by simp [idx, List.findIdx?_cons, hpq]
        simp only [renL, AVal.ren, e1, e2, ren_val]
      rw [this]
      exact hr) rfl rfl (.inl rfl)
  rw [h]
  rfl

theorem q_int {f : Nat} (hw : (env.hint f).whole = false) (hka : (env.hint f).keepAll = false) (hk : (env.hint f).keep = []) (hro : (env.hint f).ro = false) (hli : (env.hint f).lits = [0]) {a : Int} {X : Heap}
    (hr : runT env f [T.v, .ptr 0 0 0 0] [intB a] 0 = some (.ret (.tuple [spV x, .int .i64 0]), intB a :: X)) {H : Heap} {p : Nat} (hp : H[p]? = some (intB a)) (nx : Nat) :
    callT env f [T.v, .ptr p 0 0 0] 0 H nx = some (.ret (.tuple [spV x, .int .i64 0]), .ups [(p, intB a)]) := by
  have hp' : H[p]? = some (.cells 0 1 true [.int .i64 a]) := hp
  have hre : reach H fuel0 [p] [] = some [p] := by
    unfold fuel0
    simp [reach, hp']
  have h := call_fp (f := f) (args := [T.v, .ptr p 0 0 0]) (qs := [T.v, .ptr p 0 0 0]) (lent := []) (fp := [p]) (bs := [intB a]) (H := H) (H' := intB a :: X) (v := .tuple [spV x, .int .i64 0]) (w := .tuple [spV x, .int .i64 0]) (ro := 0) (nx := nx) hw hka hk
    (by rw [hli]; rfl) (by simpa [refsL, AVal.refs, TabV.refs] using hre) (by simp only [getAll, hp]) (by rw [hro]; simp)
    (by
      have : renL (idx [p]) [T.v, .ptr p 0 0 0] = [T.v, .ptr 0 0 0 0] := by
        have e1 : idx [p] p = some 0 := by simp [idx, List.findIdx?_cons]
        simp only [renL, AVal.ren, e1, ren_val]
      rw [this, hro]
      exact hr) rfl rfl (.inl rfl)
  rw [h, hro]
  rfl

theorem q_row {a : Int} (hc : ∀ ro H nx, callT env 28 [T.v, .int .i64 a] ro H nx = some (.ret (.tuple [spV x, .int .i64 0]), .ups [])) {H : Heap} {p : Nat} (hp : H[p]? = some (intB a)) (nx : Nat) :
    callT env 64 [T.v, .ptr p 0 0 0] 0 H nx = some (.ret (.tuple [spV x, .int .i64 0]), .ups [(p, intB a)]) := by
  have : ∃ X, runT env 64 [T.v, .ptr 0 0 0 0] [intB a] 0 = some (.ret (.tuple [spV x, .int .i64 0]), intB a :: X) := by
    rw [run_unfold fn64 rfl]
    simp only [go_sem, simprocAttr, Try.f64, intB, hc, unwind, modeEx, resultsOf, one]
    exact ⟨_, rfl⟩
  obtain ⟨X, hr⟩ := this
  exact q_int rfl rfl rfl rfl rfl hr hp nx
theorem q_col {a : Int} (hc : ∀ ro H nx, callT env 30 [T.v, .int .i64 a] ro H nx = some (.ret (.tuple [spV x, .int .i64 0]), .ups [])) {H : Heap} {p : Nat} (hp : H[p]? = some (intB a)) (nx : Nat) :
    callT env 65 [T.v, .ptr p 0 0 0] 0 H nx = some (.ret (.tuple [spV x, .int .i64 0]), .ups [(p, intB a)]) := by
  have : ∃ X, runT env 65 [T.v, .ptr 0 0 0 0] [intB a] 0 = some (.ret (.tuple [spV x, .int .i64 0]), intB a :: X) := by
    rw [run_unfold fn65 rfl]
    simp only [go_sem, simprocAttr, Try.f65, intB, hc, unwind, modeEx, resultsOf, one]
    exact ⟨_, rfl⟩
  obtain ⟨X, hr⟩ := this
  exact q_int rfl rfl rfl rfl rfl hr hp nx
theorem q_all (hc : ∀ ro H nx, callT env 34 [T.v] ro H nx = some (.ret (.tuple [spV x, .int .i64 0]), .ups [])) (ro : Nat) (H : Heap) (nx : Nat) :
    callT env 66 [T.v] ro H nx = some (.ret (.tuple [spV x, .int .i64 0]), .ups []) := by
  have : ∃ X, runT env 66 [T.v] [] 0 = some (.ret (.tuple [spV x, .int .i64 0]), X) := by
    rw [run_unfold fn66 rfl]
    simp only [go_sem, simprocAttr, Try.f66, hc, unwind, modeEx, resultsOf, one]
    exact ⟨_, rfl⟩
  obtain ⟨X, hr⟩ := this
  exact call_pure rfl rfl rfl tv_pure hr rfl ro H nx
theorem q_blk {c : CutA} (hc : ∀ ro H nx, callT env 32 [T.v, c.v] ro H nx = some (.ret (.tuple [spV x, .int .i64 0]), .ups [])) {H : Heap} {p : Nat} (hp : H[p]? = some (.cells 0 2 false [c.v])) (nx : Nat) :
    callT env 67 [T.v, .ptr p 0 0 0] 0 H nx = some (.ret (.tuple [spV x, .int .i64 0]), .ups [(p, .cells 0 2 false [c.v])]) := by
  have : ∃ X, runT env 67 [T.v, .ptr 0 0 0 0] [.cells 0 2 false [c.v]] 0 = some (.ret (.tuple [spV x, .int .i64 0]), .cells 0 2 false [c.v] :: X) := by
    rw [run_unfold fn67 rfl]
    simp only [go_sem, simprocAttr, Try.f67, hc, unwind, modeEx, resultsOf, one]
    exact ⟨_, rfl⟩
  obtain ⟨X, hr⟩ := this
  have hcr : c.v.refs = [] := refs_noRef.1 _ (CutA.under c 0)
  have hre : reach H fuel0 [p] [] = some [p] := by
    unfold fuel0
    simp [reach, hp, refsL, hcr]
  have hcn : ∀ f, c.v.ren f = c.v := fun f => (ren_noRef f).1 _ (CutA.under c 0)
  have h := call_fp (f := 67) (args := [T.v, .ptr p 0 0 0]) (qs := [T.v, .ptr p 0 0 0]) (lent := []) (fp := [p]) (bs := [.cells 0 2 false [c.v]]) (H := H) (H' := .cells 0 2 false [c.v] :: X) (v := .tuple [spV x, .int .i64 0]) (w := .tuple [spV x, .int .i64 0]) (ro := 0) (nx := nx) rfl rfl rfl
    (by rfl) (by simpa [refsL, AVal.refs, TabV.refs] using hre) (by simp only [getAll, hp]) (by simp)
    (by
      have : renL (idx [p]) [T.v, .ptr p 0 0 0] = [T.v, .ptr 0 0 0 0] := by
        have e1 : idx [p] p = some 0 := by simp [idx, List.findIdx?_cons]
        simp only [renL, AVal.ren, e1, ren_val]
      rw [this]
      simp only [List.map_cons, List.map_nil, renB, renL, hcn, Bool.false_eq_true, if_false]
      exact hr) rfl rfl (.inl rfl)
  rw [h]
  show some (CRes.ret _, Out.ups [(p, renB (backF nx [p] []) (.cells 0 2 false [c.v]))]) = _
  simp only [renB, renL, hcn, Bool.false_eq_true, if_false]
end

theorem EndsP.sub {t u : Tab} {μ : (Nat → Nat → Int) → Int} {x y : Spn} (h : EndsP u μ x) (h' : EndsP t μ y) (e : ∀ s, Fits u s → Fits t s) : y.lo ≤ x.lo ∧ x.hi ≤ y.hi := by
  obtain ⟨⟨s1, a1, b1⟩, ⟨s2, a2, b2⟩, _⟩ := h
  have e1 := h'.2.2 s1 (e s1 a1)
  have e2 := h'.2.2 s2 (e s2 a2)
  omega

theorem within_law_call (x y : Spn) (ro : Nat) (H : Heap) (nx : Nat) : callT env 43 [spV x, spV y] ro H nx = some (.ret (.bool (decide (y.lo ≤ x.lo) && decide (x.hi ≤ y.hi))), .ups []) := by
  have : ∃ H', runT env 43 [spV x, spV y] [] 0 = some (.ret (.bool (decide (y.lo ≤ x.lo) && decide (x.hi ≤ y.hi))), H') := by
    rw [run_unfold fn43 rfl]
    cases h1 : decide (y.lo ≤ x.lo) <;> cases h2 : decide (x.hi ≤ y.hi) <;>
      (simp only [go_sem, simprocAttr, Try.f43, h1, h2, unwind, modeEx, resultsOf, one, Bool.and_true, Bool.and_false]
       exact ⟨_, rfl⟩)
  obtain ⟨H', h⟩ := this
  exact call_pure rfl rfl rfl rfl h rfl ro H nx

set_option maxRecDepth 10000
set_option maxHeartbeats 4000000

set_option maxRecDepth 10000
set_option maxHeartbeats 4000000

set_option maxRecDepth 10000
set_option maxHeartbeats 4000000

set_option maxRecDepth 10000
set_option maxHeartbeats 4000000

end Go.Proofs.Ytgfejpngfikjiaa.Tidy

