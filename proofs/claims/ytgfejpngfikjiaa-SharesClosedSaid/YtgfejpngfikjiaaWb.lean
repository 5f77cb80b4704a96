/-
  What the functions that SharesClosed reaches compute; the law, run.
-/
import Derived.Test.YtgfejpngfikjiaaWa
import Derived.Test.YtgfejpngfikjiaaCf
import Derived.Test.YtgfejpngfikjiaaCe
set_option linter.all false
namespace Go.Proofs.Ytgfejpngfikjiaa.Tidy
open Go Go.IntWalk
set_option maxRecDepth 10000
set_option linter.unusedSimpArgs false
set_option maxHeartbeats 2000000

set_option maxRecDepth 10000
set_option maxHeartbeats 4000000

structure Least (t : Tab) (r c : Nat) (v : Int) : Prop where
  at_ : ∃ s, Fits t s ∧ s r c = v
  all : ∀ s, Fits t s → v ≤ s r c
structure Great (t : Tab) (r c : Nat) (v : Int) : Prop where
  at_ : ∃ s, Fits t s ∧ s r c = v
  all : ∀ s, Fits t s → s r c ≤ v

set_option maxRecDepth 10000
set_option maxHeartbeats 4000000

theorem Least.range {t : Tab} {r c : Nat} (hr : r < t.R) (hc : c < t.C) {v : Int} (h : Least t r c v) : (t.cell r c).lo ≤ v ∧ v ≤ (t.cell r c).hi := by
  obtain ⟨s, hs, rfl⟩ := h.at_
  exact hs.cell r c hr hc
theorem Great.range {t : Tab} {r c : Nat} (hr : r < t.R) (hc : c < t.C) {v : Int} (h : Great t r c v) : (t.cell r c).lo ≤ v ∧ v ≤ (t.cell r c).hi := by
  obtain ⟨s, hs, rfl⟩ := h.at_
  exact hs.cell r c hr hc

set_option maxRecDepth 10000
set_option maxHeartbeats 4000000

def Tab.setRow (t : Tab) (i : Nat) (x : Spn) : Tab := ⟨t.rows.set i x, t.cols, t.cells⟩
theorem setRow_R (t : Tab) (i : Nat) (x : Spn) : (t.setRow i x).R = t.R := List.length_set
theorem setRow_C (t : Tab) (i : Nat) (x : Spn) : (t.setRow i x).C = t.C := rfl

theorem setRow_row {t : Tab} {i : Nat} (x : Spn) (hi : i < t.R) (j : Nat) : (t.setRow i x).row j = if j = i then x else t.row j := by
  unfold Tab.row Tab.setRow
  simp only
  by_cases h : j = i
  · subst h
    rw [if_pos rfl, List.getD_eq_getElem?_getD, List.getElem?_set_self hi]; rfl
  · rw [if_neg h, List.getD_eq_getElem?_getD, List.getElem?_set_ne (Ne.symm h), ← List.getD_eq_getElem?_getD]

theorem TbAt.writeRow {H : Heap} {a b q ga gb g : Nat} {ps : Nat → Nat} {t : Tab} (h : TbAt H a b q ga gb g ps t) (i : Nat) (x : Spn) :
    TbAt (H.set a (.cells ga 2 true ((t.rows.map spV).set i (spV x)))) a b q ga gb g ps (t.setRow i x) := by
  obtain ⟨l1, l2, l3, l4⟩ := h.lt
  have e := setRow_R t i x
  refine ⟨?_, ?_, ?_, fun j hj => ?_, h.ab, h.aq, h.bq, by rw [e]; exact h.pa, by rw [e]; exact h.pp⟩
  · rw [List.getElem?_set_self l1]
    show _ = some (Blk.cells ga 2 true ((t.rows.set i x).map spV))
    rw [List.map_set]
  · rw [List.getElem?_set_ne h.ab]; exact h.cols
  · rw [List.getElem?_set_ne h.aq, e]; exact h.acc
  · rw [e] at hj
    rw [List.getElem?_set_ne (h.pa j hj).1.symm]; exact h.row j hj

structure LeastF (t : Tab) (φ : (Nat → Nat → Int) → Int) (v : Int) : Prop where
  at_ : ∃ s, Fits t s ∧ φ s = v
  all : ∀ s, Fits t s → v ≤ φ s
structure GreatF (t : Tab) (φ : (Nat → Nat → Int) → Int) (v : Int) : Prop where
  at_ : ∃ s, Fits t s ∧ φ s = v
  all : ∀ s, Fits t s → φ s ≤ v
def rowF (t : Tab) (r : Nat) (s : Nat → Nat → Int) : Int := sumN t.C (s r)

set_option maxRecDepth 10000
set_option maxHeartbeats 4000000

theorem LeastF.range {t : Tab} {r : Nat} (hr : r < t.R) {v : Int} (h : LeastF t (rowF t r) v) : (t.row r).lo ≤ v ∧ v ≤ (t.row r).hi := by
  obtain ⟨s, hs, rfl⟩ := h.at_
  exact hs.row r hr
theorem GreatF.range {t : Tab} {r : Nat} (hr : r < t.R) {v : Int} (h : GreatF t (rowF t r) v) : (t.row r).lo ≤ v ∧ v ≤ (t.row r).hi := by
  obtain ⟨s, hs, rfl⟩ := h.at_
  exact hs.row r hr

set_option maxRecDepth 10000
set_option maxHeartbeats 4000000

set_option maxRecDepth 10000
set_option maxHeartbeats 4000000

section
variable {A : Heap} {x y : AVal} {r0 : RowD} {rs : List RowD}
end

set_option maxRecDepth 10000
set_option maxHeartbeats 2000000

end Go.Proofs.Ytgfejpngfikjiaa.Tidy

namespace Go.Proofs.Ytgfejpngfikjiaa.Tidy
open Go

def EndsP (t : Tab) (μ : (Nat → Nat → Int) → Int) (x : Spn) : Prop := (∃ s, Fits t s ∧ μ s = x.lo) ∧ (∃ s, Fits t s ∧ μ s = x.hi) ∧ ∀ s, Fits t s → x.lo ≤ μ s ∧ μ s ≤ x.hi

theorem EndsP.of {t : Tab} {l : List Nat} {lo hi : Int} (h : IsEnds t.net l lo hi) {μ : (Nat → Nat → Int) → Int} (e : ∀ s, t.brings l s = μ s) : EndsP t μ ⟨lo, hi⟩ := by
  obtain ⟨⟨s1, h1, e1⟩, ⟨s2, h2, e2⟩, h3⟩ := isEnds_iff.1 h
  exact ⟨⟨s1, h1, by rw [← e, e1]⟩, ⟨s2, h2, by rw [← e, e2]⟩, fun s hs => by rw [← e]; exact h3 s hs⟩

theorem EndsP.unique {t : Tab} {μ ν : (Nat → Nat → Int) → Int} {x y : Spn} (h : EndsP t μ x) (h' : EndsP t ν y) (e : ∀ s, Fits t s → μ s = ν s) : x = y := by
  obtain ⟨⟨s1, a1, b1⟩, ⟨s2, a2, b2⟩, c⟩ := h
  obtain ⟨⟨s3, a3, b3⟩, ⟨s4, a4, b4⟩, c'⟩ := h'
  have e1 := c' s1 a1
  have e2 := c' s2 a2
  have e3 := c s3 a3
  have e4 := c s4 a4
  rw [← e _ a1] at e1
  rw [← e _ a2] at e2
  rw [e _ a3] at e3
  rw [e _ a4] at e4
  have q1 : x.lo = y.lo := by omega
  have q2 : x.hi = y.hi := by omega
  cases x; cases y
  simp only at q1 q2
  rw [q1, q2]

theorem EndsP.le {t : Tab} {μ : (Nat → Nat → Int) → Int} {x : Spn} (h : EndsP t μ x) : x.lo ≤ x.hi := by
  obtain ⟨⟨s1, a1, b1⟩, _, c⟩ := h
  have := c s1 a1
  omega

def blkM (t : Tab) (p q : Nat → Bool) (x : Nat → Nat → Int) : Int := sumN t.R fun i => sumN t.C fun k => if p i && q k then x i k else 0

theorem blkM_row {t : Tab} {r : Nat} (hr : r < t.R) (x : Nat → Nat → Int) : blkM t (fun i => decide (i = r)) (fun _ => true) x = sumN t.C (x r) := by
  unfold blkM
  rw [← sumN_one hr (sumN t.C (x r))]
  refine sumN_congr fun i _ => ?_
  by_cases h : i = r
  · subst h; simp
  · simp only [h, decide_false, Bool.false_and, Bool.false_eq_true, if_false]
    exact sumN_zero fun _ _ => rfl
theorem blkM_col {t : Tab} {c : Nat} (hc : c < t.C) (x : Nat → Nat → Int) : blkM t (fun _ => true) (fun k => decide (k = c)) x = sumN t.R fun i => x i c := by
  unfold blkM
  refine sumN_congr fun i _ => ?_
  rw [← sumN_one hc (x i c)]
  refine sumN_congr fun k _ => ?_
  by_cases h : k = c
  · subst h; simp
  · simp [h]
theorem blkM_cell {t : Tab} {r c : Nat} (hr : r < t.R) (hc : c < t.C) (x : Nat → Nat → Int) : blkM t (fun i => decide (i = r)) (fun k => decide (k = c)) x = x r c := by
  unfold blkM
  rw [← sumN_one hr (x r c)]
  refine sumN_congr fun i _ => ?_
  by_cases h : i = r
  · subst h
    rw [if_pos rfl, ← sumN_one hc (x i c)]
    refine sumN_congr fun k _ => ?_
    by_cases h2 : k = c
    · subst h2; simp
    · simp [h2]
  · simp only [h, decide_false, Bool.false_and, Bool.false_eq_true, if_false]
    exact sumN_zero fun _ _ => rfl
end Go.Proofs.Ytgfejpngfikjiaa.Tidy

namespace Go.Proofs.Ytgfejpngfikjiaa.Tidy
open Go Go.IntWalk
set_option maxRecDepth 10000
set_option linter.unusedSimpArgs false
set_option maxHeartbeats 2000000

set_option maxRecDepth 10000
set_option maxHeartbeats 2000000

theorem EndsAns.zero {t : Tab} {code : Int} {l : List Nat} {v : AVal} (h : EndsAns t code l v) (hc : code = 0) : ∃ lo hi, IsEnds t.net l lo hi ∧ v = .tuple [.agg [.int .i64 lo, .int .i64 hi], .int .i64 0] := by
  rcases h with ⟨h1, _⟩ | ⟨_, _, lo, hi, h2, rfl⟩
  · exact absurd hc h1
  · exact ⟨lo, hi, h2, rfl⟩

theorem blkM_bd {t : Tab} (hO : t.Ok) {s : Nat → Nat → Int} (h : Fits t s) (p q : Nat → Bool) : 0 ≤ blkM t p q s ∧ blkM t p q s ≤ 2 ^ 36 := by
  have hR8 := hO.R8
  have hC8 := hO.C8
  have h1 : ∀ i, i < t.R → 0 ≤ (sumN t.C fun k => if p i && q k then s i k else 0) ∧ (sumN t.C fun k => if p i && q k then s i k else 0) ≤ 2 ^ 33 := fun i hi => by
    have := sumN_bd (n := t.C) (f := fun k => if p i && q k then s i k else 0) (B := 2 ^ 30) fun k hk => by
      have h2 := h.cell i k hi hk
      have h3 := hO.cell_ok hi hk
      cases p i && q k <;> simp <;> omega
    omega
  have := sumN_bd (n := t.R) (f := fun i => sumN t.C fun k => if p i && q k then s i k else 0) (B := 2 ^ 33) h1
  unfold blkM
  omega

theorem EndsP.bd {t : Tab} (hO : t.Ok) {p q : Nat → Bool} {x : Spn} (h : EndsP t (blkM t p q) x) : (0 ≤ x.lo ∧ x.lo ≤ 2 ^ 36) ∧ 0 ≤ x.hi ∧ x.hi ≤ 2 ^ 36 := by
  obtain ⟨⟨s1, a1, b1⟩, ⟨s2, a2, b2⟩, _⟩ := h
  have c1 := blkM_bd hO a1 p q
  have c2 := blkM_bd hO a2 p q
  omega

set_option maxRecDepth 10000
set_option maxHeartbeats 4000000

theorem askS_in {t : Tab} {i k : Int} (hok : t.ok = true) (hcan : canB t = true) (h : outB t i k = false) : askS t i k = 0 := by
  unfold askS; rw [hok, hcan, h]; rfl
theorem outB_in {t : Tab} {i k : Nat} (hi : i < t.R) (hk : k < t.C) : outB t i k = false := by
  unfold outB
  rw [decide_eq_false (p := (i : Int) < 0) (by omega), decide_eq_false (p := (t.R : Int) ≤ i) (by omega), decide_eq_false (p := (k : Int) < 0) (by omega), decide_eq_false (p := (t.C : Int) ≤ k) (by omega)]; rfl

theorem row_ends {T : TabV} (hT : T.Wf) (hO : T.tab.Ok) (hcan : canB T.tab = true) {r : Nat} (hr : r < T.tab.R) : ∃ x : Spn, EndsP T.tab (blkM T.tab (fun i => decide (i = r)) fun _ => true) x ∧ ∀ ro H nx, callT env 28 [T.v, .int .i64 (r : Int)] ro H nx = some (.ret (.tuple [spV x, .int .i64 0]), .ups []) := by
  obtain ⟨v, hv, hc⟩ := rowE_call hT (r : Int)
  obtain ⟨lo, hi, he, rfl⟩ := hv.zero (askS_in (Tab.ok_iff.2 hO) hcan (outB_in hr hO.C1))
  exact ⟨⟨lo, hi⟩, EndsP.of he fun s => by rw [Int.toNat_natCast, brings_row _ _ hr, blkM_row hr], hc⟩
theorem col_ends {T : TabV} (hT : T.Wf) (hO : T.tab.Ok) (hcan : canB T.tab = true) {c : Nat} (hc' : c < T.tab.C) : ∃ x : Spn, EndsP T.tab (blkM T.tab (fun _ => true) fun k => decide (k = c)) x ∧ ∀ ro H nx, callT env 30 [T.v, .int .i64 (c : Int)] ro H nx = some (.ret (.tuple [spV x, .int .i64 0]), .ups []) := by
  obtain ⟨v, hv, hc⟩ := colE_call hT (c : Int)
  obtain ⟨lo, hi, he, rfl⟩ := hv.zero (askS_in (Tab.ok_iff.2 hO) hcan (outB_in (i := 0) hO.R1 hc'))
  exact ⟨⟨lo, hi⟩, EndsP.of he fun s => by rw [Int.toNat_natCast, brings_col _ _ hc', blkM_col hc'], hc⟩
theorem cell_ends {T : TabV} (hT : T.Wf) (hO : T.tab.Ok) (hcan : canB T.tab = true) {r c : Nat} (hr : r < T.tab.R) (hc' : c < T.tab.C) : ∃ x : Spn, EndsP T.tab (blkM T.tab (fun i => decide (i = r)) fun k => decide (k = c)) x ∧ ∀ ro H nx, callT env 26 [T.v, .int .i64 (r : Int), .int .i64 (c : Int)] ro H nx = some (.ret (.tuple [spV x, .int .i64 0]), .ups []) := by
  obtain ⟨v, hv, hc⟩ := cellE_call hT (r : Int) (c : Int)
  obtain ⟨lo, hi, he, rfl⟩ := hv.zero (askS_in (Tab.ok_iff.2 hO) hcan (outB_in hr hc'))
  exact ⟨⟨lo, hi⟩, EndsP.of he fun s => by rw [Int.toNat_natCast, Int.toNat_natCast, brings_cell _ _ hr hc', blkM_cell hr hc'], hc⟩

set_option maxRecDepth 10000
set_option maxHeartbeats 4000000

theorem ends_run2 {R C gn : Nat} {G : Net} (h : NetOk G R C) (hn : 0 < G.n) {f : Nat → Int} (hf : G.In f) (hc : G.Circ f) {cl : Bool} {sz : Nat} {l : List Nat} (hsz : l = [] ∨ sz = 1) (hl : ∀ j ∈ l, j < G.n) (hlen : l.length < 2 ^ 30) :
    ∃ lo hi, EndsOf G l lo hi ∧ ∃ (f' : Nat → Int), G.In f' ∧ G.Circ f' ∧ ∃ X : Heap, runT env 82 [.ptr 0 0 0 0, .lit cl sz (natsV l)] [netB R C 1 gn G.n, arcB gn G f] 0 = some (.ret (.agg [.int .i64 lo, .int .i64 hi]), netB R C 1 gn G.n :: arcB gn G f' :: X) := by
  have hn8 := h.n
  have N0 : (0 : Int) ≤ (G.n : Int) := by omega
  have m1 : G.n * 9 ≤ maxBytes := by unfold maxBytes; omega
  have r1 : List.replicate G.n (AVal.int .i64 0) = intsV G.n (pickG []) := by
    rw [vecA_replicate]
    exact vecA_congr fun i _ => by unfold pickG; simp
  have p1 : ∀ j, j < G.n → -1 ≤ pickG l j ∧ pickG l j ≤ 1 := fun j _ => by unfold pickG; split <;> omega
  have p2 : ∀ j, j < G.n → -1 ≤ -(pickG l j) ∧ -(pickG l j) ≤ 1 := fun j hj => by have := p1 j hj; omega
  obtain ⟨f1, hm1, gc1⟩ := great_call (gn := gn) h hn p1 hf hc
  obtain ⟨f2, hm2, gc2⟩ := great_call (gn := gn) h hn p2 hm1.1 hm1.2.1
  have g1 := gc1 (H := endsH R C gn G f (pickG l)) (p := 0) (a := 1) (q := 3) (gq := 0) ⟨rfl, rfl, by decide, flat_arcB _ _ _⟩ rfl (by decide) (by decide) 4
  have g2 := gc2 (H := endsH R C gn G f1 fun j => -(pickG l j)) (p := 0) (a := 1) (q := 3) (gq := 0) ⟨rfl, rfl, by decide, flat_arcB _ _ _⟩ rfl (by decide) (by decide) 4
  have bd : -(G.n * 2 ^ 30 : Int) ≤ brings G (fun j => -(pickG l j)) f2 ∧ brings G (fun j => -(pickG l j)) f2 ≤ G.n * 2 ^ 30 := brings_bd (g := fun j => -(pickG l j)) (net_small h hm2.1 p2).f p2 G.n (Nat.le_refl _)
  have w1 : IntKind.i64.wrap (0 - brings G (fun j => -(pickG l j)) f2) = -(brings G (fun j => -(pickG l j)) f2) := by
    rw [i64_in _ (by omega)]; omega
  refine ⟨-(brings G (fun j => -(pickG l j)) f2), brings G (pickG l) f1, ⟨⟨f1, hm1, rfl⟩, f2, hm2, rfl⟩, f2, hm2.1, hm2.2.1, ?_⟩
  obtain ⟨e1, t1, hx1, hp1⟩ := ends_first (R := R) (C := C) (gn := gn) (G := G) (f := f) (cl := cl) hsz hl hlen l.length 0 _ _ _ _ _ _ _ _ _ _ _ _ _ _ _ _ _ _ _ _ _ _ _ _ _ _ _ _ _ _ _ _ _ _ _ _ _ _ _ (by omega)
  obtain ⟨rfl, jp, rfl⟩ := hp1
  obtain ⟨e2, t2, hx2, hp2⟩ := ends_second (R := R) (C := C) (gn := gn) (G := G) (f := f1) (cl := cl) hsz hl hlen (brings G (pickG l) f1) l.length 0 _ _ _ _ _ _ _ _ _ _ _ _ _ _ _ _ _ _ _ _ _ _ _ _ _ _ _ _ _ _ _ _ _ _ _ _ _ _ _ (by omega)
  obtain ⟨rfl, jq, rfl⟩ := hp2
  have m0 : mark2 l 0 = pickG l := by funext j; unfold mark2; simp
  simp only [endsH, netB, arcB] at g1 g2
  simp only [go_sem, simprocAttr, Try.f82, endsH, netB, arcB, List.take_zero, Int.natCast_zero, Int.ofNat_zero] at hx1
  simp only [go_sem, simprocAttr, Try.f82, endsH, netB, arcB, m0, Int.natCast_zero, Int.ofNat_zero] at hx2
  rw [run_unfold fn82 rfl]
  simp only [go_sem, simprocAttr, Try.f82, netB, arcB, N0, m1, arcsV_length, Int.toNat_natCast, r1]
  rw [hx1]
  simp only [go_sem, simprocAttr, endsH, netB, arcB, g1]
  rw [hx2]
  simp only [go_sem, simprocAttr, endsH, netB, arcB, g2, w1, unwind, modeEx, resultsOf, one]
  exact ⟨_, rfl⟩

theorem ends_call2 {R C gn : Nat} {G : Net} (h : NetOk G R C) (hn : 0 < G.n) {f : Nat → Int} (hf : G.In f) (hc : G.Circ f) {cl : Bool} {sz : Nat} {l : List Nat} (hsz : l = [] ∨ sz = 1) (hl : ∀ j ∈ l, j < G.n) (hlen : l.length < 2 ^ 30) :
    ∃ lo hi, IsEnds G l lo hi ∧ ∃ (f' : Nat → Int), G.In f' ∧ G.Circ f' ∧ ∀ {H : Heap} {p a : Nat} {v : AVal} {lent : List Nat}, NetAt H p a R C gn G.n (arcB gn G f) → lend H [1] [.ptr p 0 0 0, v] 0 = some ([.ptr p 0 0 0, .lit cl sz (natsV l)], lent) → p ∉ lent ∧ a ∉ lent → ∀ nx,
      callT env 82 [.ptr p 0 0 0, v] 0 H nx = some (.ret (.agg [.int .i64 lo, .int .i64 hi]), .ups [(p, netB R C a gn G.n), (a, arcB gn G f')]) := by
  obtain ⟨lo, hi, he, f', i1, i2, X, hr⟩ := ends_run2 (gn := gn) (cl := cl) h hn hf hc hsz hl hlen
  refine ⟨lo, hi, he.is, f', i1, i2, fun {H p a v lent} hA hle hne nx => ?_⟩
  have hu : underL 0 [AVal.lit cl sz (natsV l)] = true := by
    have : ∀ l : List Nat, underL 0 (natsV l) = true := by
      intro l
      induction l with
      | nil => rfl
      | cons x l ih => show (AVal.under 0 _ && underL 0 (natsV l)) = true; rw [ih]; rfl
    simp [underL, AVal.under, this]
  exact call_netw (X := X) (v := .agg [.int .i64 lo, .int .i64 hi]) (lent := lent) rfl rfl rfl rfl hA hle hu hne hr (fun _ => rfl) rfl rfl (.inr ⟨rfl, litFree_arcB _ _ _⟩)


def Tab.setCol (t : Tab) (i : Nat) (x : Spn) : Tab := ⟨t.rows, t.cols.set i x, t.cells⟩
theorem setCol_C (t : Tab) (i : Nat) (x : Spn) : (t.setCol i x).C = t.C := List.length_set
theorem setCol_col {t : Tab} {i : Nat} (x : Spn) (hi : i < t.C) (j : Nat) : (t.setCol i x).col j = if j = i then x else t.col j := by
  unfold Tab.col Tab.setCol
  simp only
  by_cases h : j = i
  · subst h
    rw [if_pos rfl, List.getD_eq_getElem?_getD, List.getElem?_set_self hi]; rfl
  · rw [if_neg h, List.getD_eq_getElem?_getD, List.getElem?_set_ne (Ne.symm h), ← List.getD_eq_getElem?_getD]

theorem TbAt.writeCol {H : Heap} {a b q ga gb g : Nat} {ps : Nat → Nat} {t : Tab} (h : TbAt H a b q ga gb g ps t) (i : Nat) (x : Spn) :
    TbAt (H.set b (.cells gb 2 true ((t.cols.map spV).set i (spV x)))) a b q ga gb g ps (t.setCol i x) := by
  obtain ⟨l1, l2, l3, l4⟩ := h.lt
  have e := setCol_C t i x
  refine ⟨?_, ?_, ?_, fun j hj => ?_, h.ab, h.aq, h.bq, h.pa, h.pp⟩
  · rw [List.getElem?_set_ne h.ab.symm]; exact h.rows
  · rw [List.getElem?_set_self l2]
    show _ = some (Blk.cells gb 2 true ((t.cols.set i x).map spV))
    rw [List.map_set]
  · rw [List.getElem?_set_ne h.bq, e]; exact h.acc
  · rw [List.getElem?_set_ne (h.pa j hj).2.1.symm]; exact h.row j hj

structure Clo (t t' : Tab) (P : Nat → Prop) (Q : Nat → Nat → Prop) (S : Nat → Prop) : Prop where
  R : t'.R = t.R
  C : t'.C = t.C
  len : t'.cells.length = t.R
  wid : ∀ l ∈ t'.cells, l.length = t.C
  row : ∀ i, i < t.R → P i → EndsP t (rowF t i) (t'.row i)
  cell : ∀ i k, i < t.R → k < t.C → Q i k → EndsP t (fun s => s i k) (t'.cell i k)
  col : ∀ k, k < t.C → S k → EndsP t (fun s => sumN t.R fun i => s i k) (t'.col k)

theorem Clo.start {t : Tab} (hO : t.Ok) : Clo t t (fun _ => False) (fun _ _ => False) fun _ => False :=
  ⟨rfl, rfl, hO.len, hO.wid, fun _ _ h => h.elim, fun _ _ _ _ h => h.elim, fun _ _ h => h.elim⟩
theorem Clo.mono {t t' : Tab} {P P' : Nat → Prop} {Q Q' : Nat → Nat → Prop} {S S' : Nat → Prop} (h : Clo t t' P Q S) (h1 : ∀ i, P' i → P i) (h2 : ∀ i k, k < t.C → Q' i k → Q i k) (h3 : ∀ k, S' k → S k) : Clo t t' P' Q' S' :=
  ⟨h.R, h.C, h.len, h.wid, fun i a b => h.row i a (h1 i b), fun i k a b c => h.cell i k a b (h2 i k b c), fun k a b => h.col k a (h3 k b)⟩

theorem Clo.setRow {t t' : Tab} {P : Nat → Prop} {Q : Nat → Nat → Prop} {S : Nat → Prop} (h : Clo t t' P Q S) {i : Nat} (hi : i < t.R) {x : Spn} (hx : EndsP t (rowF t i) x) : Clo t (t'.setRow i x) (fun j => P j ∨ j = i) Q S where
  R := by rw [setRow_R]; exact h.R
  C := h.C
  len := h.len
  wid := h.wid
  row j hj hp := by
    rw [setRow_row x (by rw [h.R]; exact hi)]
    by_cases e : j = i
    · subst e; rw [if_pos rfl]; exact hx
    · rw [if_neg e]; exact h.row j hj (hp.resolve_right e)
  cell := h.cell
  col := h.col
theorem Clo.setCol {t t' : Tab} {P : Nat → Prop} {Q : Nat → Nat → Prop} {S : Nat → Prop} (h : Clo t t' P Q S) {i : Nat} (hi : i < t.C) {x : Spn} (hx : EndsP t (fun s => sumN t.R fun j => s j i) x) : Clo t (t'.setCol i x) P Q fun j => S j ∨ j = i where
  R := h.R
  C := by rw [setCol_C]; exact h.C
  len := h.len
  wid := h.wid
  row := h.row
  cell := h.cell
  col j hj hp := by
    rw [setCol_col x (by rw [h.C]; exact hi)]
    by_cases e : j = i
    · subst e; rw [if_pos rfl]; exact hx
    · rw [if_neg e]; exact h.col j hj (hp.resolve_right e)

theorem setCell_len (t : Tab) (i k : Nat) (x : Spn) : (t.setCell i k x).cells.length = t.cells.length := List.length_set
theorem setCell_wid {t : Tab} {n : Nat} (hw : ∀ l ∈ t.cells, l.length = n) {i k : Nat} (hi : i < t.cells.length) (x : Spn) : ∀ l ∈ (t.setCell i k x).cells, l.length = n := fun l hl => by
  rcases List.mem_or_eq_of_mem_set hl with h | rfl
  · exact hw l h
  · rw [List.length_set]
    exact hw _ (getD_mem hi _)
theorem setCell_cell' {t : Tab} {n : Nat} (hw : ∀ l ∈ t.cells, l.length = n) {i k : Nat} (hi : i < t.cells.length) (hk : k < n) (x : Spn) (i' k' : Nat) : (t.setCell i k x).cell i' k' = if i' = i ∧ k' = k then x else t.cell i' k' := by
  have hwi := hw _ (getD_mem hi [])
  unfold Tab.cell Tab.setCell
  simp only
  by_cases e : i' = i
  · subst e
    rw [List.getD_eq_getElem?_getD (l := t.cells.set _ _), List.getElem?_set_self hi, Option.getD_some]
    by_cases e' : k' = k
    · subst e'
      rw [if_pos ⟨rfl, rfl⟩, List.getD_eq_getElem?_getD, List.getElem?_set_self (by omega)]; rfl
    · rw [if_neg (fun h => e' h.2), List.getD_eq_getElem?_getD, List.getElem?_set_ne (Ne.symm e'), ← List.getD_eq_getElem?_getD]
  · rw [if_neg (fun h => e h.1), List.getD_eq_getElem?_getD (l := t.cells.set _ _), List.getElem?_set_ne (Ne.symm e), ← List.getD_eq_getElem?_getD]

theorem Clo.setCell {t t' : Tab} {P : Nat → Prop} {Q : Nat → Nat → Prop} {S : Nat → Prop} (h : Clo t t' P Q S) {i k : Nat} (hi : i < t.R) (hk : k < t.C) {x : Spn} (hx : EndsP t (fun s => s i k) x) : Clo t (t'.setCell i k x) P (fun a b => Q a b ∨ (a = i ∧ b = k)) S where
  R := h.R
  C := h.C
  len := by rw [setCell_len]; exact h.len
  wid := setCell_wid h.wid (by rw [h.len]; exact hi) x
  row := h.row
  cell a b ha hb hq := by
    rw [setCell_cell' h.wid (by rw [h.len]; exact hi) hk]
    by_cases e : a = i ∧ b = k
    · obtain ⟨rfl, rfl⟩ := e; rw [if_pos ⟨rfl, rfl⟩]; exact hx
    · rw [if_neg e]; exact h.cell a b ha hb (hq.resolve_right e)
  col := h.col

def ClosedT (t t' : Tab) : Prop := Clo t t' (fun _ => True) (fun _ _ => True) fun _ => True

theorem tab_ext {t t' : Tab} (hR : t'.R = t.R) (hC : t'.C = t.C) {n : Nat} (l1 : t.cells.length = n) (l2 : t'.cells.length = n) {m : Nat} (w1 : ∀ l ∈ t.cells, l.length = m) (w2 : ∀ l ∈ t'.cells, l.length = m)
    (er : ∀ i, i < t.R → t'.row i = t.row i) (ec : ∀ k, k < t.C → t'.col k = t.col k) (ex : ∀ i k, i < n → k < m → t'.cell i k = t.cell i k) : t' = t := by
  have gd : ∀ {l l' : List Spn}, l'.length = l.length → (∀ i, i < l.length → l'.getD i sp0 = l.getD i sp0) → l' = l := by
    intro l l' h e
    apply List.ext_getElem h
    intro i h1 h2
    have := e i h2
    rwa [List.getD_eq_getElem?_getD, List.getD_eq_getElem?_getD, List.getElem?_eq_getElem h1, List.getElem?_eq_getElem h2] at this
  have e1 : t'.rows = t.rows := gd hR er
  have e2 : t'.cols = t.cols := gd hC ec
  have e3 : t'.cells = t.cells := by
    apply List.ext_getElem (by rw [l1, l2])
    intro i h1 h2
    have a1 := w2 _ (List.getElem_mem h1)
    have a2 := w1 _ (List.getElem_mem h2)
    refine gd (by rw [a1, a2]) fun k hk => ?_
    have := ex i k (by omega) (by omega)
    unfold Tab.cell at this
    rwa [List.getD_eq_getElem?_getD (l := t'.cells), List.getD_eq_getElem?_getD (l := t.cells), List.getElem?_eq_getElem h1, List.getElem?_eq_getElem h2] at this
  cases t; cases t'
  simp only at e1 e2 e3
  rw [e1, e2, e3]

theorem ClosedT.unique {t a b : Tab} (ha : ClosedT t a) (hb : ClosedT t b) : b = a := by
  refine tab_ext (hb.R.trans ha.R.symm) (hb.C.trans ha.C.symm) ha.len hb.len ha.wid hb.wid (fun i hi => ?_) (fun k hk => ?_) fun i k hi hk => ?_
  · rw [ha.R] at hi
    exact (hb.row i hi trivial).unique (ha.row i hi trivial) fun _ _ => rfl
  · rw [ha.C] at hk
    exact (hb.col k hk trivial).unique (ha.col k hk trivial) fun _ _ => rfl
  · exact (hb.cell i k hi hk trivial).unique (ha.cell i k hi hk trivial) fun _ _ => rfl

set_option maxRecDepth 10000
set_option maxHeartbeats 4000000

set_option maxRecDepth 10000
set_option maxHeartbeats 4000000

theorem hb_tab {H : Heap} {t : Tab} {p1 g1 p2 g2 q g n : Nat} {es : List AVal} (h1 : H[p1]? = some (.cells g1 2 true (t.rows.map spV))) (h2 : H[p2]? = some (.cells g2 2 true (t.cols.map spV))) (h3 : H[q]? = some (.cells g 1 false es))
    (hes : mapO (toLit (fun j => decide (0 ≤ j) && !([] : List Nat).contains j) H 7) es = some (t.cells.map fun l => .lit false 2 (l.map spV))) (hl : es.length = t.R) :
    handBack H 0 [] (n + 1 + 1) (.agg [.ref p1 g1 0 t.R false, .ref p2 g2 0 t.C false, .ref q g 0 t.R false]) = some (canon t).v := by
  have t1 : (t.rows.map spV).take t.R = t.rows.map spV := List.take_of_length_le (by rw [List.length_map]; exact Nat.le_refl _)
  have t2 : (t.cols.map spV).take t.C = t.cols.map spV := List.take_of_length_le (by rw [List.length_map]; exact Nat.le_refl _)
  have t3 : es.take t.R = es := List.take_of_length_le (by omega)
  have lr : t.rows.length = t.R := rfl
  have lc : t.cols.length = t.C := rfl
  have e1 : toLit (fun j => decide (0 ≤ j) && !([] : List Nat).contains j) H 8 (.ref p1 g1 0 t.R false) = some (.lit false 2 (t.rows.map spV)) := by
    simp [toLit, noRef, AVal.under, h1, t1, lr]
  have e2 : toLit (fun j => decide (0 ≤ j) && !([] : List Nat).contains j) H 8 (.ref p2 g2 0 t.C false) = some (.lit false 2 (t.cols.map spV)) := by
    simp [toLit, noRef, AVal.under, h2, t2, lc]
  have e3 : toLit (fun j => decide (0 ≤ j) && !([] : List Nat).contains j) H 8 (.ref q g 0 t.R false) = some (.lit false 1 (t.cells.map fun l => .lit false 2 (l.map spV))) := by
    unfold toLit
    simp only [noRef, AVal.under, Nat.not_lt_zero, decide_false, Bool.false_eq_true, if_false, h3, decide_true, Nat.zero_add, hl, Nat.le_refl, Bool.and_true, if_true, List.drop_zero, t3]
    rw [hes]
    simp
  have ec : (canon t).v = .agg [.lit false 2 (t.rows.map spV), .lit false 2 (t.cols.map spV), .lit false 1 (t.cells.map fun l => .lit false 2 (l.map spV))] := by
    unfold canon TabV.v
    simp only [List.map_map]
    rfl
  have hk : ∀ (i : Nat) (v : AVal) (n : Nat), (∃ g o l c, v = .ref i g o l c) → handBack H 0 [] (n + 1) v = toLit (fun j => decide (0 ≤ j) && !([] : List Nat).contains j) H 8 v := by
    rintro i v n ⟨g, o, l, c, rfl⟩
    simp [handBack]
  rw [ec]
  unfold handBack
  simp only [mapO, hk p1 _ n ⟨_, _, _, _, rfl⟩, hk p2 _ n ⟨_, _, _, _, rfl⟩, hk q _ n ⟨_, _, _, _, rfl⟩, e1, e2, e3]
  rfl

def noTab : AVal := .agg [.lit true 0 [], .lit true 0 [], .lit true 0 []]
set_option maxRecDepth 10000
set_option maxHeartbeats 4000000

theorem rows_lit {t : Tab} (hl : t.cells.length = t.R) : (vecA t.R fun i => AVal.lit false 2 (rowA t i)) = t.cells.map fun l => .lit false 2 (l.map spV) := by
  unfold vecA
  apply List.ext_getElem
  · simp [hl]
  · intro i h1 h2
    have hi : i < t.cells.length := by simpa using h2
    simp [rowA, hi]

theorem TbAt.back {H : Heap} {a b q ga gb g n : Nat} {ps : Nat → Nat} {t : Tab} (h : TbAt H a b q ga gb g ps t) (hl : t.cells.length = t.R) (hw : ∀ l ∈ t.cells, l.length = t.C) : handBack H 0 [] (n + 1 + 1) (memT t a b q ga gb g) = some (canon t).v := by
  refine hb_tab h.rows h.cols h.acc ?_ (vecA_length _ _)
  rw [← rows_lit hl]
  have gen : ∀ l : List Nat, (∀ i ∈ l, i < t.R) → mapO (Tidy.toLit (fun j => decide (0 ≤ j) && !([] : List Nat).contains j) H 7) (l.map fun i => AVal.ref (ps i) 0 0 t.C false) = some (l.map fun i => AVal.lit false 2 (rowA t i)) := by
    intro l
    induction l with
    | nil => intro _; rfl
    | cons i l ih =>
      intro hl'
      have hi := hl' i (by simp)
      have hr := h.row i hi
      have hrl := rowA_length hl hw hi
      have htk : (rowA t i).take t.C = rowA t i := List.take_of_length_le (by omega)
      simp only [List.map_cons, mapO, ih fun j hj => hl' j (by simp [hj])]
      simp [Tidy.toLit, noRef, AVal.under, hr, hrl, htk]
  exact gen _ fun i hi => List.mem_range.1 hi

set_option maxRecDepth 10000
set_option maxHeartbeats 4000000

theorem rowA_get' {t : Tab} {n : Nat} (hw : ∀ l ∈ t.cells, l.length = n) {i k : Nat} (hi : i < t.cells.length) (hk : k < n) : (rowA t i)[k]? = some (spV (t.cell i k)) := by
  have := hw _ (getD_mem hi [])
  unfold rowA Tab.cell
  rw [List.getElem?_map, List.getElem?_eq_getElem (by omega), List.getD_eq_getElem?_getD (l := t.cells.getD i []), List.getElem?_eq_getElem (by omega)]
  rfl

structure RcAt (T : TabV) (H : Heap) (B g : Nat) (ps : Nat → Nat) (t : Tab) : Prop where
  own : H[0]? = some (.cells 0 3 false [T.v])
  res : H[1]? = some (.cells 0 3 false [noTab])
  tab : TbAt H 4 5 6 1 1 g ps t
  box : H[B]? = some (.cells 0 3 false [memT T.tab 4 5 6 1 1 g])
  len : H.length = B + 1
  lt : 6 < B
  ps : ∀ i, i < T.tab.R → 6 < ps i ∧ ps i ≠ B

theorem RcAt.step {T : TabV} {H : Heap} {B g : Nat} {ps : Nat → Nat} {t t' : Tab} (h : RcAt T H B g ps t) {j : Nat} {b : Blk} (ht : TbAt (H.set j b) 4 5 6 1 1 g ps t') (h1 : j ≠ 0) (h2 : j ≠ 1) (h3 : j ≠ B) : RcAt T (H.set j b) B g ps t' :=
  ⟨by rw [List.getElem?_set_ne h1]; exact h.own, by rw [List.getElem?_set_ne h2]; exact h.res, ht, by rw [List.getElem?_set_ne h3]; exact h.box, by rw [List.length_set]; exact h.len, h.lt, h.ps⟩

theorem rows_get' {t : Tab} {i : Nat} (hi : i < t.R) : (t.rows.map spV)[i]? = some (spV (t.row i)) := by
  unfold Tab.row
  rw [List.getElem?_map, List.getD_eq_getElem?_getD, List.getElem?_eq_getElem (show i < t.rows.length from hi)]
  rfl
theorem cols_get' {t : Tab} {i : Nat} (hi : i < t.C) : (t.cols.map spV)[i]? = some (spV (t.col i)) := by
  unfold Tab.col
  rw [List.getElem?_map, List.getD_eq_getElem?_getD, List.getElem?_eq_getElem (show i < t.cols.length from hi)]
  rfl

def ClAns (t : Tab) (v : AVal) : Prop := (t.ok = false ∧ v = .tuple [noTab, .int .i64 60]) ∨ (t.Ok ∧ canB t = false ∧ v = .tuple [noTab, .int .i64 31]) ∨
  (t.Ok ∧ canB t = true ∧ ∃ t', ClosedT t t' ∧ v = .tuple [(canon t').v, .int .i64 0])

set_option maxRecDepth 10000
set_option maxHeartbeats 4000000

set_option maxRecDepth 10000
set_option maxHeartbeats 4000000

end Go.Proofs.Ytgfejpngfikjiaa.Tidy

