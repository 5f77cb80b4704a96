/-
  What the functions that SharesHidden reaches compute; the law, run.
-/
import Derived.Test.YtgfejpngfikjiaaWa
import Derived.Test.YtgfejpngfikjiaaCe
import Derived.Test.YtgfejpngfikjiaaCf
set_option linter.all false
namespace Go.Proofs.Ytgfejpngfikjiaa.Tidy
open Go Go.IntWalk
set_option maxRecDepth 10000
set_option linter.unusedSimpArgs false
set_option maxHeartbeats 4000000

set_option maxRecDepth 10000
set_option maxHeartbeats 4000000

set_option maxRecDepth 10000
set_option maxHeartbeats 4000000

set_option maxRecDepth 10000
set_option maxHeartbeats 4000000

structure Least (t : Tab) (r c : Nat) (v : Int) : Prop where
  at_ : ∃ s, Fits t s ∧ s r c = v
  all : ∀ s, Fits t s → v ≤ s r c
structure Great (t : Tab) (r c : Nat) (v : Int) : Prop where
  at_ : ∃ s, Fits t s ∧ s r c = v
  all : ∀ s, Fits t s → s r c ≤ v

set_option maxRecDepth 10000
set_option maxHeartbeats 4000000

theorem Least.range {t : Tab} {r c : Nat} (hr : r < t.R) (hc : c < t.C) {v : Int} (h : Least t r c v) : (t.cell r c).lo ≤ v ∧ v ≤ (t.cell r c).hi := by
  obtain ⟨s, hs, rfl⟩ := h.at_
  exact hs.cell r c hr hc
theorem Great.range {t : Tab} {r c : Nat} (hr : r < t.R) (hc : c < t.C) {v : Int} (h : Great t r c v) : (t.cell r c).lo ≤ v ∧ v ≤ (t.cell r c).hi := by
  obtain ⟨s, hs, rfl⟩ := h.at_
  exact hs.cell r c hr hc

set_option maxRecDepth 10000
set_option maxHeartbeats 4000000

structure LeastF (t : Tab) (φ : (Nat → Nat → Int) → Int) (v : Int) : Prop where
  at_ : ∃ s, Fits t s ∧ φ s = v
  all : ∀ s, Fits t s → v ≤ φ s
structure GreatF (t : Tab) (φ : (Nat → Nat → Int) → Int) (v : Int) : Prop where
  at_ : ∃ s, Fits t s ∧ φ s = v
  all : ∀ s, Fits t s → φ s ≤ v
def rowF (t : Tab) (r : Nat) (s : Nat → Nat → Int) : Int := sumN t.C (s r)

set_option maxRecDepth 10000
set_option maxHeartbeats 4000000

theorem LeastF.range {t : Tab} {r : Nat} (hr : r < t.R) {v : Int} (h : LeastF t (rowF t r) v) : (t.row r).lo ≤ v ∧ v ≤ (t.row r).hi := by
  obtain ⟨s, hs, rfl⟩ := h.at_
  exact hs.row r hr
theorem GreatF.range {t : Tab} {r : Nat} (hr : r < t.R) {v : Int} (h : GreatF t (rowF t r) v) : (t.row r).lo ≤ v ∧ v ≤ (t.row r).hi := by
  obtain ⟨s, hs, rfl⟩ := h.at_
  exact hs.row r hr

set_option maxRecDepth 10000
set_option maxHeartbeats 4000000

set_option maxRecDepth 10000
set_option maxHeartbeats 4000000

section
variable {A : Heap} {x y : AVal} {r0 : RowD} {rs : List RowD}
end

set_option maxRecDepth 10000
set_option maxHeartbeats 4000000

set_option maxRecDepth 10000
set_option maxHeartbeats 4000000

set_option maxRecDepth 10000
set_option maxHeartbeats 4000000

theorem rows_lit {t : Tab} (hl : t.cells.length = t.R) : (vecA t.R fun i => AVal.lit false 2 (rowA t i)) = t.cells.map fun l => .lit false 2 (l.map spV) := by
  unfold vecA
  apply List.ext_getElem
  · simp [hl]
  · intro i h1 h2
    have hi : i < t.cells.length := by simpa using h2
    simp [rowA, hi]

set_option maxRecDepth 10000
set_option maxHeartbeats 4000000

theorem maxL_two (a b : Int) : maxL .i64 a [.int .i64 b] = some (max a b) := by
  simp only [maxL, if_true]; congr 1; omega
set_option maxRecDepth 10000
set_option maxHeartbeats 2000000

end Go.Proofs.Ytgfejpngfikjiaa.Tidy

namespace Go.Proofs.Ytgfejpngfikjiaa.Tidy
open Go

def EndsP (t : Tab) (μ : (Nat → Nat → Int) → Int) (x : Spn) : Prop := (∃ s, Fits t s ∧ μ s = x.lo) ∧ (∃ s, Fits t s ∧ μ s = x.hi) ∧ ∀ s, Fits t s → x.lo ≤ μ s ∧ μ s ≤ x.hi

theorem EndsP.of {t : Tab} {l : List Nat} {lo hi : Int} (h : IsEnds t.net l lo hi) {μ : (Nat → Nat → Int) → Int} (e : ∀ s, t.brings l s = μ s) : EndsP t μ ⟨lo, hi⟩ := by
  obtain ⟨⟨s1, h1, e1⟩, ⟨s2, h2, e2⟩, h3⟩ := isEnds_iff.1 h
  exact ⟨⟨s1, h1, by rw [← e, e1]⟩, ⟨s2, h2, by rw [← e, e2]⟩, fun s hs => by rw [← e]; exact h3 s hs⟩

theorem EndsP.le {t : Tab} {μ : (Nat → Nat → Int) → Int} {x : Spn} (h : EndsP t μ x) : x.lo ≤ x.hi := by
  obtain ⟨⟨s1, a1, b1⟩, _, c⟩ := h
  have := c s1 a1
  omega

end Go.Proofs.Ytgfejpngfikjiaa.Tidy

namespace Go.Proofs.Ytgfejpngfikjiaa.Tidy
open Go Go.IntWalk
set_option maxRecDepth 10000
set_option linter.unusedSimpArgs false
set_option maxHeartbeats 2000000

set_option maxRecDepth 10000
set_option maxHeartbeats 2000000

theorem EndsAns.zero {t : Tab} {code : Int} {l : List Nat} {v : AVal} (h : EndsAns t code l v) (hc : code = 0) : ∃ lo hi, IsEnds t.net l lo hi ∧ v = .tuple [.agg [.int .i64 lo, .int .i64 hi], .int .i64 0] := by
  rcases h with ⟨h1, _⟩ | ⟨_, _, lo, hi, h2, rfl⟩
  · exact absurd hc h1
  · exact ⟨lo, hi, h2, rfl⟩

set_option maxRecDepth 10000
set_option maxHeartbeats 4000000

theorem askS_in {t : Tab} {i k : Int} (hok : t.ok = true) (hcan : canB t = true) (h : outB t i k = false) : askS t i k = 0 := by
  unfold askS; rw [hok, hcan, h]; rfl
theorem outB_in {t : Tab} {i k : Nat} (hi : i < t.R) (hk : k < t.C) : outB t i k = false := by
  unfold outB
  rw [decide_eq_false (p := (i : Int) < 0) (by omega), decide_eq_false (p := (t.R : Int) ≤ i) (by omega), decide_eq_false (p := (k : Int) < 0) (by omega), decide_eq_false (p := (t.C : Int) ≤ k) (by omega)]; rfl

set_option maxRecDepth 10000
set_option maxHeartbeats 4000000

def intB (n : Int) : Blk := .cells 0 1 true [.int .i64 n]

section
variable {T : TabV} {x : Spn}
end

set_option maxRecDepth 10000
set_option maxHeartbeats 4000000

structure TbG (H : Heap) (a b q ga gb g : Nat) (ps : Nat → Nat) (gr : Nat) (t : Tab) : Prop where
  rows : H[a]? = some (.cells ga 2 true (t.rows.map spV))
  cols : H[b]? = some (.cells gb 2 true (t.cols.map spV))
  acc : H[q]? = some (.cells g 1 false (vecA t.R fun i => .ref (ps i) gr 0 t.C false))
  row : ∀ i, i < t.R → H[ps i]? = some (.cells gr 2 true (rowA t i))
  ab : a ≠ b
  aq : a ≠ q
  bq : b ≠ q

theorem TbG.toLit {H : Heap} {a b q ga gb g gr : Nat} {ps : Nat → Nat} {t : Tab} (h : TbG H a b q ga gb g ps gr t) (hl : t.cells.length = t.R) (hw : ∀ l ∈ t.cells, l.length = t.C) (n : Nat) : Tidy.toLit (fun _ => true) H (n + 3) (memT t a b q ga gb g) = some (canon t).v := by
  have t1 : (t.rows.map spV).take t.R = t.rows.map spV := List.take_of_length_le (by rw [List.length_map]; exact Nat.le_refl _)
  have t2 : (t.cols.map spV).take t.C = t.cols.map spV := List.take_of_length_le (by rw [List.length_map]; exact Nat.le_refl _)
  have t3 : (vecA t.R fun i => AVal.ref (ps i) gr 0 t.C false).take t.R = vecA t.R fun i => AVal.ref (ps i) gr 0 t.C false := List.take_of_length_le (by rw [vecA_length]; exact Nat.le_refl _)
  have lr : t.rows.length = t.R := rfl
  have lc : t.cols.length = t.C := rfl
  have hm : mapO (Tidy.toLit (fun _ => true) H (n + 1)) (vecA t.R fun i => AVal.ref (ps i) gr 0 t.C false) = some (vecA t.R fun i => AVal.lit false 2 (rowA t i)) := by
    have gen : ∀ l : List Nat, (∀ i ∈ l, i < t.R) → mapO (Tidy.toLit (fun _ => true) H (n + 1)) (l.map fun i => AVal.ref (ps i) gr 0 t.C false) = some (l.map fun i => AVal.lit false 2 (rowA t i)) := by
      intro l
      induction l with
      | nil => intro _; rfl
      | cons i l ih =>
        intro hl'
        have hi := hl' i (by simp)
        have hr := h.row i hi
        have hrl := rowA_length hl hw hi
        have htk : (rowA t i).take t.C = rowA t i := List.take_of_length_le (by omega)
        simp only [List.map_cons, mapO, ih fun j hj => hl' j (by simp [hj])]
        simp [Tidy.toLit, noRef, AVal.under, hr, hrl, htk]
    exact gen _ fun i hi => List.mem_range.1 hi
  have ec : (canon t).v = .agg [.lit false 2 (t.rows.map spV), .lit false 2 (t.cols.map spV), .lit false 1 (vecA t.R fun i => AVal.lit false 2 (rowA t i))] := by
    rw [rows_lit hl]
    unfold canon TabV.v
    simp only [List.map_map]
    rfl
  have ea : Tidy.toLit (fun _ => true) H (n + 2) (.ref a ga 0 t.R false) = some (.lit false 2 (t.rows.map spV)) := by
    simp [Tidy.toLit, noRef, AVal.under, h.rows, t1, lr]
  have eb : Tidy.toLit (fun _ => true) H (n + 2) (.ref b gb 0 t.C false) = some (.lit false 2 (t.cols.map spV)) := by
    simp [Tidy.toLit, noRef, AVal.under, h.cols, t2, lc]
  have eq : Tidy.toLit (fun _ => true) H (n + 2) (.ref q g 0 t.R false) = some (.lit false 1 (vecA t.R fun i => AVal.lit false 2 (rowA t i))) := by
    unfold Tidy.toLit
    simp only [noRef, AVal.under, Nat.not_lt_zero, decide_false, Bool.false_eq_true, if_false, h.acc, decide_true, Nat.zero_add, vecA_length, Nat.le_refl, Bool.and_true, if_true, List.drop_zero, t3, hm]
    rfl
  rw [ec]
  unfold Tidy.toLit
  simp only [memT, noRef, AVal.under, underL, Nat.not_lt_zero, decide_false, Bool.false_and, Bool.false_eq_true, if_false, mapO, ea, eb, eq]
  rfl

theorem TbG.lend {H : Heap} {a b q ga gb g gr : Nat} {ps : Nat → Nat} {t : Tab} (h : TbG H a b q ga gb g ps gr t) (hR : t.R ≤ 8) (hl : t.cells.length = t.R) (hw : ∀ l ∈ t.cells, l.length = t.C) {lits : List Nat} (h0 : lits.contains 0 = true) {args : List AVal} (ha : underL 0 args = true) : ∃ ids, Tidy.lend H lits (memT t a b q ga gb g :: args) 0 = some ((canon t).v :: args, ids) := by
  have hlit := h.toLit hl hw 5
  have hre : ∃ l, reach H fuel0 (memT t a b q ga gb g).refs [] = some l := by
    have hrefs : (memT t a b q ga gb g).refs = [a, b, q] := rfl
    rw [hrefs]
    have hab : b ≠ a := Ne.symm h.ab
    have haq : q ≠ a := Ne.symm h.aq
    have hbq : q ≠ b := Ne.symm h.bq
    have hrl : refsL (vecA t.R fun i => AVal.ref (ps i) gr 0 t.C false) = vecA t.R ps := by
      unfold vecA
      induction (List.range t.R) with
      | nil => rfl
      | cons i l ih => simp [refsL, AVal.refs, ih]
    obtain ⟨l, hl⟩ := reach_some (H := H) (vecA t.R ps) [a, b, q] 61 (fun id hid => by
      unfold vecA at hid
      obtain ⟨i, hi, rfl⟩ := List.mem_map.1 hid
      exact ⟨_, _, _, h.row i (List.mem_range.1 hi)⟩) (by rw [vecA_length]; omega)
    refine ⟨l, ?_⟩
    unfold fuel0
    simp [reach, h.rows, h.cols, h.acc, hab, haq, hbq, hrl, hl]
  obtain ⟨l, hre⟩ := hre
  have hnr : noRef (memT t a b q ga gb g) = false := rfl
  refine ⟨l ++ [], ?_⟩
  unfold Tidy.lend
  rw [lend_noRef H lits args 1 ha]
  simp only [h0, hnr, Bool.not_false, Bool.and_self, if_true, hlit, hre]

def accF (l : List AVal) : Blk := if l = [] then .cells 0 0 false [] else .cells l.length 1 false l
theorem append_rw {H : Heap} {q w n : Nat} {es : List AVal} {r : AVal} (hH : H[q]? = some (accF es)) (hn : es.length = n) (hw : H[w]? = some (.cells 0 1 false [r])) (hr : r.cellsOf = [r]) (ht : r.isTuple = false) (hb : n < 2 ^ 20) (nx : Nat) :
    appendOp env 0 nx 23 (.ref q n 0 n false) (.ref w 0 0 1 false) H = some (.ref q (n + 1) 0 (n + 1) false, [(q, accF (es ++ [r]))]) := by
  subst hn
  have hel : elems H (.ref w 0 0 1 false) = some (1, [r]) := by
    simp only [elems, hw]
    rfl
  have hne : es ++ [r] ≠ [] := by simp
  have hln : (es ++ [r]).length = es.length + 1 := by simp
  by_cases h : es = []
  · subst h
    have hH' : H[q]? = some (.cells 0 0 false []) := hH
    have hfl : flatTy env 8 22 = false := rfl
    have hm : 25 ≤ maxBytes := by decide
    simp [appendOp, ti23, ti22, hel, hH', hfl, newBlk, accF, hr, ht, hm]
    exact ⟨rfl, rfl⟩
  · have hgr := append_ref (E := env) (ro := 0) (nx := nx) (H := H) (id := q) (g := es.length) (len := es.length) (x := .ref w 0 0 1 false) (nsz := 1) (new := [r]) (fl := false) (bs := es) ti23 ti22 hel ⟨by decide, rfl, rfl⟩ rfl (by simp)
      (by rw [hH, accF, if_neg h]) rfl (List.length_pos_iff.2 h) (Nat.zero_le _) (by show (es.length + 1) * 25 ≤ 2 ^ 45; omega) (fun h => by cases h)
    rw [hgr, accF, if_neg hne, hln]
    rfl

def Around (n : Int) (y : Spn) : Prop := 0 ≤ y.lo ∧ y.lo ≤ n ∧ n ≤ y.hi ∧ y.hi ≤ 2 ^ 30
def offB (cl : Bool) (sz : Nat) (l : List Int) : Blk := .cells 0 1 false [.lit cl sz (l.map (AVal.int .i64))]

theorem around_call {cl : Bool} {sz : Nat} {l : List Int} (hsz : l = [] ∨ sz = 1) (hne : l ≠ []) (hl : l.length < 2 ^ 63) (hb : ∀ x ∈ l, 0 ≤ x ∧ x ≤ 1000) {n : Int} (h0 : 0 ≤ n) (h1 : n ≤ 10 ^ 8) {c : Nat} (hc : c < 1000) :
    ∃ y, Around n y ∧ ∀ {H : Heap}, H[0]? = some (offB cl sz l) → H[2]? = some (intB (2 * c)) → ∀ nx, callT env 50 [.int .i64 n, .ptr 0 0 0 0, .ptr 2 0 0 0] 0 H nx = some (.ret (spV y), .ups [(0, offB cl sz l), (2, intB (2 * (c + 1 : Nat)))]) := by
  have hpos : 0 < l.length := List.length_pos_iff.2 hne
  have hsz : sz = 1 := hsz.resolve_left hne
  subst hsz
  have hL : (l.length : Int) ≠ 0 := by omega
  have e1 : ((2 * c : Int)).tmod (l.length : Int) = ((2 * c % l.length : Nat) : Int) := by
    rw [show (2 * c : Int) = ((2 * c : Nat) : Int) by omega, Int.ofNat_tmod]
  have w1 : IntKind.i64.wrap (2 * (c : Int) + 1) = 2 * (c : Int) + 1 := i64_in _ (by omega)
  have w2 : IntKind.i64.wrap (2 * (c : Int) + 2) = 2 * (((c + 1 : Nat)) : Int) := by rw [i64_in _ (by omega)]; omega
  have e2 : ((2 * c : Int) + 1).tmod (l.length : Int) = (((2 * c + 1) % l.length : Nat) : Int) := by
    rw [show (2 * c : Int) + 1 = ((2 * c + 1 : Nat) : Int) by omega, Int.ofNat_tmod]
  have m1 : 2 * c % l.length < l.length := Nat.mod_lt _ hpos
  have m2 : (2 * c + 1) % l.length < l.length := Nat.mod_lt _ hpos
  obtain ⟨a, ha⟩ : ∃ a, l[2 * c % l.length]? = some a := ⟨_, List.getElem?_eq_getElem m1⟩
  obtain ⟨b, hb'⟩ : ∃ b, l[(2 * c + 1) % l.length]? = some b := ⟨_, List.getElem?_eq_getElem m2⟩
  obtain ⟨a0, a1⟩ := hb a (List.mem_of_getElem? ha)
  obtain ⟨b0, b1⟩ := hb b (List.mem_of_getElem? hb')
  have ga : (l.map (AVal.int .i64))[2 * c % l.length]? = some (.int .i64 a) := by rw [List.getElem?_map, ha]; rfl
  have gb : (l.map (AVal.int .i64))[(2 * c + 1) % l.length]? = some (.int .i64 b) := by rw [List.getElem?_map, hb']; rfl
  have w3 : IntKind.i64.wrap (n - a) = n - a := i64_in _ (by omega)
  have w4 : IntKind.i64.wrap (n + b) = n + b := i64_in _ (by omega)
  have mx : maxL .i64 0 [.int .i64 (n - a)] = some (max 0 (n - a)) := maxL_two _ _
  generalize hp : 2 * c % l.length = p at *
  generalize hq : (2 * c + 1) % l.length = q at *
  have p0 : (0 : Int) ≤ (p : Int) := by omega
  have q0 : (0 : Int) ≤ (q : Int) := by omega
  refine ⟨⟨max 0 (n - a), n + b⟩, ⟨by show 0 ≤ max 0 (n - a); omega, by show max 0 (n - a) ≤ n; omega, by show n ≤ n + b; omega, by show n + b ≤ 2 ^ 30; omega⟩, fun {H} hh0 hh2 nx => ?_⟩
  have : ∃ X, runT env 50 [.int .i64 n, .ptr 0 0 0 0, .ptr 1 0 0 0] [offB cl 1 l, intB (2 * c)] 0 = some (.ret (spV ⟨max 0 (n - a), n + b⟩), offB cl 1 l :: intB (2 * (c + 1 : Nat)) :: X) := by
    rw [run_unfold fn50 rfl]
    simp only [go_sem, simprocAttr, Try.f50, offB, intB, List.length_map, hL, e1, e2, w1, w2, p0, q0, Int.toNat_natCast, ga, gb, w3, w4, mx, unwind, modeEx, resultsOf, one]
    exact ⟨_, rfl⟩
  obtain ⟨X, hr⟩ := this
  have hnr : ∀ f, (AVal.lit cl 1 (l.map (AVal.int .i64))).ren f = .lit cl 1 (l.map (AVal.int .i64)) := fun f => (ren_noRef f).1 _ rfl
  have hrf : (AVal.lit cl 1 (l.map (AVal.int .i64))).refs = [] := refs_noRef.1 _ rfl
  have h0' : H[0]? = some (.cells 0 1 false [.lit cl 1 (l.map (AVal.int .i64))]) := hh0
  have h2' : H[2]? = some (.cells 0 1 true [.int .i64 (2 * c)]) := hh2
  have hre : reach H fuel0 [0, 2] [] = some [0, 2] := by
    unfold fuel0
    simp [reach, h0', h2', refsL, hrf]
  have hbk : ∀ f, renB f (offB cl 1 l) = offB cl 1 l := fun f => by simp only [offB, renB, renL, hnr, Bool.false_eq_true, if_false]
  have h := call_fp (f := 50) (args := [.int .i64 n, .ptr 0 0 0 0, .ptr 2 0 0 0]) (qs := [.int .i64 n, .ptr 0 0 0 0, .ptr 2 0 0 0]) (lent := []) (fp := [0, 2]) (bs := [offB cl 1 l, intB (2 * c)]) (H := H) (H' := offB cl 1 l :: intB (2 * (c + 1 : Nat)) :: X) (v := spV ⟨max 0 (n - a), n + b⟩) (w := spV ⟨max 0 (n - a), n + b⟩) (ro := 0) (nx := nx) rfl rfl rfl
    (by rfl) (by simpa [refsL, AVal.refs] using hre) (by simp only [getAll, hh0, hh2]) (by simp)
    (by
      have : renL (idx [0, 2]) [.int .i64 n, .ptr 0 0 0 0, .ptr 2 0 0 0] = [.int .i64 n, .ptr 0 0 0 0, .ptr 1 0 0 0] := by
        have e1 : idx [0, 2] 0 = some 0 := rfl
        have e2 : idx [0, 2] 2 = some 1 := rfl
        simp only [renL, AVal.ren, e1, e2]
      rw [this]
      simp only [List.map_cons, List.map_nil, hbk]
      exact hr) rfl rfl (.inl rfl)
  rw [h]
  show some (CRes.ret _, Out.ups [(0, renB (backF nx [0, 2] []) (offB cl 1 l)), (2, intB _)]) = _
  rw [hbk]
end Go.Proofs.Ytgfejpngfikjiaa.Tidy

