/-
 What the functions that the statements of this seat share compute.
-/
import Derived.Test.YtgfejpngfikjiaaCe
import Derived.Test.YtgfejpngfikjiaaMc
set_option linter.all false
namespace Go.Proofs.Ytgfejpngfikjiaa.Tidy
open Go Go.IntWalk
set_option maxRecDepth 10000
set_option linter.unusedSimpArgs false
@[go_sem] theorem zQK (ro : Nat) (H : Heap) (nx : Nat) : callT env 20 [] ro H nx = some (.ret (.bool true), .ups []) := by
 obtain ⟨H', h⟩ := zFj
 exact call_pure rfl rfl rfl rfl h rfl ro H nx
theorem mapP {α : Type} {f : α → AVal} {P : α → Prop} : ∀ {es : List AVal}, (∀ x ∈ es, ∃ a, x = f a ∧ P a) → ∃ l : List α, es = l.map f ∧ ∀ a ∈ l, P a
 | [], _ => ⟨[], rfl, fun a h => by cases h⟩
 | x :: es, h => by
   obtain ⟨a, rfl, ha⟩ := h x (by simp)
   obtain ⟨l, hl, hp⟩ := mapP (f := f) (P := P) (es := es) fun y hy => h y (List.mem_cons_of_mem _ hy)
   refine ⟨a :: l, by rw [hl]; rfl, fun b hb => ?_⟩
   rcases List.mem_cons.1 hb with rfl | hb
   · exact ha
   · exact hp b hb
theorem z0W {m t n by_ : Nat} {z : AVal} {k : IntKind} (ht : env.ti t = some ⟨.int k, n, by_, z⟩) {cs : List AVal} (h : FitT env (m + 1) t cs) : ∃ x : Int, cs = [.int k x] ∧ (Lit.int k x).wf = true := by
 unfold FitT at h
 simpa only [ht] using h
theorem zBK {m : Nat} {cs : List AVal} (h : FitT env (m + 1) 4 cs) : ∃ b, cs = [.bool b] := by
 unfold FitT at h
 simpa only [ti4] using h
theorem zJa {x : Int} (h : (Lit.int .i64 x).wf = true) : -(2 ^ 63) ≤ x ∧ x < 2 ^ 63 := by
 have : -9223372036854775808 ≤ x ∧ x ≤ 9223372036854775807 := by simpa [Lit.wf, IntKind.min, IntKind.max, IntKind.signed, IntKind.bits] using h
 omega
theorem zOC {x : Int} (h : (Lit.int .u8 x).wf = true) : 0 ≤ x ∧ x < 256 := by
 have : 0 ≤ x ∧ x ≤ 255 := by simpa [Lit.wf, IntKind.min, IntKind.max, IntKind.signed, IntKind.bits] using h
 omega
theorem zDu {m : Nat} {cs : List AVal} (h : FitT env (m + 2) 39 cs) : ∃ x : Spn, cs = [.int .i64 x.lo, .int .i64 x.hi] ∧ (-(2 ^ 63) ≤ x.lo ∧ x.lo < 2 ^ 63) ∧ -(2 ^ 63) ≤ x.hi ∧ x.hi < 2 ^ 63 := by
 simp only [FitT, ti39, ti3, List.map_cons, List.map_nil, FitF] at h
 obtain ⟨_, _, rfl, ⟨o, rfl, h1⟩, _, _, rfl, ⟨n, rfl, h2⟩, rfl⟩ := h
 exact ⟨⟨o, n⟩, rfl, zJa h1, zJa h2⟩
theorem z8t {m : Nat} {cs : List AVal} (h : FitT env (m + 3) 22 cs) : ∃ s : SlV, cs = [s.v] ∧ s.sz = 2 ∧ s.l.length ≤ maxLen := by
 unfold FitT at h
 simp only [ti22] at h
 obtain ⟨te, ht, cl, es, rfl, hl, h⟩ := h
 rw [ti39] at ht
 cases ht
 obtain ⟨l, rfl, _⟩ := mapP (f := spV) (P := fun _ => True) fun x hx => by
  obtain ⟨cs', h1, h2⟩ := h x hx
  obtain ⟨e, he, _⟩ := zDu h2
  exact ⟨e, by rw [h1, he]; rfl, trivial⟩
 exact ⟨⟨cl, 2, l⟩, rfl, rfl, by simpa using hl⟩
theorem zKI {m : Nat} {cs : List AVal} (h : FitT env (m + 4) 23 cs) : ∃ (cl : Bool) (l : List SlV), cs = [.lit cl 1 (l.map SlV.v)] ∧ l.length ≤ maxLen ∧ ∀ s ∈ l, s.sz = 2 ∧ s.l.length ≤ maxLen := by
 unfold FitT at h
 simp only [ti23] at h
 obtain ⟨te, ht, cl, es, rfl, hl, h⟩ := h
 rw [ti22] at ht
 cases ht
 obtain ⟨l, rfl, hp⟩ := mapP (f := SlV.v) (P := fun s => s.sz = 2 ∧ s.l.length ≤ maxLen) fun x hx => by
  obtain ⟨cs', h1, h2⟩ := h x hx
  obtain ⟨e, he, h3, h4⟩ := z8t h2
  exact ⟨e, by rw [h1, he]; rfl, h3, h4⟩
 exact ⟨cl, l, rfl, by simpa using hl, hp⟩
theorem z38 {n : Nat} (h : n ≤ maxLen) : n < 2 ^ 63 := by unfold maxLen at h; omega
theorem z2N {m : Nat} {cs : List AVal} (h : FitT env (m + 5) 25 cs) : ∃ T : TabV, T.Wf ∧ AVal.agg cs = T.v := by
 unfold FitT at h
 simp only [ti25, List.map_cons, List.map_nil, FitF] at h
 obtain ⟨_, _, rfl, h1, _, _, rfl, h2, _, _, rfl, h3, rfl⟩ := h
 obtain ⟨r, rfl, r1, r2⟩ := z8t (m := m + 1) h1
 obtain ⟨c, rfl, c1, c2⟩ := z8t (m := m + 1) h2
 obtain ⟨cl, l, rfl, l1, l2⟩ := zKI h3
 exact ⟨⟨r, c, cl, 1, l⟩, ⟨.inr r1, .inr c1, .inr rfl, fun s hs => .inr (l2 s hs).1, z38 r2, z38 c2, z38 l1, fun s hs => z38 (l2 s hs).2⟩, rfl⟩
theorem zFL {m : Nat} {cs : List AVal} (h : FitT env (m + 2) 51 cs) : ∃ s : SlI, cs = [s.v] ∧ s.sz = 1 ∧ s.l.length ≤ maxLen ∧ ∀ x ∈ s.l, -(2 ^ 63) ≤ x ∧ x < 2 ^ 63 := by
 unfold FitT at h
 simp only [ti51] at h
 obtain ⟨te, ht, cl, es, rfl, hl, h⟩ := h
 rw [ti3] at ht
 cases ht
 obtain ⟨l, rfl, hp⟩ := mapP (f := AVal.int .i64) (P := fun x => -(2 ^ 63) ≤ x ∧ x < 2 ^ 63) fun x hx => by
  obtain ⟨cs', h1, h2⟩ := h x hx
  obtain ⟨e, he, h3⟩ := z0W ti3 h2
  exact ⟨e, by rw [h1, he]; rfl, zJa h3⟩
 exact ⟨⟨cl, 1, l⟩, rfl, rfl, by simpa using hl, hp⟩
theorem z55 {m : Nat} {cs : List AVal} (h : FitT env (m + 3) 46 cs) : ∃ M : MatV, M.Wf ∧ cs = [M.v] := by
 unfold FitT at h
 simp only [ti46] at h
 obtain ⟨te, ht, cl, es, rfl, hl, h⟩ := h
 rw [ti51] at ht
 cases ht
 obtain ⟨l, rfl, hp⟩ := mapP (f := SlI.v) (P := fun s => s.sz = 1 ∧ s.l.length ≤ maxLen ∧ ∀ x ∈ s.l, -(2 ^ 63) ≤ x ∧ x < 2 ^ 63) fun x hx => by
  obtain ⟨cs', h1, h2⟩ := h x hx
  obtain ⟨e, he, h3⟩ := zFL h2
  exact ⟨e, by rw [h1, he]; rfl, h3⟩
 exact ⟨⟨cl, 1, l⟩, ⟨.inr rfl, fun s hs => .inr (hp s hs).1, z38 (by simpa using hl), fun s hs => z38 (hp s hs).2.1, fun s hs => (hp s hs).2.2⟩, rfl⟩
theorem zCP {m : Nat} {cs : List AVal} (h : FitT env (m + 2) 26 cs) : ∃ (cl : Bool) (l : List Bool), cs = [.lit cl 1 (z09 l)] ∧ l.length ≤ maxLen := by
 unfold FitT at h
 simp only [ti26] at h
 obtain ⟨te, ht, cl, es, rfl, hl, h⟩ := h
 rw [ti4] at ht
 cases ht
 obtain ⟨l, rfl, _⟩ := mapP (f := AVal.bool) (P := fun _ => True) fun x hx => by
  obtain ⟨cs', h1, h2⟩ := h x hx
  obtain ⟨e, he⟩ := zBK h2
  exact ⟨e, by rw [h1, he]; rfl, trivial⟩
 exact ⟨cl, l, rfl, by simpa using hl⟩
theorem z8s {m : Nat} {cs : List AVal} (h : FitT env (m + 3) 28 cs) : ∃ c : CutA, c.Wf ∧ AVal.agg cs = c.v := by
 unfold FitT at h
 simp only [ti28, List.map_cons, List.map_nil, FitF] at h
 obtain ⟨_, _, rfl, h1, _, _, rfl, h2, rfl⟩ := h
 obtain ⟨c1, l1, rfl, h3⟩ := zCP h1
 obtain ⟨c2, l2, rfl, h4⟩ := zCP h2
 exact ⟨⟨c1, 1, l1, c2, 1, l2⟩, ⟨.inr rfl, .inr rfl, z38 h3, z38 h4⟩, rfl⟩
theorem zLn (n by' : Nat) (z : AVal) (a b : Spn) : eqOp env 39 ⟨.struct [(3, 0), (3, 1)], n, by', z⟩ (spV a) (spV b) = some (decide (a.lo = b.lo) && decide (a.hi = b.hi)) := zFE n by' z a.lo a.hi b.lo b.hi
theorem zEB (n by' : Nat) (z : AVal) (a b : Spn) : binOp env .neq 39 ⟨.struct [(3, 0), (3, 1)], n, by', z⟩ (spV a) (spV b) = some (.bool !(decide (a.lo = b.lo) && decide (a.hi = b.hi))) := by
 have : binOp env .neq 39 ⟨.struct [(3, 0), (3, 1)], n, by', z⟩ (spV a) (spV b) = (eqOp env 39 ⟨.struct [(3, 0), (3, 1)], n, by', z⟩ (spV a) (spV b)).map fun b => .bool !b := rfl
 rw [this, zLn]; rfl
theorem zBG (n by' : Nat) (z : AVal) (a b : Spn) : binOp env .eql 39 ⟨.struct [(3, 0), (3, 1)], n, by', z⟩ (spV a) (spV b) = some (.bool (decide (a.lo = b.lo) && decide (a.hi = b.hi))) := by
 have : binOp env .eql 39 ⟨.struct [(3, 0), (3, 1)], n, by', z⟩ (spV a) (spV b) = (eqOp env 39 ⟨.struct [(3, 0), (3, 1)], n, by', z⟩ (spV a) (spV b)).map fun b => .bool b := rfl
 rw [this, zLn]; rfl
theorem zDi {t : Tab} (hok : t.ok = true) (c : CutA) : decide (cgS t c = 0) = (fitC t c && t.gap (fun i => c.l1.getD i false) fun k => c.l2.getD k false) := by
 unfold cgS
 rw [if_pos hok]
 cases (fitC t c && t.gap (fun i => c.l1.getD i false) fun k => c.l2.getD k false) <;> rfl
theorem z5P {t : Tab} (h : z7w t = true) : t.Ok ∧ t.R ≤ 6 ∧ t.C ≤ 6 := by
 unfold z7w at h
 simp only [Bool.and_eq_true, decide_eq_true_eq] at h
 exact ⟨Tab.ok_iff.1 h.2, h.1.1, h.1.2⟩
end Go.Proofs.Ytgfejpngfikjiaa.Tidy
