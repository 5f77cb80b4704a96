/-
  What the functions that SharesExact reaches compute; the law, run.
-/
import Derived.Test.YtgfejpngfikjiaaCb
import Derived.Test.YtgfejpngfikjiaaWa
import Derived.Test.YtgfejpngfikjiaaCf
import Derived.Test.YtgfejpngfikjiaaCe
set_option linter.all false
namespace Go.Proofs.Ytgfejpngfikjiaa.Tidy
open Go Go.IntWalk
set_option maxRecDepth 10000
set_option linter.unusedSimpArgs false
set_option maxHeartbeats 2000000

set_option maxRecDepth 10000
set_option maxHeartbeats 2000000

set_option maxRecDepth 10000
set_option maxHeartbeats 4000000

structure Least (t : Tab) (r c : Nat) (v : Int) : Prop where
  at_ : ∃ s, Fits t s ∧ s r c = v
  all : ∀ s, Fits t s → v ≤ s r c
structure Great (t : Tab) (r c : Nat) (v : Int) : Prop where
  at_ : ∃ s, Fits t s ∧ s r c = v
  all : ∀ s, Fits t s → s r c ≤ v

theorem fits_narrow {t : Tab} (hO : t.Ok) {r c : Nat} (hr : r < t.R) (hc : c < t.C) {x : Spn} (h1 : (t.cell r c).lo ≤ x.lo) (h2 : x.hi ≤ (t.cell r c).hi) (s : Nat → Nat → Int) : Fits (t.setCell r c x) s ↔ Fits t s ∧ x.lo ≤ s r c ∧ s r c ≤ x.hi := by
  have hs := fun i k => setCell_cell hO x hr hc i k
  constructor
  · intro h
    have h0 := h.cell r c hr hc
    rw [hs, if_pos ⟨rfl, rfl⟩] at h0
    refine ⟨⟨fun i k hi hk => ?_, fun i hi => h.row i hi, fun k hk => h.col k hk⟩, h0⟩
    have h3 := h.cell i k hi hk
    rw [hs] at h3
    by_cases h4 : i = r ∧ k = c
    · obtain ⟨rfl, rfl⟩ := h4; omega
    · rwa [if_neg h4] at h3
  · rintro ⟨h, h3⟩
    refine ⟨fun i k hi hk => ?_, fun i hi => h.row i hi, fun k hk => h.col k hk⟩
    rw [hs]
    by_cases h4 : i = r ∧ k = c
    · obtain ⟨rfl, rfl⟩ := h4; rw [if_pos ⟨rfl, rfl⟩]; exact h3
    · rw [if_neg h4]; exact h.cell i k hi hk

set_option maxRecDepth 10000
set_option maxHeartbeats 4000000

theorem Least.range {t : Tab} {r c : Nat} (hr : r < t.R) (hc : c < t.C) {v : Int} (h : Least t r c v) : (t.cell r c).lo ≤ v ∧ v ≤ (t.cell r c).hi := by
  obtain ⟨s, hs, rfl⟩ := h.at_
  exact hs.cell r c hr hc
theorem Great.range {t : Tab} {r c : Nat} (hr : r < t.R) (hc : c < t.C) {v : Int} (h : Great t r c v) : (t.cell r c).lo ≤ v ∧ v ≤ (t.cell r c).hi := by
  obtain ⟨s, hs, rfl⟩ := h.at_
  exact hs.cell r c hr hc

theorem askS_zero {t : Tab} {i k : Int} (h : askS t i k = 0) : t.Ok ∧ canB t = true ∧ outB t i k = false := by
  unfold askS at h
  cases hok : t.ok with
  | false => rw [hok] at h; simp at h
  | true =>
    rw [hok] at h
    cases hcan : canB t with
    | false => rw [hcan] at h; simp at h
    | true =>
      rw [hcan] at h
      cases ho : outB t i k with
      | true => rw [ho] at h; simp at h
      | false => exact ⟨Tab.ok_iff.1 hok, rfl, rfl⟩

theorem ends_cell {t : Tab} {r c : Nat} (hr : r < t.R) (hc : c < t.C) {lo hi : Int} (h : IsEnds t.net [r * t.C + c] lo hi) : Least t r c lo ∧ Great t r c hi := by
  obtain ⟨⟨x, hx, ex⟩, ⟨y, hy, ey⟩, ha⟩ := isEnds_iff.1 h
  rw [brings_cell t _ hr hc] at ex ey
  refine ⟨⟨⟨x, hx, ex⟩, fun s hs => ?_⟩, ⟨⟨y, hy, ey⟩, fun s hs => ?_⟩⟩
  · have := (ha s hs).1; rwa [brings_cell t _ hr hc] at this
  · have := (ha s hs).2; rwa [brings_cell t _ hr hc] at this

set_option maxRecDepth 10000
set_option maxHeartbeats 4000000

structure LeastF (t : Tab) (φ : (Nat → Nat → Int) → Int) (v : Int) : Prop where
  at_ : ∃ s, Fits t s ∧ φ s = v
  all : ∀ s, Fits t s → v ≤ φ s
structure GreatF (t : Tab) (φ : (Nat → Nat → Int) → Int) (v : Int) : Prop where
  at_ : ∃ s, Fits t s ∧ φ s = v
  all : ∀ s, Fits t s → φ s ≤ v
def rowF (t : Tab) (r : Nat) (s : Nat → Nat → Int) : Int := sumN t.C (s r)

set_option maxRecDepth 10000
set_option maxHeartbeats 4000000

theorem gap_cell {t : Tab} (hO : t.Ok) {r c : Nat} (hr : r < t.R) (hc : c < t.C) (a b a' b' : Int) (R C : Nat → Bool) : (t.setCell r c ⟨a, b⟩).gap R C = true → (t.setCell r c ⟨a', b⟩).gap R C = true ∨ (t.setCell r c ⟨a, b'⟩).gap R C = true := by
  have hs := fun x => fun i k => setCell_cell hO x hr hc i k
  have k1 : ∀ x x' : Spn, (R r && !C c) = false → (t.setCell r c x).asked R C = (t.setCell r c x').asked R C := fun x x' h => by
    refine add_congr (sumN_congr fun i hi => sumN_congr fun k hk => ?_) rfl
    rw [hs, hs]
    by_cases e : i = r ∧ k = c
    · obtain ⟨rfl, rfl⟩ := e
      rw [h]; rfl
    · rw [if_neg e, if_neg e]
  have k2 : ∀ x x' : Spn, x.lo = x'.lo → (t.setCell r c x).asked R C = (t.setCell r c x').asked R C := fun x x' h => by
    refine add_congr (sumN_congr fun i hi => sumN_congr fun k hk => ?_) rfl
    rw [hs, hs]
    by_cases e : i = r ∧ k = c
    · rw [if_pos e, if_pos e, h]
    · rw [if_neg e, if_neg e]
  have k3 : ∀ x x' : Spn, (!R r && C c) = false → (t.setCell r c x).comes R C = (t.setCell r c x').comes R C := fun x x' h => by
    refine add_congr rfl (sumN_congr fun i hi => sumN_congr fun k hk => ?_)
    rw [hs, hs]
    by_cases e : i = r ∧ k = c
    · obtain ⟨rfl, rfl⟩ := e
      rw [h]; rfl
    · rw [if_neg e, if_neg e]
  have k4 : ∀ x x' : Spn, x.hi = x'.hi → (t.setCell r c x).comes R C = (t.setCell r c x').comes R C := fun x x' h => by
    refine add_congr rfl (sumN_congr fun i hi => sumN_congr fun k hk => ?_)
    rw [hs, hs]
    by_cases e : i = r ∧ k = c
    · rw [if_pos e, if_pos e, h]
    · rw [if_neg e, if_neg e]
  have k5 : ∀ x x' : Spn, (!R r && C c) = false → (t.setCell r c x).given R C = (t.setCell r c x').given R C := fun x x' h => by
    refine add_congr rfl (sumN_congr fun i hi => sumN_congr fun k hk => ?_)
    rw [hs, hs]
    by_cases e : i = r ∧ k = c
    · obtain ⟨rfl, rfl⟩ := e
      rw [h]; rfl
    · rw [if_neg e, if_neg e]
  have k6 : ∀ x x' : Spn, x.lo = x'.lo → (t.setCell r c x).given R C = (t.setCell r c x').given R C := fun x x' h => by
    refine add_congr rfl (sumN_congr fun i hi => sumN_congr fun k hk => ?_)
    rw [hs, hs]
    by_cases e : i = r ∧ k = c
    · rw [if_pos e, if_pos e, h]
    · rw [if_neg e, if_neg e]
  have k7 : ∀ x x' : Spn, (R r && !C c) = false → (t.setCell r c x).taken R C = (t.setCell r c x').taken R C := fun x x' h => by
    refine add_congr (sumN_congr fun i hi => sumN_congr fun k hk => ?_) rfl
    rw [hs, hs]
    by_cases e : i = r ∧ k = c
    · obtain ⟨rfl, rfl⟩ := e
      rw [h]; rfl
    · rw [if_neg e, if_neg e]
  have k8 : ∀ x x' : Spn, x.hi = x'.hi → (t.setCell r c x).taken R C = (t.setCell r c x').taken R C := fun x x' h => by
    refine add_congr (sumN_congr fun i hi => sumN_congr fun k hk => ?_) rfl
    rw [hs, hs]
    by_cases e : i = r ∧ k = c
    · rw [if_pos e, if_pos e, h]
    · rw [if_neg e, if_neg e]
  unfold Tab.gap
  simp only [Bool.or_eq_true, decide_eq_true_eq]
  intro h
  cases hA : (R r && !C c) with
  | true =>
    have hB : (!R r && C c) = false := by
      cases hR : R r <;> cases hC : C c <;> simp [hR, hC] at hA ⊢
    rcases h with h | h
    · rw [k2 ⟨a, b⟩ ⟨a, b'⟩ rfl, k3 ⟨a, b⟩ ⟨a, b'⟩ hB] at h
      exact .inr (.inl h)
    · rw [k8 ⟨a, b⟩ ⟨a', b⟩ rfl, k5 ⟨a, b⟩ ⟨a', b⟩ hB] at h
      exact .inl (.inr h)
  | false =>
    rcases h with h | h
    · rw [k1 ⟨a, b⟩ ⟨a', b⟩ hA, k4 ⟨a, b⟩ ⟨a', b⟩ rfl] at h
      exact .inl (.inl h)
    · rw [k7 ⟨a, b⟩ ⟨a, b'⟩ hA, k6 ⟨a, b⟩ ⟨a, b'⟩ rfl] at h
      exact .inr (.inr h)

set_option maxRecDepth 10000
set_option maxHeartbeats 4000000

def plainB (x : Spn) (up : Bool) (n : Int) : Bool := if up then decide (x.hi ≤ n) else decide (n ≤ x.lo)
def quX (x : Spn) (up : Bool) (n : Int) : Spn := if up then ⟨n + 1, x.hi⟩ else ⟨x.lo, n - 1⟩
def gapC (t : Tab) (c : CutA) : Bool := t.gap (fun i => c.l1.getD i false) fun k => c.l2.getD k false
def badB (t : Tab) (i k n : Int) : Bool := outB t i k || !(decide (0 ≤ n) && decide (n ≤ 2 ^ 30))
def cpS (t : Tab) (i k : Int) (up : Bool) (n : Int) (c : CutA) : Int :=
  if t.ok then (if badB t i k n then 1 else if fitC t c then (if plainB (t.cell i.toNat k.toNat) up n || gapC (t.setCell i.toNat k.toNat (quX (t.cell i.toNat k.toNat) up n)) c then 0 else 61) else 61) else 60

theorem quX_ok {x : Spn} {up : Bool} {n : Int} (hx : x.ok = true) (h0 : 0 ≤ n) (h1 : n ≤ 2 ^ 30) (hp : plainB x up n = false) : (quX x up n).ok = true := by
  simp [Spn.ok] at hx
  cases up <;> simp [plainB, quX, Spn.ok] at hp ⊢ <;> omega

set_option maxRecDepth 10000
set_option maxHeartbeats 4000000

theorem TbAt.shift {H' : Heap} {a b q ga gb g : Nat} {ps : Nat → Nat} {t : Tab} (h : TbAt H' a b q ga gb g ps t) (H0 : Heap) :
    TbAt (H0 ++ H'.map (renB (nxF H0.length H'.length))) (H0.length + a) (H0.length + b) (H0.length + q) ga gb g (fun i => H0.length + ps i) t := by
  obtain ⟨l1, l2, l3, l4⟩ := h.lt
  have hg : ∀ i, (H0 ++ H'.map (renB (nxF H0.length H'.length)))[H0.length + i]? = (H'[i]?).map (renB (nxF H0.length H'.length)) := fun i => by
    rw [List.getElem?_append_right (by omega), Nat.add_sub_cancel_left, List.getElem?_map]
  have hr : renL (nxF H0.length H'.length) (vecA t.R fun i => AVal.ref (ps i) 0 0 t.C false) = vecA t.R fun i => AVal.ref (H0.length + ps i) 0 0 t.C false := by
    have gen : ∀ l : List Nat, (∀ i ∈ l, i < t.R) → renL (nxF H0.length H'.length) (l.map fun i => AVal.ref (ps i) 0 0 t.C false) = l.map fun i => AVal.ref (H0.length + ps i) 0 0 t.C false := by
      intro l
      induction l with
      | nil => intro _; rfl
      | cons i l ih =>
        intro hl
        have hi := l4 i (hl i (by simp))
        simp only [List.map_cons, renL, AVal.ren, ih fun j hj => hl j (by simp [hj])]
        unfold nxF
        rw [if_pos hi]
    exact gen _ fun i hi => by rw [List.mem_range] at hi; omega
  refine ⟨?_, ?_, ?_, fun i hi => ?_, by have := h.ab; omega, by have := h.aq; omega, by have := h.bq; omega, fun i hi => ?_, fun i j hi hj e => h.pp i j hi hj (by omega)⟩
  · rw [hg, h.rows]; rfl
  · rw [hg, h.cols]; rfl
  · rw [hg, h.acc]
    simp only [Option.map_some, renB, Bool.false_eq_true, if_false, hr]
  · rw [hg, h.row i hi]; rfl
  · obtain ⟨p1, p2, p3⟩ := h.pa i hi
    omega

theorem reach_old {H : Heap} : ∀ (ids seen : List Nat) (n : Nat) (l : List Nat), (∀ id ∈ ids, ∃ g sz es, H[id]? = some (.cells g sz true es)) → reach H n ids seen = some l → ∀ x ∈ l, x ∈ seen ∨ x ∈ ids
  | [], seen, n, l, _, h => by
    cases n <;> (cases h; exact fun x hx => .inl hx)
  | id :: ids, seen, 0, l, _, h => by cases h
  | id :: ids, seen, n + 1, l, hf, h => by
    obtain ⟨g, sz, es, hH⟩ := hf id (by simp)
    have ih := fun seen h => reach_old (H := H) ids seen n l (fun x hx => hf x (by simp [hx])) h
    simp only [reach, hH, if_true] at h
    split at h
    · exact fun x hx => (ih _ h x hx).imp (fun h => h) fun h => by simp [h]
    · intro x hx
      rcases ih _ h x hx with h | h
      · rw [List.mem_append] at h
        rcases h with h | h
        · exact .inl h
        · exact .inr (by simp at h; simp [h])
      · exact .inr (by simp [h])

theorem TbAt.lend' {H : Heap} {a b q ga gb g : Nat} {ps : Nat → Nat} {t : Tab} (h : TbAt H a b q ga gb g ps t) (hR : t.R ≤ 8) (hl : t.cells.length = t.R) (hw : ∀ l ∈ t.cells, l.length = t.C) {lits : List Nat} (h0 : lits.contains 0 = true) {args : List AVal} (ha : underL 0 args = true) :
    ∃ ids, Tidy.lend H lits (memT t a b q ga gb g :: args) 0 = some ((canon t).v :: args, ids) ∧ ∀ x ∈ ids, x = a ∨ x = b ∨ x = q ∨ ∃ i, i < t.R ∧ x = ps i := by
  have hlit := h.toLit hl hw (fun _ => true) rfl rfl rfl (fun _ _ => rfl) 5
  have hre : ∃ l, reach H fuel0 (memT t a b q ga gb g).refs [] = some l ∧ ∀ x ∈ l, x = a ∨ x = b ∨ x = q ∨ ∃ i, i < t.R ∧ x = ps i := by
    have hrefs : (memT t a b q ga gb g).refs = [a, b, q] := rfl
    rw [hrefs]
    have hab : b ≠ a := Ne.symm h.ab
    have haq : q ≠ a := Ne.symm h.aq
    have hbq : q ≠ b := Ne.symm h.bq
    have hrl : refsL (vecA t.R fun i => AVal.ref (ps i) 0 0 t.C false) = vecA t.R ps := by
      unfold vecA
      induction (List.range t.R) with
      | nil => rfl
      | cons i l ih => simp [refsL, AVal.refs, ih]
    have hflat : ∀ id ∈ vecA t.R ps, ∃ g sz es, H[id]? = some (.cells g sz true es) := fun id hid => by
      unfold vecA at hid
      obtain ⟨i, hi, rfl⟩ := List.mem_map.1 hid
      exact ⟨_, _, _, h.row i (List.mem_range.1 hi)⟩
    obtain ⟨l, hl⟩ := reach_some (H := H) (vecA t.R ps) [a, b, q] 61 hflat (by rw [vecA_length]; omega)
    have hs := reach_old _ _ _ _ hflat hl
    refine ⟨l, ?_, fun x hx => ?_⟩
    · unfold fuel0
      simp [reach, h.rows, h.cols, h.acc, hab, haq, hbq, hrl, hl]
    · rcases hs x hx with h | h
      · simp at h
        rcases h with h | h | h
        · exact .inl h
        · exact .inr (.inl h)
        · exact .inr (.inr (.inl h))
      · unfold vecA at h
        obtain ⟨i, hi, rfl⟩ := List.mem_map.1 h
        exact .inr (.inr (.inr ⟨i, List.mem_range.1 hi, rfl⟩))
  obtain ⟨l, hre, hs⟩ := hre
  have hnr : noRef (memT t a b q ga gb g) = false := rfl
  refine ⟨l ++ [], ?_, fun x hx => hs x (by simpa using hx)⟩
  unfold Tidy.lend
  rw [lend_noRef H lits args 1 ha]
  simp only [h0, hnr, Bool.not_false, Bool.and_self, if_true, hlit, hre]

theorem call_lent' {f : Nat} {args qs : List AVal} {lent : List Nat} {v w : AVal} {H H' : Heap} (hw : (env.hint f).whole = false) (hka : (env.hint f).keepAll = false) (hk : (env.hint f).keep = []) (hro : (env.hint f).ro = false)
    (hl : lend H (env.hint f).lits args 0 = some (qs, lent)) (hq : underL 0 qs = true) (hr : runT env f qs [] 0 = some (.ret v, H')) (hb : handBack H' 0 [] 4 v = some w) (hn : noRef w = true) (nx : Nat) :
    ∃ us, callT env f args 0 H nx = some (.ret w, .ups us) ∧ (us = [] ∨ us = lent.map (·, .dead)) := by
  unfold callT
  rw [callF_small hw, hl]
  have h0 : (lent.all fun id => decide (0 ≤ id)) = true := List.all_eq_true.2 fun _ _ => by simp
  have h1 : (lent.all fun id => !([] : List Nat).contains id) = true := List.all_eq_true.2 fun _ _ => by simp
  simp only [refs_noRef.2 qs hq, reach, getAll, h1, hro, List.all_nil, Bool.not_true, Bool.or_false, Bool.and_false, Bool.false_eq_true, if_false, List.map_nil, List.length_nil, (ren_noRef (idx [])).2 qs hq]
  rw [hr]
  simp only [Option.bind_some, callBack, keepOf, hka, hk, Bool.false_eq_true, if_false, List.filter_nil, uniq, getAll, List.length_nil, hb, h0, if_true]
  rw [(ren_noRef _).1 w hn]
  split
  · exact ⟨_, rfl, .inl (by simp [callUpd, hro, numbered])⟩
  · exact ⟨_, rfl, .inr (by simp [callUpd, hro, numbered])⟩

theorem putU_dead : ∀ (ids : List Nat) (H0 X : Heap), (∀ x ∈ ids, H0.length ≤ x ∧ x < H0.length + X.length) → ∃ X', X'.length = X.length ∧ putU (H0 ++ X) (ids.map (·, .dead)) = H0 ++ X'
  | [], H0, X, _ => ⟨X, rfl, rfl⟩
  | id :: ids, H0, X, h => by
    obtain ⟨h1, h2⟩ := h id (by simp)
    obtain ⟨X', e1, e2⟩ := putU_dead ids H0 (X.set (id - H0.length) .dead) fun x hx => by rw [List.length_set]; exact h x (by simp [hx])
    refine ⟨X', by rw [e1, List.length_set], ?_⟩
    rw [← e2]
    simp only [List.map_cons, putU]
    rw [if_pos (by rw [List.length_append]; exact h2), List.set_append_right _ _ h1]

theorem putU_lent {ids : List Nat} {us : Ups} (hus : us = [] ∨ us = ids.map (·, .dead)) (H0 X : Heap) (h : ∀ x ∈ ids, H0.length ≤ x ∧ x < H0.length + X.length) : ∃ X', X'.length = X.length ∧ putU (H0 ++ X) us = H0 ++ X' := by
  rcases hus with rfl | rfl
  · exact ⟨X, rfl, rfl⟩
  · exact putU_dead ids H0 X h

theorem plain_call (x : Spn) (up : Bool) (n : Int) (ro : Nat) (H : Heap) (nx : Nat) : callT env 115 [spV x, .bool up, .int .i64 n] ro H nx = some (.ret (.bool (plainB x up n)), .ups []) := by
  have : ∃ H', runT env 115 [spV x, .bool up, .int .i64 n] [] 0 = some (.ret (.bool (plainB x up n)), H') := by
    rw [run_unfold fn115 rfl]
    unfold plainB
    cases up with
    | true =>
      cases h : decide (x.hi ≤ n) <;> simp only [go_sem, simprocAttr, Try.f115, h, unwind, modeEx, resultsOf, one, if_true] <;> exact ⟨_, rfl⟩
    | false =>
      cases h : decide (n ≤ x.lo) <;> simp only [go_sem, simprocAttr, Try.f115, h, unwind, modeEx, resultsOf, one, Bool.false_eq_true, if_false] <;> exact ⟨_, rfl⟩
  obtain ⟨H', h⟩ := this
  exact call_pure rfl rfl rfl rfl h rfl ro H nx

theorem question_run {T : TabV} (hT : T.Wf) (hO : T.tab.Ok) {r c : Nat} (hr : r < T.tab.R) (hc : c < T.tab.C) {up : Bool} {n : Int} (hn0 : 0 ≤ n) (hn1 : n ≤ 2 ^ 30) :
    ∃ g H', runT env 116 [T.v, .int .i64 r, .int .i64 c, .bool up, .int .i64 n] [] 0 = some (.ret (memT T.tab 4 5 12 0 0 g), H') ∧ TbAt H' 4 5 12 0 0 g (clP' 2) (T.tab.setCell r c (quX (T.tab.cell r c) up n)) := by
  obtain ⟨gc, cl⟩ := clone_call hT hO
  have cl := cl 0 [boxT T, .cells 0 3 false [.agg [.lit true 0 [], .lit true 0 [], .lit true 0 []]]] 2
  have at0 := clone_at hO [boxT T, .cells 0 3 false [.agg [.lit true 0 [], .lit true 0 [], .lit true 0 []]]] gc
  have hpu := putU_end (clX T 2 gc) [boxT T, .cells 0 3 false [.agg [.lit true 0 [], .lit true 0 [], .lit true 0 []]]]
  have H1 : ([boxT T, .cells 0 3 false [.agg [.lit true 0 [], .lit true 0 [], .lit true 0 []]]] : Heap).length = 2 := rfl
  have hps : ∀ i, 2 ≤ clP' 2 i := fun i => by unfold clP'; split <;> omega
  rw [H1] at at0 hpu
  have hXl := clX_len T 2 gc hO.R1
  generalize hX : clX T 2 gc = X at cl at0 hpu hXl
  generalize hp : clP' 2 = ps at at0 hps ⊢
  have at1 := at0.more [.cells 0 3 false [memT T.tab (2 + 2) (2 + 3) (2 + 10) 0 0 gc]]
  have at2 := at1.write (k := c) hO.len hr (quX (T.tab.cell r c) up n)
  obtain ⟨l1, l2, l3, l4⟩ := at1.lt
  have l4 := l4 r hr
  have hp1 : ps r ≠ 1 := by have := hps r; omega
  have hpne : ps r ≠ X.length + 1 + 1 := fun e => by
    have := at0.lt.2.2.2 r hr
    rw [List.length_append, H1] at this
    omega
  have r0 : (0 : Int) ≤ (r : Int) := by omega
  have c0 : (0 : Int) ≤ (c : Int) := by omega
  have dR : decide ((r : Int) < (T.tab.R : Int)) = true := by simp; omega
  have dC : decide ((c : Int) < (T.tab.C : Int)) = true := by simp; omega
  have wA : IntKind.i64.wrap (n + 1) = n + 1 := i64_in _ (by omega)
  have wB : IntKind.i64.wrap (n - 1) = n - 1 := i64_in _ (by omega)
  have hget := rowA_get hO hr hc
  have hrl := rowA_length hO.len hO.wid hr
  have gs := fun b : Blk => get_snoc (X := X) rfl b
  have ss := fun b b' : Blk => set_snoc (X := X) rfl b b'
  have ls := fun b : Blk => len_snoc (X := X) rfl b
  have hacc := at1.acc
  have hrow := at1.row r hr
  have hva : (vecA T.tab.R fun i => AVal.ref (ps i) 0 0 T.tab.C false)[r]? = some (.ref (ps r) 0 0 T.tab.C false) := vecA_get _ hr
  have z1 : (ps r < X.length + 1 + 1 + 1) = True := eq_true (by
    rw [List.length_append, List.length_append, H1] at l4
    simp only [List.length_cons, List.length_nil] at l4; omega)
  have hcell : ∀ y, ((([boxT T, .cells 0 3 false [.agg [.lit true 0 [], .lit true 0 [], .lit true 0 []]]] ++ X) ++ [Blk.cells 0 3 false [memT T.tab (2 + 2) (2 + 3) (2 + 10) 0 0 gc]]).set (ps r) y)[X.length + 1 + 1]? = some (.cells 0 3 false [memT T.tab (2 + 2) (2 + 3) (2 + 10) 0 0 gc]) := fun y => by
    rw [List.getElem?_set_ne hpne]
    exact get_snoc (by rw [List.length_append, H1]; omega) _
  have hcell1 : ∀ y, ((([boxT T, .cells 0 3 false [.agg [.lit true 0 [], .lit true 0 [], .lit true 0 []]]] ++ X) ++ [Blk.cells 0 3 false [memT T.tab (2 + 2) (2 + 3) (2 + 10) 0 0 gc]]).set (ps r) y)[1]? = some (.cells 0 3 false [.agg [.lit true 0 [], .lit true 0 [], .lit true 0 []]]) := fun y => by
    rw [List.getElem?_set_ne hp1]; rfl
  refine ⟨gc, ((([boxT T, .cells 0 3 false [.agg [.lit true 0 [], .lit true 0 [], .lit true 0 []]]] ++ X) ++ [Blk.cells 0 3 false [memT T.tab (2 + 2) (2 + 3) (2 + 10) 0 0 gc]]).set (ps r) (.cells 0 2 true ((rowA T.tab r).set c (spV (quX (T.tab.cell r c) up n))))).set 1 (.cells 0 3 false [memT T.tab (2 + 2) (2 + 3) (2 + 10) 0 0 gc]), ?_, at2.mono fun i hi => ?_⟩
  · have z2 : (1 < X.length + 1 + 1 + 1) = True := eq_true (by omega)
    have hl1 : ∀ y b, (1 < (((boxT T :: Blk.cells 0 3 false [.agg [.lit true 0 [], .lit true 0 [], .lit true 0 []]] :: (X ++ [b])).set (ps r) y)).length) = True := fun y b => eq_true (by simp only [List.length_set, List.length_cons]; omega)
    have sel : ∀ (Z : Heap) (b : Blk), 1 < Z.length → (Z.set 1 b)[1]? = some b := fun Z b h => List.getElem?_set_self h
    have hl2 : ∀ y b, ((((boxT T :: Blk.cells 0 3 false [.agg [.lit true 0 [], .lit true 0 [], .lit true 0 []]] :: (X ++ [b])).set (ps r) y)).set 1 (.cells 0 3 false [memT T.tab (2 + 2) (2 + 3) (2 + 10) 0 0 gc]))[1]? = some (.cells 0 3 false [memT T.tab (2 + 2) (2 + 3) (2 + 10) 0 0 gc]) := fun y b => sel _ _ (of_eq_true (hl1 y b))
    simp only [boxT, Nat.reduceAdd, memT, List.cons_append, List.nil_append] at cl hpu hacc hrow hcell hcell1 hl1 hl2 ⊢
    cases up with
    | true =>
      have wr : writeAt (spV (T.tab.cell r c)) 0 (.int .i64 (n + 1)) = some (spV (quX (T.tab.cell r c) true n)) := rfl
      rw [run_unfold fn116 rfl]
      simp only [go_sem, simprocAttr, Try.f116, cl, hpu, r0, c0, Int.toNat_natCast, wA, wr, gs, ss, ls, hacc, hrow, hva, hcell, hcell1, hl1, hl2, hget, dR, dC, hrl, z1, z2, Nat.zero_le, Nat.lt_add_one, List.length_set, unwind, modeEx, resultsOf, one]
    | false =>
      have wr : writeAt (spV (T.tab.cell r c)) 1 (.int .i64 (n - 1)) = some (spV (quX (T.tab.cell r c) false n)) := rfl
      rw [run_unfold fn116 rfl]
      simp only [go_sem, simprocAttr, Try.f116, cl, hpu, r0, c0, Int.toNat_natCast, wB, wr, gs, ss, ls, hacc, hrow, hva, hcell, hcell1, hl1, hl2, hget, dR, dC, hrl, z1, z2, Nat.zero_le, Nat.lt_add_one, List.length_set, unwind, modeEx, resultsOf, one]
  · rw [List.getElem?_set_ne]
    rcases hi with rfl | rfl | rfl | ⟨j, hj, rfl⟩
    · omega
    · omega
    · omega
    · have := hps j; omega

theorem question_call {T : TabV} (hT : T.Wf) (hO : T.tab.Ok) {r c : Nat} (hr : r < T.tab.R) (hc : c < T.tab.C) {up : Bool} {n : Int} (hn0 : 0 ≤ n) (hn1 : n ≤ 2 ^ 30) (ro : Nat) (H : Heap) :
    ∃ g ps X, callT env 116 [T.v, .int .i64 r, .int .i64 c, .bool up, .int .i64 n] ro H H.length = some (.ret (memT T.tab (H.length + 4) (H.length + 5) (H.length + 12) 0 0 g), .ups (numbered H.length X)) ∧
      TbAt (H ++ X) (H.length + 4) (H.length + 5) (H.length + 12) 0 0 g ps (T.tab.setCell r c (quX (T.tab.cell r c) up n)) ∧ ∀ i, H.length ≤ ps i := by
  obtain ⟨g, H', hrun, hat⟩ := question_run hT hO hr hc (up := up) hn0 hn1
  have hu : underL 0 [T.v, .int .i64 r, .int .i64 c, .bool up, .int .i64 n] = true := by simp [underL, AVal.under, TabV.under]
  obtain ⟨l1, l2, l3, _⟩ := hat.lt
  have hcn : ∀ j, j < H'.length → (List.range' 0 H'.length).contains j = true := fun j hj => by simp; omega
  have hf : ∀ j, j < H'.length → nxF H.length H'.length j = some (H.length + j) := fun j hj => by unfold nxF; rw [if_pos hj]
  have hcall := call_keepAll (f := 116) rfl rfl rfl hu hrun (w := memT T.tab 4 5 12 0 0 g) (by
    unfold memT
    simp only [handBack, mapO, hcn 4 l1, hcn 5 l2, hcn 12 l3, Bool.or_true, if_true, Option.map_some]) ro H H.length
  refine ⟨g, _, _, ?_, hat.shift H, fun i => by omega⟩
  rw [hcall]
  simp only [AVal.ren, renL, memT, hf 4 l1, hf 5 l2, hf 12 l3]

set_option maxRecDepth 10000
set_option maxHeartbeats 4000000

theorem gap_run' {T : TabV} (hT : T.Wf) (hO : T.tab.Ok) (hn : canB T.tab = false) : ∃ (v : AVal) (H' : Heap) (l1 l2 : List Bool), runT env 76 [T.v] [] 0 = some (.ret v, H') ∧ handBack H' 0 [] 4 v = some (.tuple [cutV l1 l2, .bool true]) ∧
    l1.length = T.tab.R ∧ l2.length = T.tab.C ∧ T.tab.gap (fun i => l1.getD i false) (fun k => l2.getD k false) = true := by
  obtain ⟨v, w, H', hr, hb, hw⟩ := gap_run hT hO
  rcases hw with ⟨hf, rfl⟩ | ⟨met, hs, rfl⟩
  · rw [canB_true.2 ((settle_can hO).2 hf)] at hn; cases hn
  · have hov := (settle_bring (netOk_tab hO)).2
    rw [hs] at hov
    exact ⟨v, H', _, _, hr, hb, sideL_length _ _ _ _, sideL_length _ _ _ _, gap_is hov.2⟩

theorem cutV_pure (l1 l2 : List Bool) : noRef (.tuple [cutV l1 l2, .bool true]) = true := by
  have h := (⟨false, 1, l1, false, 1, l2⟩ : CutA).under 0
  have : noRef (cutV l1 l2) = true := h
  simp [noRef, AVal.under, underL] at this ⊢
  exact this

def bndS (up : Bool) (lo hi : Int) : Int := if up then hi else lo
def PrfAns (t : Tab) (i k : Int) (up : Bool) (w : AVal) : Prop := (askS t i k ≠ 0 ∧ w = .tuple [.agg [.lit true 0 [], .lit true 0 []], .int .i64 (askS t i k)]) ∨
  (askS t i k = 0 ∧ t.Ok ∧ ∃ lo hi c, IsEnds t.net [i.toNat * t.C + k.toNat] lo hi ∧ CutA.Wf c ∧ fitC t c = true ∧
    (plainB (t.cell i.toNat k.toNat) up (bndS up lo hi) || gapC (t.setCell i.toNat k.toNat (quX (t.cell i.toNat k.toNat) up (bndS up lo hi))) c) = true ∧ w = .tuple [c.v, .int .i64 0])

theorem beyond {t : Tab} (hO : t.Ok) {r c : Nat} (hr : r < t.R) (hc : c < t.C) {lo hi : Int} (he : IsEnds t.net [r * t.C + c] lo hi) (up : Bool) : canB (t.setCell r c (quX (t.cell r c) up (bndS up lo hi))) = false := by
  obtain ⟨e1, e2⟩ := ends_cell hr hc he
  obtain ⟨a1, a2⟩ := e1.range hr hc
  obtain ⟨b1, b2⟩ := e2.range hr hc
  rw [canB_false]
  rintro ⟨s, hs⟩
  cases up with
  | true =>
    have h := (fits_narrow hO hr hc (x := ⟨hi + 1, (t.cell r c).hi⟩) (by show (t.cell r c).lo ≤ hi + 1; omega) (Int.le_refl _) s).1 hs
    have h1 := e2.all s h.1
    have h2 : hi + 1 ≤ s r c := h.2.1
    omega
  | false =>
    have h := (fits_narrow hO hr hc (x := ⟨(t.cell r c).lo, lo - 1⟩) (Int.le_refl _) (by show lo - 1 ≤ (t.cell r c).hi; omega) s).1 hs
    have h1 := e1.all s h.1
    have h2 : s r c ≤ lo - 1 := h.2.2
    omega

theorem q_gap {T : TabV} (hT : T.Wf) (hO : T.tab.Ok) {r c : Nat} (hr : r < T.tab.R) (hc : c < T.tab.C) {up : Bool} {n : Int} (hn0 : 0 ≤ n) (hn1 : n ≤ 2 ^ 30) (hp : plainB (T.tab.cell r c) up n = false)
    (hno : canB (T.tab.setCell r c (quX (T.tab.cell r c) up n)) = false) (B1 B2 : Blk) :
    ∃ (g : Nat) (X X' : Heap) (us : Ups) (l1 l2 : List Bool), callT env 116 [T.v, .int .i64 r, .int .i64 c, .bool up, .int .i64 n] 0 [boxT T, B1, B2] 3 = some (.ret (.agg [.ref 7 0 0 T.tab.R false, .ref 8 0 0 T.tab.C false, .ref 15 g 0 T.tab.R false]), .ups (numbered 3 X)) ∧
      putU [boxT T, B1, B2] (numbered 3 X) = boxT T :: B1 :: B2 :: X ∧
      callT env 76 [.agg [.ref 7 0 0 T.tab.R false, .ref 8 0 0 T.tab.C false, .ref 15 g 0 T.tab.R false]] 0 (boxT T :: B1 :: B2 :: X) (X.length + 1 + 1 + 1) = some (.ret (.tuple [cutV l1 l2, .bool true]), .ups us) ∧
      putU (boxT T :: B1 :: B2 :: X) us = boxT T :: B1 :: B2 :: X' ∧ X'.length = X.length ∧
      l1.length = T.tab.R ∧ l2.length = T.tab.C ∧ gapC (T.tab.setCell r c (quX (T.tab.cell r c) up n)) ⟨false, 1, l1, false, 1, l2⟩ = true := by
  have hbc := hO.cell_ok hr hc
  have hqx : (quX (T.tab.cell r c) up n).ok = true := quX_ok (by simp [Spn.ok]; omega) hn0 hn1 hp
  have hO2 : (T.tab.setCell r c (quX (T.tab.cell r c) up n)).Ok := setCell_ok hO hr hqx
  obtain ⟨g, ps, X, qc, hat, hps⟩ := question_call hT hO hr hc (up := up) hn0 hn1 0 [boxT T, B1, B2]
  have H1 : ([boxT T, B1, B2] : Heap).length = 3 := rfl
  have hpu := putU_end X [boxT T, B1, B2]
  rw [H1] at qc hat hps hpu
  obtain ⟨v, H', l1, l2, hr', hb, k1, k2, k3⟩ := gap_run' (canon_wf hO2.R8 hO2.C8 hO2.len hO2.wid) (by rw [canon_tab]; exact hO2) (by rw [canon_tab]; exact hno)
  rw [canon_tab] at k1 k2 k3
  obtain ⟨ids, hle, hids⟩ := hat.lend' (lits := [0]) hO2.R8 hO2.len hO2.wid rfl (args := []) rfl
  obtain ⟨us, gc, hus⟩ := call_lent' (f := 76) rfl rfl rfl rfl hle tv_pure hr' hb (cutV_pure l1 l2) (X.length + 1 + 1 + 1)
  obtain ⟨X', e1, e2⟩ := putU_lent hus [boxT T, B1, B2] X (fun x hx => by
    obtain ⟨m1, m2, m3, m4⟩ := hat.lt
    rw [List.length_append, H1] at m1 m2 m3 m4
    rw [H1]
    rcases hids x hx with rfl | rfl | rfl | ⟨i, hi, rfl⟩
    · omega
    · omega
    · omega
    · exact ⟨hps i, m4 i hi⟩)
  exact ⟨g, X, X', us, l1, l2, qc, hpu, gc, e2, e1, k1, k2, k3⟩

theorem proof_call {T : TabV} (hT : T.Wf) (i k : Int) (up : Bool) : ∃ w, PrfAns T.tab i k up w ∧ ∀ ro H nx, callT env 59 [T.v, .int .i64 i, .int .i64 k, .bool up] ro H nx = some (.ret w, .ups []) := by
  have hu : underL 0 [T.v, .int .i64 i, .int .i64 k, .bool up] = true := by simp [underL, AVal.under, TabV.under]
  obtain ⟨w, hw, ce⟩ := cellE_call hT i k
  rcases hw with ⟨hz, rfl⟩ | ⟨hz, hO, lo, hi, he, rfl⟩
  · have hz' : decide (askS T.tab i k = 0) = false := decide_eq_false hz
    have : ∃ H', runT env 59 [T.v, .int .i64 i, .int .i64 k, .bool up] [] 0 = some (.ret (.tuple [.agg [.lit true 0 [], .lit true 0 []], .int .i64 (askS T.tab i k)]), H') := by
      rw [run_unfold fn59 rfl]
      simp only [go_sem, simprocAttr, Try.f59, ce, hz', unwind, modeEx, resultsOf, one]
      exact ⟨_, rfl⟩
    obtain ⟨H', h⟩ := this
    exact ⟨_, .inl ⟨hz, rfl⟩, fun ro H nx => call_pure rfl rfl rfl hu h rfl ro H nx⟩
  · obtain ⟨_, _, ho⟩ := askS_zero hz
    obtain ⟨r, c, rfl, rfl, hr, hc⟩ := outB_no ho
    rw [Int.toNat_natCast, Int.toNat_natCast] at he
    have r0 : (0 : Int) ≤ (r : Int) := by omega
    have c0 : (0 : Int) ≤ (c : Int) := by omega
    obtain ⟨s, _, q1, q2, q3, _, _⟩ := TabV.at hT hO hr hc
    have q3 := eq_true q3
    obtain ⟨e1, e2⟩ := ends_cell hr hc he
    obtain ⟨a1, a2⟩ := e1.range hr hc
    obtain ⟨b1, b2⟩ := e2.range hr hc
    have hbc := hO.cell_ok hr hc
    have pc := plain_call (T.tab.cell r c) up (bndS up lo hi)
    have hb0 : 0 ≤ bndS up lo hi := by cases up <;> simp only [bndS, if_true, Bool.false_eq_true, if_false] <;> omega
    have hb1 : bndS up lo hi ≤ 2 ^ 30 := by cases up <;> simp only [bndS, if_true, Bool.false_eq_true, if_false] <;> omega
    have hR8 := hO.R8
    have hC8 := hO.C8
    cases hp : plainB (T.tab.cell r c) up (bndS up lo hi) with
    | true =>
      rw [hp] at pc
      have lr : T.rows.l.length = T.tab.R := rfl
      have lc : T.cols.l.length = T.tab.C := rfl
      have R0 : (0 : Int) ≤ (T.tab.R : Int) := by omega
      have C0 : (0 : Int) ≤ (T.tab.C : Int) := by omega
      have m1 : T.tab.R * 2 ≤ maxBytes := by unfold maxBytes; omega
      have m2 : T.tab.C * 2 ≤ maxBytes := by unfold maxBytes; omega
      have bd28 : build env ⟨.struct [(26, 0), (26, 1)], 2, 48, .agg [.lit true 0 [], .lit true 0 []]⟩ [(0, .ref 3 0 0 T.tab.R false), (1, .ref 4 0 0 T.tab.C false)] = some (.agg [.ref 3 0 0 T.tab.R false, .ref 4 0 0 T.tab.C false]) := rfl
      have : ∃ H' : Heap, H'[3]? = some (.cells 0 1 true (List.replicate T.tab.R (.bool false))) ∧ H'[4]? = some (.cells 0 1 true (List.replicate T.tab.C (.bool false))) ∧ runT env 59 [T.v, .int .i64 r, .int .i64 c, .bool up] [] 0 = some (.ret (.tuple [.agg [.ref 3 0 0 T.tab.R false, .ref 4 0 0 T.tab.C false], .int .i64 0]), H') := by
        cases up with
        | true =>
          have pc' := pc
          simp only [bndS, if_true] at pc'
          refine ⟨?_, ?_, ?_, ?_⟩
          case refine_4 =>
            rw [run_unfold fn59 rfl]
            simp only [go_sem, simprocAttr, Try.f59, ce, r0, c0, Int.toNat_natCast, q1, q2, q3, pc', List.length_map, lr, lc, R0, C0, m1, m2, bd28, unwind, modeEx, resultsOf, one]
            rw [apart_ok]
            · simp only [go_sem, simprocAttr, unwind, modeEx, resultsOf, one]
              rfl
            · kernel_rfl
          · rfl
          · rfl
        | false =>
          have pc' := pc
          simp only [bndS, Bool.false_eq_true, if_false] at pc'
          refine ⟨?_, ?_, ?_, ?_⟩
          case refine_4 =>
            rw [run_unfold fn59 rfl]
            simp only [go_sem, simprocAttr, Try.f59, ce, r0, c0, Int.toNat_natCast, q1, q2, q3, pc', List.length_map, lr, lc, R0, C0, m1, m2, bd28, unwind, modeEx, resultsOf, one]
            rw [apart_ok]
            · simp only [go_sem, simprocAttr, unwind, modeEx, resultsOf, one]
              rfl
            · kernel_rfl
          · rfl
          · rfl
      obtain ⟨H', h3, h4, h⟩ := this
      have w1 : List.replicate T.tab.R (AVal.bool false) = boolsV (List.replicate T.tab.R false) := by simp [boolsV]
      have w2 : List.replicate T.tab.C (AVal.bool false) = boolsV (List.replicate T.tab.C false) := by simp [boolsV]
      have hwf : (⟨false, 1, List.replicate T.tab.R false, false, 1, List.replicate T.tab.C false⟩ : CutA).Wf := ⟨.inr rfl, .inr rfl, by simp; omega, by simp; omega⟩
      have hb : handBack H' 0 [] 4 (.tuple [.agg [.ref 3 0 0 T.tab.R false, .ref 4 0 0 T.tab.C false], .int .i64 0]) = some (.tuple [(⟨false, 1, List.replicate T.tab.R false, false, 1, List.replicate T.tab.C false⟩ : CutA).v, .int .i64 0]) := by
        rw [w1] at h3
        rw [w2] at h4
        have t1 : (boolsV (List.replicate T.tab.R false)).take T.tab.R = boolsV (List.replicate T.tab.R false) := List.take_of_length_le (by simp [boolsV])
        have t2 : (boolsV (List.replicate T.tab.C false)).take T.tab.C = boolsV (List.replicate T.tab.C false) := List.take_of_length_le (by simp [boolsV])
        simp [handBack, toLit, noRef, AVal.under, mapO, h3, h4, t1, t2, CutA.v, boolsV_length]
      refine ⟨_, .inr ⟨hz, hO, lo, hi, _, by rw [Int.toNat_natCast, Int.toNat_natCast]; exact he, hwf, by simp [fitC], by rw [Int.toNat_natCast, Int.toNat_natCast, hp]; rfl, rfl⟩, fun ro H nx => call_back rfl rfl rfl hu h hb ?_ ro H nx⟩
      have := (⟨false, 1, List.replicate T.tab.R false, false, 1, List.replicate T.tab.C false⟩ : CutA).under 0
      simp [noRef, AVal.under, underL, this]
    | false =>
      rw [hp] at pc
      obtain ⟨g, X, X', us, l1, l2, k1, k2, k3, k4, k5, k6, k7, k8⟩ := q_gap hT hO hr hc hb0 hb1 hp (beyond hO hr hc he up) (.cells 0 2 false [.agg [.lit true 0 [], .lit true 0 []]]) (.cells 0 2 true [spV ⟨lo, hi⟩])
      have gs := fun b : Blk => get_snoc (X := X') k5 b
      have ss := fun b b' : Blk => set_snoc (X := X') k5 b b'
      have ls := fun b : Blk => len_snoc (X := X') k5 b
      have hcu : cutV l1 l2 = (⟨false, 1, l1, false, 1, l2⟩ : CutA).v := rfl
      rw [hcu] at k3
      have hun := (⟨false, 1, l1, false, 1, l2⟩ : CutA).under 0
      refine ⟨.tuple [(⟨false, 1, l1, false, 1, l2⟩ : CutA).v, .int .i64 0], .inr ⟨hz, hO, lo, hi, _, by rw [Int.toNat_natCast, Int.toNat_natCast]; exact he, ⟨.inr rfl, .inr rfl, by show l1.length < _; omega, by show l2.length < _; omega⟩, fitC_iff.2 ⟨k6, k7⟩, by rw [Int.toNat_natCast, Int.toNat_natCast, k8, Bool.or_true], rfl⟩, ?_⟩
      have : ∃ H', runT env 59 [T.v, .int .i64 r, .int .i64 c, .bool up] [] 0 = some (.ret (.tuple [(⟨false, 1, l1, false, 1, l2⟩ : CutA).v, .int .i64 0]), H') := by
        simp only [boxT, spV_eq] at k1 k2 k3 k4
        cases up with
        | true =>
          simp only [bndS, if_true] at pc k1
          rw [run_unfold fn59 rfl]
          simp only [go_sem, simprocAttr, Try.f59, ce, r0, c0, Int.toNat_natCast, q1, q2, q3, pc, k1, k2, k3, k4, k5, gs, ss, ls, Nat.lt_add_one, unwind, modeEx, resultsOf, one]
          exact ⟨_, rfl⟩
        | false =>
          simp only [bndS, Bool.false_eq_true, if_false] at pc k1
          rw [run_unfold fn59 rfl]
          simp only [go_sem, simprocAttr, Try.f59, ce, r0, c0, Int.toNat_natCast, q1, q2, q3, pc, k1, k2, k3, k4, k5, gs, ss, ls, Nat.lt_add_one, unwind, modeEx, resultsOf, one]
          exact ⟨_, rfl⟩
      obtain ⟨H', h⟩ := this
      exact fun ro H nx => call_pure rfl rfl rfl hu h (by simp [noRef, AVal.under, underL, hun]) ro H nx

set_option maxRecDepth 10000
set_option maxHeartbeats 4000000

def Cov (m : Nat) : List Foot → List Foot → Prop
  | [], [] => True
  | a :: l, b :: l' => (a.i = b.i ∧ (∀ x ∈ a.reads, min x m ∈ b.reads) ∧ ∀ x ∈ a.writes, min x m ∈ b.writes) ∧ Cov m l l'
  | _, _ => False
theorem meets_cov {m : Nat} {a b a' b' : List Nat} (ha : ∀ x ∈ a, min x m ∈ a') (hb : ∀ x ∈ b, min x m ∈ b') (h : meets a' b' = false) : meets a b = false := by
  simp only [meets, List.any_eq_false, List.contains_iff_mem] at h ⊢
  exact fun x hx hxb => h _ (ha x hx) (hb x hxb)
theorem apart_cov {m : Nat} {bf : Array Nat} : ∀ {l l' : List Foot}, Cov m l l' → apart bf l' = true → apart bf l = true
  | [], [], _, _ => rfl
  | a :: l, b :: l', ⟨⟨e, h1, h2⟩, hc⟩, h => by
    simp only [apart, Bool.and_eq_true] at h ⊢
    refine ⟨?_, apart_cov hc h.2⟩
    have key : ∀ (l l' : List Foot), Cov m l l' → (l'.all fun c => !clash b c || (bf.getD c.i 0).testBit b.i) = true → (l.all fun c => !clash a c || (bf.getD c.i 0).testBit a.i) = true := by
      intro l
      induction l with
      | nil => intro l' _ _; rfl
      | cons c l ih =>
        intro l' hc h
        cases l' with
        | nil => exact hc.elim
        | cons c' l' =>
          obtain ⟨⟨e2, k1, k2⟩, hc⟩ := hc
          simp only [List.all_cons, Bool.and_eq_true, Bool.or_eq_true] at h ⊢
          refine ⟨?_, ih l' hc h.2⟩
          rcases h.1 with h | h
          · left
            simp only [clash, Bool.not_eq_true', Bool.or_eq_false_iff] at h ⊢
            refine ⟨?_, ?_⟩ <;> first
              | exact meets_cov h2 (fun x hx => by
                  rw [List.mem_append] at hx ⊢
                  exact hx.imp (k1 x) (k2 x)) (by first | exact h.1 | exact h.2)
              | exact meets_cov k2 h1 (by first | exact h.1 | exact h.2)
              | exact meets_cov h1 k2 (by first | exact h.1 | exact h.2)
          · right
            rw [e, e2]; exact h
    exact key _ _ hc h.1
  | [], _ :: _, h, _ => h.elim
  | _ :: _, [], h, _ => h.elim
def cpFoot : List Foot := [⟨0, [], []⟩, ⟨1, [0], []⟩, ⟨2, [], []⟩, ⟨3, [], []⟩, ⟨4, [], []⟩, ⟨5, [], []⟩, ⟨6, [], []⟩, ⟨7, [], []⟩, ⟨8, [], []⟩, ⟨9, [], []⟩, ⟨10, [], []⟩, ⟨11, [], []⟩, ⟨12, [0], []⟩, ⟨13, [], []⟩, ⟨14, [], []⟩, ⟨15, [], []⟩, ⟨16, [], []⟩, ⟨17, [], [2]⟩, ⟨18, [1], []⟩, ⟨19, [0, 1, 2], []⟩, ⟨20, [], []⟩]
theorem consec_num {m : Nat} : ∀ (l : List Blk) (n : Nat), m ≤ n → consec m n (numbered n l) = true
  | [], _, _ => rfl
  | b :: l, n, h => by
    simp only [numbered, consec]
    rw [if_neg (by omega), beq_self_eq_true, Bool.true_and]
    exact consec_num l (n + 1) (by omega)
theorem num_ge : ∀ (l : List Blk) (n : Nat), ∀ x ∈ (numbered n l).map (fun x => x.1), n ≤ x
  | [], _, x, h => by simp [numbered] at h
  | b :: l, n, x, h => by
    simp only [numbered, List.map_cons, List.mem_cons] at h
    rcases h with rfl | h
    · exact Nat.le_refl _
    · have := num_ge l (n + 1) x h; omega

theorem looks_some {H : Heap} : ∀ (ids seen : List Nat) (n : Nat), (∀ id ∈ ids, ∃ g sz es, H[id]? = some (.cells g sz true es)) → ids.length ≤ n → ∃ l, looks H n ids seen = some l
  | [], seen, n, _, _ => by cases n <;> exact ⟨_, rfl⟩
  | id :: ids, seen, n, hf, hl => by
    obtain ⟨n, rfl⟩ : ∃ m, n = m + 1 := ⟨n - 1, by simp at hl; omega⟩
    obtain ⟨g, sz, es, hH⟩ := hf id (by simp)
    have ih := fun seen => looks_some (H := H) ids seen n (fun x hx => hf x (by simp [hx])) (by simp at hl; omega)
    simp only [looks, hH, if_true]
    split
    · exact ih _
    · exact ih _
theorem TbAt.looks {H : Heap} {a b q ga gb g : Nat} {ps : Nat → Nat} {t : Tab} (h : TbAt H a b q ga gb g ps t) (hR : t.R ≤ 8) : ∃ l, Tidy.looks H fuel0 [a, b, q] [] = some l := by
  have hab : b ≠ a := Ne.symm h.ab
  have haq : q ≠ a := Ne.symm h.aq
  have hbq : q ≠ b := Ne.symm h.bq
  have hrl : refsL (vecA t.R fun i => AVal.ref (ps i) 0 0 t.C false) = vecA t.R ps := by
    unfold vecA
    induction (List.range t.R) with
    | nil => rfl
    | cons i l ih => simp [refsL, AVal.refs, ih]
  obtain ⟨l, hl⟩ := looks_some (H := H) (vecA t.R ps) [a, b, q] 61 (fun id hid => by
    unfold vecA at hid
    obtain ⟨i, hi, rfl⟩ := List.mem_map.1 hid
    exact ⟨_, _, _, h.row i (List.mem_range.1 hi)⟩) (by rw [vecA_length]; omega)
  refine ⟨l, ?_⟩
  unfold fuel0
  simp [Tidy.looks, h.rows, h.cols, h.acc, hab, haq, hbq, hrl, hl]

theorem q_is {T : TabV} (hT : T.Wf) (hO : T.tab.Ok) {r c : Nat} (hr : r < T.tab.R) (hc : c < T.tab.C) {up : Bool} {n : Int} (hn0 : 0 ≤ n) (hn1 : n ≤ 2 ^ 30) (hp : plainB (T.tab.cell r c) up n = false)
    {cu : CutA} (hcu : cu.Wf) (h1 : cu.l1.length = T.tab.R) (h2 : cu.l2.length = T.tab.C) (B1 : Blk) :
    ∃ (g : Nat) (X : Heap) (lk : List Nat), looks (boxT T :: B1 :: X) fuel0 [6, 7, 14] [] = some lk ∧ callT env 116 [T.v, .int .i64 r, .int .i64 c, .bool up, .int .i64 n] 0 [boxT T, B1] 2 = some (.ret (.agg [.ref 6 0 0 T.tab.R false, .ref 7 0 0 T.tab.C false, .ref 14 g 0 T.tab.R false]), .ups (numbered 2 X)) ∧
      putU [boxT T, B1] (numbered 2 X) = boxT T :: B1 :: X ∧
      callT env 78 [.agg [.ref 6 0 0 T.tab.R false, .ref 7 0 0 T.tab.C false, .ref 14 g 0 T.tab.R false], cu.v] 0 (boxT T :: B1 :: X) (X.length + 1 + 1) = some (.ret (.bool (gapC (T.tab.setCell r c (quX (T.tab.cell r c) up n)) cu)), .ups []) := by
  have hbc := hO.cell_ok hr hc
  have hqx : (quX (T.tab.cell r c) up n).ok = true := quX_ok (by simp [Spn.ok]; omega) hn0 hn1 hp
  have hO2 : (T.tab.setCell r c (quX (T.tab.cell r c) up n)).Ok := setCell_ok hO hr hqx
  obtain ⟨g, ps, X, qc, hat, hps⟩ := question_call hT hO hr hc (up := up) hn0 hn1 0 [boxT T, B1]
  have H1 : ([boxT T, B1] : Heap).length = 2 := rfl
  have hpu := putU_end X [boxT T, B1]
  rw [H1] at qc hat hps hpu
  have hgap := is_run (canon_wf hO2.R8 hO2.C8 hO2.len hO2.wid) (by rw [canon_tab]; exact hO2) hcu (by rw [canon_tab]; exact h1) (by rw [canon_tab]; exact h2)
  rw [canon_tab] at hgap
  obtain ⟨Hm, mr⟩ := hgap
  obtain ⟨ids, hle⟩ := hat.lend (lits := [0, 1]) hO2.R8 hO2.len hO2.wid rfl (args := [cu.v]) (by simp [underL, CutA.under])
  obtain ⟨us, mc, hus⟩ := call_lent (f := 78) rfl rfl rfl rfl hle (tc_pure _ _) mr (handBack_noRef _ _ _ _ _ rfl) rfl (X.length + 1 + 1)
  have hus := hus rfl
  subst hus
  obtain ⟨lk, hlk⟩ := hat.looks hO2.R8
  exact ⟨g, X, lk, hlk, qc, hpu, mc⟩

theorem cp_call {T : TabV} (hT : T.Wf) (i k : Int) (up : Bool) (n : Int) {cu : CutA} (hcu : cu.Wf) (ro : Nat) (H : Heap) (nx : Nat) : callT env 60 [T.v, .int .i64 i, .int .i64 k, .bool up, .int .i64 n, cu.v] ro H nx = some (.ret (.int .i64 (cpS T.tab i k up n cu)), .ups []) := by
  have hu : underL 0 [T.v, .int .i64 i, .int .i64 k, .bool up, .int .i64 n, cu.v] = true := by simp [underL, AVal.under, TabV.under, CutA.under]
  have : ∃ H', runT env 60 [T.v, .int .i64 i, .int .i64 k, .bool up, .int .i64 n, cu.v] [] 0 = some (.ret (.int .i64 (cpS T.tab i k up n cu)), H') := by
    have ck := check_call T hT
    have fc := fits_call T cu
    have lr : T.rows.l.length = T.tab.R := rfl
    have lc : T.cols.l.length = T.tab.C := rfl
    have sh := share_call n
    unfold cpS badB
    rw [run_unfold fn60 rfl]
    cases hok : T.tab.ok with
    | false =>
      simp only [go_sem, simprocAttr, Try.f60, ck, ckS_no hok, unwind, modeEx, resultsOf, one, Bool.false_eq_true, if_false]
      exact ⟨_, rfl⟩
    | true =>
      cases ho : outB T.tab i k with
      | true =>
        cases d1 : decide (i < 0) <;> cases d2 : decide ((T.tab.R : Int) ≤ i) <;> cases d3 : decide (k < 0) <;> cases d4 : decide ((T.tab.C : Int) ≤ k) <;>
          first
          | (exfalso; unfold outB at ho; rw [d1, d2, d3, d4] at ho; exact Bool.noConfusion ho)
          | (simp only [go_sem, simprocAttr, Try.f60, ck, ckS_ok hok, List.length_map, lr, lc, d1, d2, d3, d4, unwind, modeEx, resultsOf, one, if_true, Bool.true_or]
             exact ⟨_, rfl⟩)
      | false =>
        have d : decide (i < 0) = false ∧ decide ((T.tab.R : Int) ≤ i) = false ∧ decide (k < 0) = false ∧ decide ((T.tab.C : Int) ≤ k) = false := by
          unfold outB at ho
          simpa only [Bool.or_eq_false_iff] using ho
        obtain ⟨d1, d2, d3, d4⟩ := d
        cases hb : decide (0 ≤ n) && decide (n ≤ 2 ^ 30) with
        | false =>
          rw [hb] at sh
          simp only [go_sem, simprocAttr, Try.f60, ck, ckS_ok hok, List.length_map, lr, lc, d1, d2, d3, d4, sh, hb, unwind, modeEx, resultsOf, one, if_true, Bool.false_or, Bool.not_false]
          exact ⟨_, rfl⟩
        | true =>
          rw [hb] at sh
          cases hf : fitC T.tab cu with
          | false =>
            rw [hf] at fc
            simp only [go_sem, simprocAttr, Try.f60, ck, ckS_ok hok, List.length_map, lr, lc, d1, d2, d3, d4, sh, hb, fc, unwind, modeEx, resultsOf, one, if_true, Bool.false_or, Bool.not_true, Bool.false_eq_true, if_false]
            exact ⟨_, rfl⟩
          | true =>
            rw [hf] at fc
            have hO := Tab.ok_iff.1 hok
            obtain ⟨h1, h2⟩ := fitC_iff.1 hf
            rw [Bool.and_eq_true, decide_eq_true_eq, decide_eq_true_eq] at hb
            obtain ⟨hn0, hn1⟩ := hb
            have hb : (decide (0 ≤ n) && decide (n ≤ 2 ^ 30)) = true := by rw [Bool.and_eq_true, decide_eq_true_eq, decide_eq_true_eq]; exact ⟨hn0, hn1⟩
            obtain ⟨r, c, rfl, rfl, hr, hc⟩ := outB_no ho
            have r0 : (0 : Int) ≤ (r : Int) := by omega
            have c0 : (0 : Int) ≤ (c : Int) := by omega
            obtain ⟨s, _, q1, q2, q3, _, _⟩ := TabV.at hT hO hr hc
            have q3 := eq_true q3
            have pc := plain_call (T.tab.cell r c) up n
            rw [Int.toNat_natCast, Int.toNat_natCast]
            cases hp : plainB (T.tab.cell r c) up n with
            | true =>
              rw [hp] at pc
              simp only [go_sem, simprocAttr, Try.f60, ck, ckS_ok hok, List.length_map, lr, lc, d1, d2, d3, d4, sh, hb, fc, r0, c0, Int.toNat_natCast, q1, q2, q3, pc, unwind, modeEx, resultsOf, one, if_true, Bool.false_or, Bool.not_true, Bool.false_eq_true, if_false, Bool.true_or]
              exact ⟨_, rfl⟩
            | false =>
              rw [hp] at pc
              obtain ⟨g, X, lk, k0, k1, k2, k3⟩ := q_is hT hO hr hc hn0 hn1 hp hcu h1 h2 (.cells 0 2 false [cu.v])
              simp only [boxT] at k0 k1 k2 k3
              have z1 : decide (1 < X.length + 1 + 1) = true := decide_eq_true (by omega)
              have z2 : consec 2 2 (numbered 2 X) = true := consec_num X 2 (Nat.le_refl _)
              have hW : ∀ x ∈ (numbered 2 X).map (fun x => x.1), min x 2 = 2 := fun x hx => by have := num_ge X 2 x hx; omega
              cases hg : gapC (T.tab.setCell r c (quX (T.tab.cell r c) up n)) cu <;> rw [hg] at k3 <;>
                (simp only [go_sem, simprocAttr, Try.f60, ck, ckS_ok hok, List.length_map, lr, lc, d1, d2, d3, d4, sh, hb, fc, r0, c0, Int.toNat_natCast, q1, q2, q3, pc, k0, k1, k2, k3, z1, z2, unwind, modeEx, resultsOf, one, if_true, Bool.false_or, Bool.not_true, Bool.false_eq_true, if_false]
                 rw [apart_ok]
                 · simp only [go_sem, simprocAttr, unwind, modeEx, resultsOf, one]
                   exact ⟨_, rfl⟩
                 · generalize (numbered 2 X).map (fun x => x.1) = W at hW ⊢
                   refine apart_cov (m := 2) (l' := cpFoot) ?_ (apart_of_V (by kernel_rfl))
                   have hlt : ∀ x ∈ lk, x = 0 ∨ min x 2 = 1 ∨ min x 2 = 2 := fun x _ => by omega
                   simp [Cov, cpFoot]
                   exact ⟨hW, hlt⟩)
  obtain ⟨H', h⟩ := this
  exact call_pure rfl rfl rfl hu h rfl ro H nx

set_option maxRecDepth 10000
set_option maxHeartbeats 4000000

theorem cpS_zero {t : Tab} {i k : Int} {up : Bool} {n : Int} {c : CutA} (hO : t.Ok) (ho : outB t i k = false) (h0 : 0 ≤ n) (h1 : n ≤ 2 ^ 30) (hf : fitC t c = true) (hg : (plainB (t.cell i.toNat k.toNat) up n || gapC (t.setCell i.toNat k.toNat (quX (t.cell i.toNat k.toNat) up n)) c) = true) : cpS t i k up n c = 0 := by
  unfold cpS badB
  rw [Tab.ok_iff.2 hO, ho, hf, hg]
  simp only [decide_eq_true h0, decide_eq_true h1, Bool.and_self, Bool.not_true, Bool.or_false, Bool.false_eq_true, if_true, if_false]

set_option maxRecDepth 10000
set_option maxHeartbeats 2000000

def cellsGd (t : Tab) (x : Nat → Nat → Int) (i : Nat) : Bool := allN (fun k => (t.cell i k).has (x i k)) 0 t.C
def rowGd (t : Tab) (m : List (List Int)) (i : Nat) : Bool := decide ((m.getD i []).length = t.C) && (cellsGd t (matOf m) i && (t.row i).has (sumN t.C (matOf m i)))

def alH (T : TabV) (M : MatV) (i k : Nat) : Heap := [boxT T, .cells 0 1 true (intsV T.tab.C (cS (matOf M.m) i k))]

def Before (t : Tab) (x : Nat → Nat → Int) (i : Nat) : Prop := ∀ i', i' < i → ∀ k, k < t.C → 0 ≤ x i' k ∧ x i' k ≤ 2 ^ 30

theorem al_inner {T : TabV} {M : MatV} (hT : T.Wf) (hO : T.tab.Ok) (hM : M.Wf) {i : Nat} (hi : i < T.tab.R) {b : SlI} (hb : M.rows[i]? = some b) (hw : b.l.length = T.tab.C) (hB : Before T.tab (matOf M.m) i) : ∀ (n k : Nat) (j0 j1 j3 j4 j8 j10 j11 j12 j13 j14 j15 j16 j17 j18 j19 j20 j21 j22 j23 j27 j28 j29 j30 j31 j32 j33 j34 j35 j36 j40 j41 j42 j43 j44 j45 j46 j47 j48 j49 j50 j51 j52 j53 j54 j55 j56 j57 j58 j59 j60 j61 j62 j63 j64 j65 j66 j67 j68 j69 j70 j71 j72 j73 j74 j75 j76 j77 j78 j79 j80 j81 j82 j83 j84 j85 j86 j87 j88 j89 j90 j91 j92 j93 : AVal), k + n = T.tab.C → (∀ j, j < k → 0 ≤ matOf M.m i j ∧ matOf M.m i j ≤ 2 ^ 30) →
    Goes (execT env (Try.f39.at [1, 1, 1, 1, 0, 1, 0, 0, 1, 1, 0, 0, 1, 1, 1, 0, 1, 0]) ⟨[j0, j1, .ptr 0 0 0 0, j3, j4, .func 101 [] [], .ref 1 0 0 T.tab.C false, .int .i64 i, j8, .int .i64 (sumN k (matOf M.m i)), j10, j11, j12, j13, j14, j15, j16, j17, j18, j19, j20, j21, j22, j23, .lit M.cl M.sz (M.rows.map SlI.v), .int .i64 T.tab.R, .int .i64 i, j27, j28, j29, j30, j31, j32, j33, j34, j35, j36, .lit b.cl b.sz (b.l.map (AVal.int .i64)), .int .i64 T.tab.C, .int .i64 k, j40, j41, j42, j43, j44, j45, j46, j47, j48, j49, j50, j51, j52, j53, j54, j55, j56, j57, j58, j59, j60, j61, j62, j63, j64, j65, j66, j67, j68, j69, j70, j71, j72, j73, j74, j75, j76, j77, j78, j79, j80, j81, j82, j83, j84, j85, j86, j87, j88, j89, j90, j91, j92, j93], alH T M i k, [], 0, []⟩) fun ex st =>
      if allN (fun k => (T.tab.cell i k).has (matOf M.m i k)) k n then ex = .exit 2 ∧ (∀ j, j < T.tab.C → 0 ≤ matOf M.m i j ∧ matOf M.m i j ≤ 2 ^ 30) ∧ FrP 94 [(2, .ptr 0 0 0 0), (5, .func 101 [] []), (6, .ref 1 0 0 T.tab.C false), (7, .int .i64 i), (9, .int .i64 (sumN T.tab.C (matOf M.m i))), (24, .lit M.cl M.sz (M.rows.map SlI.v)), (25, .int .i64 T.tab.R), (26, .int .i64 i)] (alH T M i T.tab.C) [] 0 [] st
      else ex = .ret ∧ ∃ (H : Heap), FrP 94 [(4, .bool false)] H [] 0 [] st := by
  have hR8 := hO.R8
  have hC8 := hO.C8
  intro n
  induction n with
  | zero =>
    intro k; intros; rename_i hk hj
    have hd : decide ((k : Int) < (T.tab.C : Int)) = false := by simp; omega
    have : k = T.tab.C := by omega
    subst this
    simp only [go_sem, simprocAttr, Try.f39]
    rw [exec_loop]
    simp only [go_sem, simprocAttr, hd]
    exact ⟨hj, frP (by kernel_rfl)⟩
  | succ n ih =>
    intro k; intros; rename_i hk hj
    have hkC : k < T.tab.C := by omega
    have hd : decide ((k : Int) < (T.tab.C : Int)) = true := by simp; omega
    have h0 : (0 : Int) ≤ (k : Int) := by omega
    have h0i : (0 : Int) ≤ (i : Int) := by omega
    obtain ⟨c, hcm, hc1, hc2, hc3, _, _⟩ := TabV.at hT hO hi hkC
    obtain ⟨x, hx, _⟩ := get_drop (show k < b.l.length by omega)
    have hz := sz_of (hM.each b (List.mem_of_getElem? hb)) hx
    have hx' : (b.l.map (AVal.int .i64))[k]? = some (.int .i64 x) := by simp [hx]
    have hm := matOf_get hb hx
    cases hp : (T.tab.cell i k).has (matOf M.m i k) with
    | false =>
      have hp' := hp
      rw [hm] at hp'
      simp only [go_sem, simprocAttr, Try.f39, alH, boxT]
      rw [exec_loop]
      simp only [go_sem, simprocAttr, hd, h0, h0i, Int.toNat_natCast, hc1, hc2, hc3, hx', hz, hp', allN, hp]
      exact ⟨_, frP (by kernel_rfl)⟩
    | true =>
      have hp' := hp
      rw [hm] at hp'
      have hxb := hO.cell_ok hi hkC
      have hxh := Spn.has_iff.1 hp
      have b1 := sumN_bd (n := k) (f := matOf M.m i) (B := 2 ^ 30) hj
      have b2 := sumN_bd (n := i) (f := fun i => matOf M.m i k) (B := 2 ^ 30) fun j hj => hB j hj k hkC
      have g2 : (intsV T.tab.C (cS (matOf M.m) i k))[k]? = some (.int .i64 (sumN i fun i => matOf M.m i k)) := by rw [intsV_get hkC]; simp [cS]
      have w1 : IntKind.i64.wrap (sumN k (matOf M.m i) + x) = sumN (k + 1) (matOf M.m i) := by rw [i64_in _ (by omega)]; simp only [sumN, hm]
      have w2 : IntKind.i64.wrap (sumN i (fun i => matOf M.m i k) + x) = sumN i (fun i => matOf M.m i k) + x := i64_in _ (by omega)
      have s2 : (intsV T.tab.C (cS (matOf M.m) i k)).set k (.int .i64 (sumN i (fun i => matOf M.m i k) + x)) = intsV T.tab.C (cS (matOf M.m) i (k + 1)) := intsV_set fun j hj => by
        unfold cS
        by_cases e : j = k
        · subst e; rw [if_pos (by omega), if_pos rfl]; simp only [sumN]; rw [hm]
        · rw [if_neg e]
          by_cases e2 : j < k
          · rw [if_pos e2, if_pos (by omega)]
          · rw [if_neg e2, if_neg (by omega)]
      have ih' := ih (k + 1)
      simp only [go_sem, simprocAttr, Try.f39, hz, alH, boxT] at ih' ⊢
      rw [exec_loop]
      simp only [go_sem, simprocAttr, hd, h0, h0i, Int.toNat_natCast, hc1, hc2, hc3, hx', hz, hp', allN, hp, g2, w1, w2, s2, wrap_succ (show k < 2 ^ 63 - 1 by omega)]
      refine ih' _ _ _ _ _ _ _ _ _ _ _ _ _ _ _ _ _ _ _ _ _ _ _ _ _ _ _ _ _ _ _ _ _ _ _ _ _ _ _ _ _ _ _ _ _ _ _ _ _ _ _ _ _ _ _ _ _ _ _ _ _ _ _ _ _ _ _ _ _ _ _ _ _ _ _ _ _ _ _ _ _ _ _ (by omega) fun j hj' => ?_
      by_cases e : j = k
      · subst e; omega
      · exact hj j (by omega)

theorem al_outer {T : TabV} {M : MatV} (hT : T.Wf) (hO : T.tab.Ok) (hM : M.Wf) (hl : M.rows.length = T.tab.R) : ∀ (n i : Nat) (j0 j1 j3 j4 j7 j8 j9 j10 j11 j12 j13 j14 j15 j16 j17 j18 j19 j20 j21 j22 j23 j27 j28 j29 j30 j31 j32 j33 j34 j35 j36 j37 j38 j39 j40 j41 j42 j43 j44 j45 j46 j47 j48 j49 j50 j51 j52 j53 j54 j55 j56 j57 j58 j59 j60 j61 j62 j63 j64 j65 j66 j67 j68 j69 j70 j71 j72 j73 j74 j75 j76 j77 j78 j79 j80 j81 j82 j83 j84 j85 j86 j87 j88 j89 j90 j91 j92 j93 : AVal), i + n = T.tab.R → Before T.tab (matOf M.m) i →
    Goes (execT env (Try.f39.at [1, 1, 1, 1, 0, 1, 0]) ⟨[j0, j1, .ptr 0 0 0 0, j3, j4, .func 101 [] [], .ref 1 0 0 T.tab.C false, j7, j8, j9, j10, j11, j12, j13, j14, j15, j16, j17, j18, j19, j20, j21, j22, j23, .lit M.cl M.sz (M.rows.map SlI.v), .int .i64 T.tab.R, .int .i64 i, j27, j28, j29, j30, j31, j32, j33, j34, j35, j36, j37, j38, j39, j40, j41, j42, j43, j44, j45, j46, j47, j48, j49, j50, j51, j52, j53, j54, j55, j56, j57, j58, j59, j60, j61, j62, j63, j64, j65, j66, j67, j68, j69, j70, j71, j72, j73, j74, j75, j76, j77, j78, j79, j80, j81, j82, j83, j84, j85, j86, j87, j88, j89, j90, j91, j92, j93], alH T M i 0, [], 0, []⟩) fun ex st =>
      if allN (rowGd T.tab M.m) i n then ex = .exit 0 ∧ Before T.tab (matOf M.m) T.tab.R ∧ FrP 94 [(2, .ptr 0 0 0 0), (5, .func 101 [] []), (6, .ref 1 0 0 T.tab.C false)] (alH T M T.tab.R 0) [] 0 [] st
      else ex = .ret ∧ ∃ (H : Heap), FrP 94 [(4, .bool false)] H [] 0 [] st := by
  have hR8 := hO.R8
  have hC8 := hO.C8
  intro n
  induction n with
  | zero =>
    intro i; intros; rename_i hi hB
    have hd : decide ((i : Int) < (T.tab.R : Int)) = false := by simp; omega
    have : i = T.tab.R := by omega
    subst this
    simp only [go_sem, simprocAttr, Try.f39]
    rw [exec_loop]
    simp only [go_sem, simprocAttr, hd]
    exact ⟨hB, frP (by kernel_rfl)⟩
  | succ n ih =>
    intro i; intros; rename_i hi hB
    have hiR : i < T.tab.R := by omega
    have hd : decide ((i : Int) < (T.tab.R : Int)) = true := by simp; omega
    have h0i : (0 : Int) ≤ (i : Int) := by omega
    obtain ⟨b, hb, _⟩ := get_drop (show i < M.rows.length by omega)
    have hz := sz_of hM.sz hb
    have hbm : b ∈ M.rows := List.mem_of_getElem? hb
    have hb' : (M.rows.map SlI.v)[i]? = some (.lit b.cl b.sz (b.l.map (AVal.int .i64))) := by simp [hb, SlI.v]
    have hbl : (M.m.getD i []).length = b.l.length := by simp [MatV.m, hb]
    have hbb := hM.le b hbm
    have lc : T.cols.l.length = T.tab.C := rfl
    have el : decide ((b.l.length : Int) = (T.tab.C : Int)) = decide (b.l.length = T.tab.C) := decide_eq_decide.2 (by omega)
    obtain ⟨r1, r2⟩ := TabV.rowAt hT hiR
    cases hw : decide (b.l.length = T.tab.C) with
    | false =>
      have hg : rowGd T.tab M.m i = false := by unfold rowGd; rw [hbl, hw]; rfl
      simp only [go_sem, simprocAttr, Try.f39, alH, boxT]
      rw [exec_loop]
      simp only [go_sem, simprocAttr, hd, h0i, Int.toNat_natCast, hb', hz, List.length_map, lc, el, hw, allN, hg]
      exact ⟨_, frP (by kernel_rfl)⟩
    | true =>
      have hwl := of_decide_eq_true hw
      obtain ⟨ex, st, hx, hp⟩ := al_inner hT hO hM hiR hb hwl hB T.tab.C 0 _ _ _ _ _ _ _ _ _ _ _ _ _ _ _ _ _ _ _ _ _ _ _ _ _ _ _ _ _ _ _ _ _ _ _ _ _ _ _ _ _ _ _ _ _ _ _ _ _ _ _ _ _ _ _ _ _ _ _ _ _ _ _ _ _ _ _ _ _ _ _ _ _ _ _ _ _ _ _ _ _ _ _ (by omega) (fun j hj => by omega)
      have hs0 : sumN 0 (matOf M.m i) = 0 := rfl
      have dcc : decide ((T.tab.C : Int) = (T.tab.C : Int)) = true := decide_eq_true rfl
      simp only [go_sem, simprocAttr, Try.f39, hz, Int.ofNat_zero, Int.natCast_zero, hs0, alH, boxT] at hx
      cases hr : cellsGd T.tab (matOf M.m) i with
      | false =>
        have hr' : allN (fun k => (T.tab.cell i k).has (matOf M.m i k)) 0 T.tab.C = false := hr
        have hg : rowGd T.tab M.m i = false := by unfold rowGd; rw [hbl, hw, hr]; rfl
        rw [hr', if_neg (by simp)] at hp
        obtain ⟨rfl, H, jp, rfl⟩ := hp
        simp only [go_sem, simprocAttr, Try.f39, hz, alH, boxT]
        rw [exec_loop]
        simp only [go_sem, simprocAttr, hd, h0i, Int.toNat_natCast, hb', hz, List.length_map, lc, hwl, dcc]
        rw [hx]
        simp only [go_sem, simprocAttr, allN, hg]
        exact ⟨_, frP (by kernel_rfl)⟩
      | true =>
        have hr' : allN (fun k => (T.tab.cell i k).has (matOf M.m i k)) 0 T.tab.C = true := hr
        rw [hr', if_pos rfl] at hp
        obtain ⟨rfl, hnow, jp, rfl⟩ := hp
        cases hs : (T.tab.row i).has (sumN T.tab.C (matOf M.m i)) with
        | false =>
          have hg : rowGd T.tab M.m i = false := by unfold rowGd; rw [hbl, hw, hr, hs]; rfl
          simp only [go_sem, simprocAttr, Try.f39, hz, alH, boxT]
          rw [exec_loop]
          simp only [go_sem, simprocAttr, hd, h0i, Int.toNat_natCast, hb', hz, List.length_map, lc, hwl, dcc]
          rw [hx]
          simp only [go_sem, simprocAttr, alH, boxT, allN, hg, h0i, Int.toNat_natCast, r1, r2, hs]
          exact ⟨_, frP (by kernel_rfl)⟩
        | true =>
          have hg : rowGd T.tab M.m i = true := by unfold rowGd; rw [hbl, hw, hr, hs]; rfl
          have q2 : intsV T.tab.C (cS (matOf M.m) i T.tab.C) = intsV T.tab.C (cS (matOf M.m) (i + 1) 0) := by
            refine intsV_congr fun j hj => ?_
            unfold cS
            rw [if_pos hj, if_neg (by omega)]
          have ih' := ih (i + 1)
          simp only [go_sem, simprocAttr, Try.f39, hz, alH, boxT] at ih' ⊢
          rw [exec_loop]
          simp only [go_sem, simprocAttr, hd, h0i, Int.toNat_natCast, hb', hz, List.length_map, lc, hwl, dcc]
          rw [hx]
          simp only [go_sem, simprocAttr, hz, alH, boxT, allN, hg, h0i, Int.toNat_natCast, r1, r2, hs, q2, wrap_succ (show i < 2 ^ 63 - 1 by omega)]
          refine ih' _ _ _ _ _ _ _ _ _ _ _ _ _ _ _ _ _ _ _ _ _ _ _ _ _ _ _ _ _ _ _ _ _ _ _ _ _ _ _ _ _ _ _ _ _ _ _ _ _ _ _ _ _ _ _ _ _ _ _ _ _ _ _ _ _ _ _ _ _ _ _ _ _ _ _ _ _ _ _ _ _ _ _ _ _ _ _ _ (by omega) fun i' hi' k hk => ?_
          by_cases e : i' = i
          · subst e; exact hnow k hk
          · exact hB i' (by omega) k hk

theorem al_cols {T : TabV} (hT : T.Wf) (hO : T.tab.Ok) (f : Nat → Int) : ∀ (n i : Nat) (j0 j1 j3 j4 j6 j7 j8 j9 j10 j11 j12 j13 j14 j15 j16 j17 j18 j19 j20 j21 j22 j23 j24 j25 j26 j27 j28 j29 j30 j31 j32 j33 j34 j35 j36 j37 j38 j39 j40 j41 j42 j43 j44 j45 j46 j47 j48 j49 j50 j51 j52 j53 j54 j55 j56 j57 j58 j59 j60 j61 j62 j63 j64 j65 j66 j67 j68 j69 j70 j71 j72 j73 j74 j75 j76 j80 j81 j82 j83 j84 j85 j86 j87 j88 j89 j90 j91 j92 j93 : AVal), i + n = T.tab.C →
    Goes (execT env (Try.f39.at [1, 1, 1, 1, 1, 0, 1, 0]) ⟨[j0, j1, .ptr 0 0 0 0, j3, j4, .func 101 [] [], j6, j7, j8, j9, j10, j11, j12, j13, j14, j15, j16, j17, j18, j19, j20, j21, j22, j23, j24, j25, j26, j27, j28, j29, j30, j31, j32, j33, j34, j35, j36, j37, j38, j39, j40, j41, j42, j43, j44, j45, j46, j47, j48, j49, j50, j51, j52, j53, j54, j55, j56, j57, j58, j59, j60, j61, j62, j63, j64, j65, j66, j67, j68, j69, j70, j71, j72, j73, j74, j75, j76, .ref 1 0 0 T.tab.C false, .int .i64 T.tab.C, .int .i64 i, j80, j81, j82, j83, j84, j85, j86, j87, j88, j89, j90, j91, j92, j93], [boxT T, .cells 0 1 true (intsV T.tab.C f)], [], 0, []⟩) fun ex st =>
      if allN (fun i => (T.tab.col i).has (f i)) i n then ex = .exit 4 ∧ ∃ (H : Heap), FrP 94 [] H [] 0 [] st
      else ex = .ret ∧ ∃ (H : Heap), FrP 94 [(4, .bool false)] H [] 0 [] st := by
  have hC8 := hO.C8
  intro n
  induction n with
  | zero =>
    intro i; intros; rename_i hi
    have hd : decide ((i : Int) < (T.tab.C : Int)) = false := by simp; omega
    simp only [go_sem, simprocAttr, Try.f39]
    rw [exec_loop]
    simp only [go_sem, simprocAttr, hd]
    exact ⟨_, frP (by kernel_rfl)⟩
  | succ n ih =>
    intro i; intros; rename_i hi
    have hiC : i < T.tab.C := by omega
    have hd : decide ((i : Int) < (T.tab.C : Int)) = true := by simp; omega
    have h0i : (0 : Int) ≤ (i : Int) := by omega
    obtain ⟨r1, r2⟩ := TabV.colAt hT hiC
    have g1 := intsV_get (f := f) hiC
    cases hp : (T.tab.col i).has (f i) with
    | false =>
      simp only [go_sem, simprocAttr, Try.f39, boxT]
      rw [exec_loop]
      simp only [go_sem, simprocAttr, hd, h0i, Int.toNat_natCast, r1, r2, g1, allN, hp]
      exact ⟨_, frP (by kernel_rfl)⟩
    | true =>
      have ih' := ih (i + 1)
      simp only [go_sem, simprocAttr, Try.f39, boxT] at ih' ⊢
      rw [exec_loop]
      simp only [go_sem, simprocAttr, hd, h0i, Int.toNat_natCast, r1, r2, g1, allN, hp, wrap_succ (show i < 2 ^ 63 - 1 by omega)]
      exact ih' _ _ _ _ _ _ _ _ _ _ _ _ _ _ _ _ _ _ _ _ _ _ _ _ _ _ _ _ _ _ _ _ _ _ _ _ _ _ _ _ _ _ _ _ _ _ _ _ _ _ _ _ _ _ _ _ _ _ _ _ _ _ _ _ _ _ _ _ _ _ _ _ _ _ _ _ _ _ _ _ _ _ _ _ _ _ _ _ _ (by omega)

def alwB (t : Tab) (m : List (List Int)) : Bool := dimsB t m && fitsB t (matOf m)

def alw' (t : Tab) (m : List (List Int)) : Bool := decide (m.length = t.R) && (allN (rowGd t m) 0 t.R && allN (fun k => (t.col k).has (sumN t.R fun i => matOf m i k)) 0 t.C)

theorem alw_eq (t : Tab) (m : List (List Int)) : alwB t m = alw' t m := by
  rw [Bool.eq_iff_iff]
  unfold alwB alw' dimsB fitsB
  simp only [Bool.and_eq_true, decide_eq_true_eq, allN_iff, List.all_eq_true, rowGd, cellsGd]
  constructor
  · rintro ⟨⟨h1, h2⟩, h3, h4, h5⟩
    refine ⟨h1, fun j a b => ⟨?_, h3 j a b, h4 j a b⟩, h5⟩
    exact h2 _ (getD_mem (by omega) [])
  · rintro ⟨h1, h2, h3⟩
    refine ⟨⟨h1, fun l hl => ?_⟩, fun j a b => (h2 j a b).2.1, fun j a b => (h2 j a b).2.2, h3⟩
    obtain ⟨i, hi, e⟩ := List.getElem_of_mem hl
    have := (h2 i (by omega) (by omega)).1
    rw [List.getD_eq_getElem?_getD, List.getElem?_eq_getElem hi] at this
    simpa [e] using this

theorem allowed_call {T : TabV} {M : MatV} (hT : T.Wf) (hO : T.tab.Ok) (hM : M.Wf) (ro : Nat) (H : Heap) (nx : Nat) : callT env 39 [T.v, M.v] ro H nx = some (.ret (.bool (alwB T.tab M.m)), .ups []) := by
  have hC8 := hO.C8
  have hR8 := hO.R8
  have : ∃ H', runT env 39 [T.v, M.v] [] 0 = some (.ret (.bool (alwB T.tab M.m)), H') := by
    rw [alw_eq]
    unfold alw'
    have hll := hM.len
    have lr : T.rows.l.length = T.tab.R := rfl
    have lc : T.cols.l.length = T.tab.C := rfl
    have lm : M.m.length = M.rows.length := by simp [MatV.m]
    have el : decide ((M.rows.length : Int) = (T.tab.R : Int)) = decide (M.rows.length = T.tab.R) := decide_eq_decide.2 (by omega)
    rw [lm, run_unfold fn39 rfl]
    cases h1 : decide (M.rows.length = T.tab.R) with
    | false =>
      simp only [go_sem, simprocAttr, Try.f39, MatV.v, List.length_map, lr, el, h1, unwind, modeEx, resultsOf, one]
      exact ⟨_, rfl⟩
    | true =>
      have h1' := of_decide_eq_true h1
      have d1 : decide ((T.tab.R : Int) = (T.tab.R : Int)) = true := decide_eq_true rfl
      have c0 : (0 : Int) ≤ (T.tab.C : Int) := by omega
      have m1 : T.tab.C * 9 ≤ maxBytes := by unfold maxBytes; omega
      have e0 : intsV T.tab.C (cS (matOf M.m) 0 0) = List.replicate T.tab.C (AVal.int .i64 0) := by
        rw [intsV_rep]
        exact intsV_congr fun j hj => by unfold cS; rw [if_neg (by omega)]; rfl
      obtain ⟨ex, st, hx, hp⟩ := al_outer hT hO hM h1' T.tab.R 0 _ _ _ _ _ _ _ _ _ _ _ _ _ _ _ _ _ _ _ _ _ _ _ _ _ _ _ _ _ _ _ _ _ _ _ _ _ _ _ _ _ _ _ _ _ _ _ _ _ _ _ _ _ _ _ _ _ _ _ _ _ _ _ _ _ _ _ _ _ _ _ _ _ _ _ _ _ _ _ _ _ _ _ _ _ _ _ _ (by omega) (fun i' hi' => by omega)
      simp only [go_sem, simprocAttr, Try.f39, Int.ofNat_zero, Int.natCast_zero, alH, boxT, e0] at hx
      simp only [go_sem, simprocAttr, Try.f39, MatV.v, List.length_map, lr, lc, h1', d1, Int.toNat_natCast, c0, m1]
      rw [hx]
      cases hr : allN (rowGd T.tab M.m) 0 T.tab.R with
      | false =>
        rw [hr, if_neg (by simp)] at hp
        obtain ⟨rfl, H2, jp, rfl⟩ := hp
        simp only [go_sem, simprocAttr, unwind, modeEx, resultsOf, one]
        exact ⟨_, rfl⟩
      | true =>
        rw [hr, if_pos rfl] at hp
        obtain ⟨rfl, hB, jp, rfl⟩ := hp
        obtain ⟨ex2, st2, hx2, hp2⟩ := al_cols hT hO (cS (matOf M.m) T.tab.R 0) T.tab.C 0 _ _ _ _ _ _ _ _ _ _ _ _ _ _ _ _ _ _ _ _ _ _ _ _ _ _ _ _ _ _ _ _ _ _ _ _ _ _ _ _ _ _ _ _ _ _ _ _ _ _ _ _ _ _ _ _ _ _ _ _ _ _ _ _ _ _ _ _ _ _ _ _ _ _ _ _ _ _ _ _ _ _ _ _ _ _ _ _ _ (by omega)
        have e2 : allN (fun i => (T.tab.col i).has (cS (matOf M.m) T.tab.R 0 i)) 0 T.tab.C = allN (fun k => (T.tab.col k).has (sumN T.tab.R fun i => matOf M.m i k)) 0 T.tab.C := allN_congr fun j _ _ => by unfold cS; rw [if_neg (by omega)]
        rw [e2] at hp2
        simp only [go_sem, simprocAttr, Try.f39, Int.ofNat_zero, Int.natCast_zero, boxT] at hx2
        simp only [go_sem, simprocAttr, alH, boxT]
        rw [hx2]
        cases h3 : allN (fun k => (T.tab.col k).has (sumN T.tab.R fun i => matOf M.m i k)) 0 T.tab.C with
        | false =>
          rw [h3, if_neg (by simp)] at hp2
          obtain ⟨rfl, H2, jq, rfl⟩ := hp2
          simp only [go_sem, simprocAttr, unwind, modeEx, resultsOf, one]
          exact ⟨_, rfl⟩
        | true =>
          rw [h3, if_pos rfl] at hp2
          obtain ⟨rfl, H2, jq, rfl⟩ := hp2
          simp only [go_sem, simprocAttr, unwind, modeEx, resultsOf, one]
          exact ⟨_, rfl⟩
  obtain ⟨H', h⟩ := this
  exact call_pure rfl rfl rfl (by simp [underL, TabV.under, MatV.under]) h rfl ro H nx

set_option maxRecDepth 10000
set_option maxHeartbeats 2000000

theorem matM_alw {t : Tab} {x : Nat → Nat → Int} (h : Fits t x) : alwB t (matM t x).m = true := by
  unfold alwB
  rw [matM_dims, matM_fits h]; rfl

set_option maxRecDepth 10000
set_option maxHeartbeats 4000000

theorem askS_in {t : Tab} {i k : Int} (hok : t.ok = true) (hcan : canB t = true) (h : outB t i k = false) : askS t i k = 0 := by
  unfold askS; rw [hok, hcan, h]; rfl
theorem outB_in {t : Tab} {i k : Nat} (hi : i < t.R) (hk : k < t.C) : outB t i k = false := by
  unfold outB
  rw [decide_eq_false (p := (i : Int) < 0) (by omega), decide_eq_false (p := (t.R : Int) ≤ i) (by omega), decide_eq_false (p := (k : Int) < 0) (by omega), decide_eq_false (p := (t.C : Int) ≤ k) (by omega)]; rfl

theorem total_ends {T : TabV} (hT : T.Wf) (hO : T.tab.Ok) (hcan : canB T.tab = true) : ∃ x : Spn, EndsP T.tab (blkM T.tab (fun _ => true) fun _ => true) x ∧ ∀ ro H nx, callT env 34 [T.v] ro H nx = some (.ret (.tuple [spV x, .int .i64 0]), .ups []) := by
  obtain ⟨v, hv, hc⟩ := total_call hT
  obtain ⟨lo, hi, he, rfl⟩ := hv.zero (askS_in (Tab.ok_iff.2 hO) hcan (outB_in hO.R1 hO.C1))
  exact ⟨⟨lo, hi⟩, EndsP.of he fun s => brings_total _ s, hc⟩
theorem row_ends {T : TabV} (hT : T.Wf) (hO : T.tab.Ok) (hcan : canB T.tab = true) {r : Nat} (hr : r < T.tab.R) : ∃ x : Spn, EndsP T.tab (blkM T.tab (fun i => decide (i = r)) fun _ => true) x ∧ ∀ ro H nx, callT env 28 [T.v, .int .i64 (r : Int)] ro H nx = some (.ret (.tuple [spV x, .int .i64 0]), .ups []) := by
  obtain ⟨v, hv, hc⟩ := rowE_call hT (r : Int)
  obtain ⟨lo, hi, he, rfl⟩ := hv.zero (askS_in (Tab.ok_iff.2 hO) hcan (outB_in hr hO.C1))
  exact ⟨⟨lo, hi⟩, EndsP.of he fun s => by rw [Int.toNat_natCast, brings_row _ _ hr, blkM_row hr], hc⟩
theorem col_ends {T : TabV} (hT : T.Wf) (hO : T.tab.Ok) (hcan : canB T.tab = true) {c : Nat} (hc' : c < T.tab.C) : ∃ x : Spn, EndsP T.tab (blkM T.tab (fun _ => true) fun k => decide (k = c)) x ∧ ∀ ro H nx, callT env 30 [T.v, .int .i64 (c : Int)] ro H nx = some (.ret (.tuple [spV x, .int .i64 0]), .ups []) := by
  obtain ⟨v, hv, hc⟩ := colE_call hT (c : Int)
  obtain ⟨lo, hi, he, rfl⟩ := hv.zero (askS_in (Tab.ok_iff.2 hO) hcan (outB_in (i := 0) hO.R1 hc'))
  exact ⟨⟨lo, hi⟩, EndsP.of he fun s => by rw [Int.toNat_natCast, brings_col _ _ hc', blkM_col hc'], hc⟩
theorem cell_ends {T : TabV} (hT : T.Wf) (hO : T.tab.Ok) (hcan : canB T.tab = true) {r c : Nat} (hr : r < T.tab.R) (hc' : c < T.tab.C) : ∃ x : Spn, EndsP T.tab (blkM T.tab (fun i => decide (i = r)) fun k => decide (k = c)) x ∧ ∀ ro H nx, callT env 26 [T.v, .int .i64 (r : Int), .int .i64 (c : Int)] ro H nx = some (.ret (.tuple [spV x, .int .i64 0]), .ups []) := by
  obtain ⟨v, hv, hc⟩ := cellE_call hT (r : Int) (c : Int)
  obtain ⟨lo, hi, he, rfl⟩ := hv.zero (askS_in (Tab.ok_iff.2 hO) hcan (outB_in hr hc'))
  exact ⟨⟨lo, hi⟩, EndsP.of he fun s => by rw [Int.toNat_natCast, Int.toNat_natCast, brings_cell _ _ hr hc', blkM_cell hr hc'], hc⟩

set_option maxRecDepth 10000
set_option maxHeartbeats 4000000

theorem att_can {t : Tab} (hO : t.Ok) {r c : Nat} (hr : r < t.R) (hc : c < t.C) {x : Spn} (hx : EndsP t (fun s => s r c) x) (n : Int) : attB t r c n = (decide (x.lo ≤ n) && decide (n ≤ x.hi)) := by
  unfold attB
  rw [Int.toNat_natCast, Int.toNat_natCast, Bool.eq_iff_iff, Bool.and_eq_true, Bool.and_eq_true, decide_eq_true_eq, decide_eq_true_eq]
  have hhas : ∀ n, (t.cell r c).has n = true ↔ (t.cell r c).lo ≤ n ∧ n ≤ (t.cell r c).hi := fun n => by simp [Spn.has]
  rw [hhas]
  obtain ⟨⟨s1, f1, e1⟩, ⟨s2, f2, e2⟩, hall⟩ := hx
  have e1 : s1 r c = x.lo := e1
  have e2 : s2 r c = x.hi := e2
  constructor
  · rintro ⟨⟨h1, h2⟩, h⟩
    obtain ⟨s, hs⟩ := canB_true.1 h
    have h3 := (fits_narrow hO hr hc (x := ⟨n, n⟩) h1 h2 s).1 hs
    have a1 : x.lo ≤ s r c ∧ s r c ≤ x.hi := hall s h3.1
    have a3 : n ≤ s r c := h3.2.1
    have a4 : s r c ≤ n := h3.2.2
    exact ⟨by omega, by omega⟩
  · rintro ⟨h3, h4⟩
    have b1 := f1.cell r c hr hc
    have b2 := f2.cell r c hr hc
    have bc := hO.cell_ok hr hc
    have c1 : (t.setCell r c ⟨(t.cell r c).lo, n⟩).Can := ⟨s1, (fits_narrow hO hr hc (x := ⟨(t.cell r c).lo, n⟩) (Int.le_refl _) (by show n ≤ (t.cell r c).hi; omega) s1).2 ⟨f1, b1.1, by show s1 r c ≤ n; omega⟩⟩
    have c2 : (t.setCell r c ⟨n, (t.cell r c).hi⟩).Can := ⟨s2, (fits_narrow hO hr hc (x := ⟨n, (t.cell r c).hi⟩) (by show (t.cell r c).lo ≤ n; omega) (Int.le_refl _) s2).2 ⟨f2, by show n ≤ s2 r c; omega, b2.2⟩⟩
    refine ⟨⟨by omega, by omega⟩, canB_true.2 ?_⟩
    rcases hoffman (setCell_ok hO (k := c) hr (x := ⟨n, n⟩) (by simp [Spn.ok]; omega)) with h | ⟨R, C, h⟩
    · exact h
    · rcases gap_cell hO hr hc n n (t.cell r c).lo (t.cell r c).hi R C h with h | h
      · rw [gap_none c1] at h; cases h
      · rw [gap_none c2] at h; cases h

theorem fits_set {t : Tab} (hO : t.Ok) {r c : Nat} (hr : r < t.R) (hc : c < t.C) {x : Spn} {s : Nat → Nat → Int} (h : Fits t s) (h1 : x.lo ≤ s r c) (h2 : s r c ≤ x.hi) : Fits (t.setCell r c x) s := by
  refine ⟨fun i k hi hk => ?_, fun i hi => h.row i hi, fun k hk => h.col k hk⟩
  rw [setCell_cell hO x hr hc i k]
  by_cases h4 : i = r ∧ k = c
  · obtain ⟨rfl, rfl⟩ := h4; rw [if_pos ⟨rfl, rfl⟩]; exact ⟨h1, h2⟩
  · rw [if_neg h4]; exact h.cell i k hi hk

theorem cp_sound {t : Tab} (hO : t.Ok) {r c : Nat} (hr : r < t.R) (hc : c < t.C) {x : Spn} (hx : EndsP t (fun s => s r c) x) {up : Bool} {n : Int} {cu : CutA} (h : cpS t r c up n cu = 0) : if up then x.hi ≤ n else n ≤ x.lo := by
  obtain ⟨⟨s1, f1, e1⟩, ⟨s2, f2, e2⟩, hall⟩ := hx
  have e1 : s1 r c = x.lo := e1
  have e2 : s2 r c = x.hi := e2
  have b1 := f1.cell r c hr hc
  have b2 := f2.cell r c hr hc
  unfold cpS at h
  rw [Tab.ok_iff.2 hO, if_pos rfl, Int.toNat_natCast, Int.toNat_natCast] at h
  split at h
  · exact absurd h (by decide)
  split at h
  · split at h
    · rename_i hg
      rw [Bool.or_eq_true] at hg
      cases up with
      | true =>
        show x.hi ≤ n
        rcases hg with hg | hg
        · have : (t.cell r c).hi ≤ n := of_decide_eq_true hg
          omega
        · by_cases hl : x.hi ≤ n
          · exact hl
          · exfalso
            have : (t.setCell r c ⟨n + 1, (t.cell r c).hi⟩).Can := ⟨s2, fits_set hO hr hc f2 (by show n + 1 ≤ s2 r c; omega) b2.2⟩
            have := gap_none this (fun i => cu.l1.getD i false) fun k => cu.l2.getD k false
            unfold gapC quX at hg
            rw [if_pos rfl, this] at hg
            cases hg
      | false =>
        show n ≤ x.lo
        rcases hg with hg | hg
        · have : n ≤ (t.cell r c).lo := of_decide_eq_true hg
          omega
        · by_cases hl : n ≤ x.lo
          · exact hl
          · exfalso
            have : (t.setCell r c ⟨(t.cell r c).lo, n - 1⟩).Can := ⟨s1, fits_set hO hr hc f1 b1.1 (by show s1 r c ≤ n - 1; omega)⟩
            have := gap_none this (fun i => cu.l1.getD i false) fun k => cu.l2.getD k false
            unfold gapC quX at hg
            rw [if_neg (by decide), this] at hg
            cases hg
    · exact absurd h (by decide)
  · exact absurd h (by decide)

theorem in72_call (n : Int) (x : Spn) (ro : Nat) (H : Heap) (nx : Nat) : callT env 72 [.int .i64 n, spV x] ro H nx = some (.ret (.bool (decide (x.lo ≤ n) && decide (n ≤ x.hi))), .ups []) := by
  have : ∃ H', runT env 72 [.int .i64 n, spV x] [] 0 = some (.ret (.bool (decide (x.lo ≤ n) && decide (n ≤ x.hi))), H') := by
    rw [run_unfold fn72 rfl]
    cases h1 : decide (x.lo ≤ n) <;> cases h2 : decide (n ≤ x.hi) <;>
      (simp (config := { maxSteps := 2000000 }) only [go_sem, simprocAttr, Try.f72, h1, h2, unwind, modeEx, resultsOf, one, Bool.and_true, Bool.and_false]
       exact ⟨_, rfl⟩)
  obtain ⟨H', h⟩ := this
  exact call_pure rfl rfl rfl rfl h rfl ro H nx

theorem in_true {t : Tab} {μ : (Nat → Nat → Int) → Int} {x : Spn} (h : EndsP t μ x) {s : Nat → Nat → Int} (hs : Fits t s) {n : Int} (e : n = μ s) (ro : Nat) (H : Heap) (nx : Nat) : callT env 72 [.int .i64 n, spV x] ro H nx = some (.ret (.bool true), .ups []) := by
  obtain ⟨h1, h2⟩ := h.2.2 s hs
  rw [← e] at h1 h2
  rw [in72_call, decide_eq_true h1, decide_eq_true h2]; rfl

theorem ex_loop {T : TabV} (hT : T.Wf) (hO : T.tab.Ok) {r c : Nat} (hr : r < T.tab.R) (hc : c < T.tab.C) (hcan : canB T.tab = true) {x : Spn} (hx : EndsP T.tab (fun s => s r c) x) {H : Heap} (h0 : H[0]? = some (.cells 0 3 false [T.v])) (h2 : H[2]? = some (.cells 0 2 true [spV x])) (up : Bool) (bd : Int) {l : List Int} (hll : l.length = 4) : ∀ (n i : Nat) (j0 j1 j4 j7 j8 j9 j11 j12 j13 j14 j15 j16 j18 j19 j20 j22 j23 j24 j25 j26 j27 j28 j29 j30 j32 j33 j34 j35 j36 j37 j38 j39 j40 j41 j42 j43 j44 j45 j46 j47 j48 j49 j50 j51 j52 j53 j54 j55 j56 j57 j58 j59 j60 j61 j62 j63 j64 j65 j66 j67 j68 j69 j70 j71 j72 j73 j74 j75 j76 j77 j78 j79 j80 j81 j82 j83 j84 j85 j86 j87 j88 j89 j90 j91 j92 j93 j94 j95 j96 j97 j98 j99 j100 j101 j102 j103 j104 j105 j106 j107 j108 j109 j110 j111 j112 j113 j114 j115 j116 j117 j118 j119 j120 j121 j122 j123 j124 j125 j126 j127 j128 j129 j130 j131 j132 j133 j134 j135 j136 j137 j138 j139 j140 j141 j142 j143 j144 j145 j146 j147 j148 j149 j150 j151 j152 j153 j154 j155 j156 j157 j158 j159 j160 j161 j162 j163 j164 j165 j166 j167 j168 j169 j170 j171 j172 j173 j174 j175 j176 j177 j178 j179 j180 j181 j182 j183 j184 j185 j186 j187 j188 j189 j190 j191 j192 j193 j194 j195 j196 j197 j198 j199 j200 j201 j202 j203 j204 j205 j206 j207 j208 j209 j210 j211 j212 j213 j214 j215 j216 j217 j218 j219 j220 j221 j222 j223 j224 j225 j226 j227 j228 j229 j230 j231 j232 j236 j237 j238 j239 j240 j241 j242 j243 j244 j245 j246 j247 j248 j249 j250 j251 j252 j253 j254 j255 j256 j257 j258 j259 j260 j261 j262 j263 j264 j265 j266 j267 j268 j269 j270 j271 j272 j273 j274 j275 j276 j277 j278 j279 j280 j281 j282 j283 j284 j285 j286 j287 j288 j289 j290 j291 j292 j293 j294 j295 j296 j297 j298 j299 j300 j301 j302 j303 j304 j305 j306 j307 j308 j309 j310 j311 j312 j313 j314 j315 j316 j317 j318 j319 j320 j321 j322 j323 j324 j325 j326 j327 j328 j329 j330 j331 j332 j333 j334 j335 j336 j337 j338 j339 j340 j341 j342 j343 j344 j345 : AVal), i + n = 4 →
    Goes (execT env (Try.f19.at [1, 1, 1, 1, 1, 1, 1, 1, 1, 1, 1, 1, 1, 0, 1, 0]) ⟨[j0, j1, .int .i64 r, .int .i64 c, j4, .bool up, .int .i64 bd, j7, j8, j9, .ptr 0 0 0 0, j11, j12, j13, j14, j15, j16, .ptr 1 0 0 0, j18, j19, j20, .ptr 2 0 0 0, j22, j23, j24, j25, j26, j27, j28, j29, j30, .func 72 [] [], j32, j33, j34, j35, j36, j37, j38, j39, j40, j41, j42, j43, j44, j45, j46, j47, j48, j49, j50, j51, j52, j53, j54, j55, j56, j57, j58, j59, j60, j61, j62, j63, j64, j65, j66, j67, j68, j69, j70, j71, j72, j73, j74, j75, j76, j77, j78, j79, j80, j81, j82, j83, j84, j85, j86, j87, j88, j89, j90, j91, j92, j93, j94, j95, j96, j97, j98, j99, j100, j101, j102, j103, j104, j105, j106, j107, j108, j109, j110, j111, j112, j113, j114, j115, j116, j117, j118, j119, j120, j121, j122, j123, j124, j125, j126, j127, j128, j129, j130, j131, j132, j133, j134, j135, j136, j137, j138, j139, j140, j141, j142, j143, j144, j145, j146, j147, j148, j149, j150, j151, j152, j153, j154, j155, j156, j157, j158, j159, j160, j161, j162, j163, j164, j165, j166, j167, j168, j169, j170, j171, j172, j173, j174, j175, j176, j177, j178, j179, j180, j181, j182, j183, j184, j185, j186, j187, j188, j189, j190, j191, j192, j193, j194, j195, j196, j197, j198, j199, j200, j201, j202, j203, j204, j205, j206, j207, j208, j209, j210, j211, j212, j213, j214, j215, j216, j217, j218, j219, j220, j221, j222, j223, j224, j225, j226, j227, j228, j229, j230, j231, j232, .lit true 1 (l.map (AVal.int .i64)), .int .i64 4, .int .i64 i, j236, j237, j238, j239, j240, j241, j242, j243, j244, j245, j246, j247, j248, j249, j250, j251, j252, j253, j254, j255, j256, j257, j258, j259, j260, j261, j262, j263, j264, j265, j266, j267, j268, j269, j270, j271, j272, j273, j274, j275, j276, j277, j278, j279, j280, j281, j282, j283, j284, j285, j286, j287, j288, j289, j290, j291, j292, j293, j294, j295, j296, j297, j298, j299, j300, j301, j302, j303, j304, j305, j306, j307, j308, j309, j310, j311, j312, j313, j314, j315, j316, j317, j318, j319, j320, j321, j322, j323, j324, j325, j326, j327, j328, j329, j330, j331, j332, j333, j334, j335, j336, j337, j338, j339, j340, j341, j342, j343, j344, j345], H, [], 0, []⟩) fun ex s =>
      ex = .exit 0 ∧ FrP 346 [(2, .int .i64 r), (3, .int .i64 c), (5, .bool up), (6, .int .i64 bd), (10, .ptr 0 0 0 0), (17, .ptr 1 0 0 0), (21, .ptr 2 0 0 0)] H [] 0 [] s := by
  have r0 : (0 : Int) ≤ (r : Int) := by omega
  have c0 : (0 : Int) ≤ (c : Int) := by omega
  intro n
  induction n with
  | zero =>
    intro i; intros; rename_i hi'
    have hd : decide ((i : Int) < 4) = false := by simp; omega
    simp (config := { maxSteps := 2000000 }) only [go_sem, simprocAttr, Try.f19]
    rw [exec_loop]
    simp (config := { maxSteps := 2000000 }) only [go_sem, simprocAttr, hd]
    exact frP (by kernel_rfl)
  | succ n ih =>
    intro i; intros; rename_i hi'
    have hd : decide ((i : Int) < 4) = true := by simp; omega
    have i0 : (0 : Int) ≤ (i : Int) := by omega
    obtain ⟨m, hm⟩ : ∃ m, l[i]? = some m := ⟨l[i], List.getElem?_eq_getElem (by omega)⟩
    have hlm : (l.map (AVal.int .i64))[i]? = some (.int .i64 m) := by rw [List.getElem?_map, hm]; rfl
    obtain ⟨w, hw, ac⟩ := attain_call hT (r : Int) (c : Int) m
    have ha := att_can hO hr hc hx m
    have ic := in72_call m x
    rw [← ha] at ic
    have ih' := ih (i + 1)
    rcases hw with ⟨hz, _⟩ | ⟨_, hb, rfl⟩ | ⟨_, _, _, hb, s, hs, rfl⟩
    · exact absurd (askS_in (Tab.ok_iff.2 hO) hcan (outB_in hr hc)) hz
    · rw [hb] at ic
      simp (config := { maxSteps := 2000000 }) only [go_sem, simprocAttr, Try.f19] at ih' ⊢
      rw [exec_loop]
      simp (config := { maxSteps := 2000000 }) only [go_sem, simprocAttr, hd, i0, Int.toNat_natCast, hlm, ac, ic, h0, h2, trunc, wrap_succ (show i < 2 ^ 63 - 1 by omega)]
      exact ih' _ _ _ _ _ _ _ _ _ _ _ _ _ _ _ _ _ _ _ _ _ _ _ _ _ _ _ _ _ _ _ _ _ _ _ _ _ _ _ _ _ _ _ _ _ _ _ _ _ _ _ _ _ _ _ _ _ _ _ _ _ _ _ _ _ _ _ _ _ _ _ _ _ _ _ _ _ _ _ _ _ _ _ _ _ _ _ _ _ _ _ _ _ _ _ _ _ _ _ _ _ _ _ _ _ _ _ _ _ _ _ _ _ _ _ _ _ _ _ _ _ _ _ _ _ _ _ _ _ _ _ _ _ _ _ _ _ _ _ _ _ _ _ _ _ _ _ _ _ _ _ _ _ _ _ _ _ _ _ _ _ _ _ _ _ _ _ _ _ _ _ _ _ _ _ _ _ _ _ _ _ _ _ _ _ _ _ _ _ _ _ _ _ _ _ _ _ _ _ _ _ _ _ _ _ _ _ _ _ _ _ _ _ _ _ _ _ _ _ _ _ _ _ _ _ _ _ _ _ _ _ _ _ _ _ _ _ _ _ _ _ _ _ _ _ _ _ _ _ _ _ _ _ _ _ _ _ _ _ _ _ _ _ _ _ _ _ _ _ _ _ _ _ _ _ _ _ _ _ _ _ _ _ _ _ _ _ _ _ _ _ _ _ _ _ _ _ _ _ _ _ _ _ _ _ _ _ _ _ _ _ _ _ _ _ _ _ _ _ _ _ _ _ _ _ _ _ _ _ _ _ _ _ _ _ (by omega)
    · rw [hb] at ic
      rw [Int.toNat_natCast, Int.toNat_natCast] at hs
      have hhas : (T.tab.cell r c).lo ≤ m ∧ m ≤ (T.tab.cell r c).hi := by
        unfold attB at hb
        rw [Bool.and_eq_true, Int.toNat_natCast, Int.toNat_natCast] at hb
        simpa [Spn.has] using hb.1
      obtain ⟨hs, s1, s2⟩ := (fits_narrow hO hr hc (x := ⟨m, m⟩) hhas.1 hhas.2 s).1 hs
      have hsm : s r c = m := by
        have s1 : m ≤ s r c := s1
        have s2 : s r c ≤ m := s2
        omega
      have hM := matM_wf hO hs
      have al := allowed_call hT hO hM
      rw [matM_alw hs] at al
      have hD : DimsOk T (matM T.tab s) := by
        have hd := matM_dims T.tab s
        unfold dimsB at hd
        rw [Bool.and_eq_true] at hd
        exact ⟨by have := of_decide_eq_true hd.1; simpa [MatV.m] using this, fun s' hs' => of_decide_eq_true (List.all_eq_true.1 hd.2 s'.l (List.mem_map.2 ⟨s', hs', rfl⟩))⟩
      obtain ⟨bm, _, _, m1, m2, m3, m4, _⟩ := MatV.at hM hD hr hc
      rw [matM_of hr hc, hsm] at m2
      have dd : decide (m = m) = true := decide_eq_true rfl
      generalize matM T.tab s = M at *
      simp only [MatV.v, m3] at al ac
      simp (config := { maxSteps := 2000000 }) only [go_sem, simprocAttr, Try.f19] at ih' ⊢
      rw [exec_loop]
      simp (config := { maxSteps := 2000000 }) only [go_sem, simprocAttr, hd, i0, Int.toNat_natCast, hlm, ac, ic, al, h0, h2, r0, c0, m1, m2, m4, dd, trunc, wrap_succ (show i < 2 ^ 63 - 1 by omega)]
      exact ih' _ _ _ _ _ _ _ _ _ _ _ _ _ _ _ _ _ _ _ _ _ _ _ _ _ _ _ _ _ _ _ _ _ _ _ _ _ _ _ _ _ _ _ _ _ _ _ _ _ _ _ _ _ _ _ _ _ _ _ _ _ _ _ _ _ _ _ _ _ _ _ _ _ _ _ _ _ _ _ _ _ _ _ _ _ _ _ _ _ _ _ _ _ _ _ _ _ _ _ _ _ _ _ _ _ _ _ _ _ _ _ _ _ _ _ _ _ _ _ _ _ _ _ _ _ _ _ _ _ _ _ _ _ _ _ _ _ _ _ _ _ _ _ _ _ _ _ _ _ _ _ _ _ _ _ _ _ _ _ _ _ _ _ _ _ _ _ _ _ _ _ _ _ _ _ _ _ _ _ _ _ _ _ _ _ _ _ _ _ _ _ _ _ _ _ _ _ _ _ _ _ _ _ _ _ _ _ _ _ _ _ _ _ _ _ _ _ _ _ _ _ _ _ _ _ _ _ _ _ _ _ _ _ _ _ _ _ _ _ _ _ _ _ _ _ _ _ _ _ _ _ _ _ _ _ _ _ _ _ _ _ _ _ _ _ _ _ _ _ _ _ _ _ _ _ _ _ _ _ _ _ _ _ _ _ _ _ _ _ _ _ _ _ _ _ _ _ _ _ _ _ _ _ _ _ _ _ _ _ _ _ _ _ _ _ _ _ _ _ _ _ _ _ _ _ _ _ _ _ _ _ _ _ _ _ (by omega)
end Go.Proofs.Ytgfejpngfikjiaa.Tidy


