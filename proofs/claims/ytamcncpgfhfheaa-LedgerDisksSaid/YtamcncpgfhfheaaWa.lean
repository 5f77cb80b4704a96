/-
  What the functions that LedgerDisks reaches compute; the law, run.
-/
import Derived.Test.YtamcncpgfhfheaaMc
import Derived.Test.YtamcncpgfhfheaaMt
import Derived.IntWalk
import Derived.KernelRfl
set_option linter.all false
/-
  Calls that hand back a list of numbers.
-/
namespace Go.Proofs.Ytamcncpgfhfheaa.Tidy
open Go
section
variable {E : Env}

theorem call_of_run {f : Nat} {args : List AVal} {r : CRes} {H' : Heap} (hw : (E.hint f).whole = false) (ha : underL 0 args = true) (hr : runT E f args [] 0 = some (r, H')) (ro : Nat) (H : Heap) (nx : Nat) :
    callT E f args ro H nx = callBack (E.hint f) ro nx [] [] (r, H') := by
  unfold callT
  rw [callF_small hw, lend_noRef H _ args 0 ha]
  simp only [refs_noRef.2 args ha, reach, getAll, List.all_nil, Bool.not_true, Bool.or_false, Bool.and_false, Bool.false_eq_true, if_false, List.map_nil, List.length_nil]
  rw [(ren_noRef (idx [])).2 args ha]
  have h0 : (if (E.hint f).ro = true then (0 : Nat) else 0) = 0 := by split <;> rfl
  rw [h0, hr]
  rfl

/-- a list of numbers, made here: by value, or a block of its own -/
def VecR (k : IntKind) (v : AVal) (H : Heap) (xs : List Int) : Prop :=
  (∃ sz, v = .lit true sz (xs.map (.int k)) ∧ H = [] ∧ (xs = [] ∨ sz = 1)) ∨ (∃ g, v = .ref 0 g 0 xs.length false ∧ H = [.cells g 1 true (xs.map (.int k))] ∧ xs ≠ [])

/-- the same, handed back behind the blocks of the caller -/
def VecC (k : IntKind) (nx : Nat) (v : AVal) (us : Ups) (xs : List Int) : Prop :=
  (∃ sz, v = .lit true sz (xs.map (.int k)) ∧ us = [] ∧ (xs = [] ∨ sz = 1)) ∨ (∃ g, v = .ref nx g 0 xs.length false ∧ us = [(nx, .cells g 1 true (xs.map (.int k)))] ∧ xs ≠ [])

theorem under_ints (k : IntKind) (xs : List Int) (m : Nat) : underL m (xs.map (AVal.int k)) = true := by
  induction xs with
  | nil => rfl
  | cons x xs ih => simp [underL, AVal.under, ih]

theorem call_vec {f : Nat} {args : List AVal} {k : IntKind} {v : AVal} {H' : Heap} {xs : List Int} (hw : (E.hint f).whole = false) (hk : (E.hint f).keepAll = false) (hr0 : (E.hint f).ro = false) (hkeep : (E.hint f).keep = [0]) (ha : underL 0 args = true) (hr : runT E f args [] 0 = some (.ret v, H')) (hv : VecR k v H' xs) (ro : Nat) (H : Heap) (nx : Nat) :
    ∃ u us, callT E f args ro H nx = some (.ret u, .ups us) ∧ VecC k nx u us xs := by
  rw [call_of_run hw ha hr]
  rcases hv with ⟨sz, rfl, rfl, hsz⟩ | ⟨g, rfl, rfl, hne⟩
  · refine ⟨.lit true sz (xs.map (.int k)), [], ?_, .inl ⟨sz, rfl, rfl, hsz⟩⟩
    simp only [callBack, keepOf, hk, hkeep, Bool.false_eq_true, if_false]
    rw [show uniq (List.filter (fun j => decide (List.length ([] : List Nat) ≤ j) && decide (j < List.length ([] : Heap))) [0]) = [] from rfl]
    simp only [getAll, handBack]
    simp only [List.isEmpty_nil, Bool.true_or, if_true, AVal.ren, callUpd, hr0, Bool.false_eq_true, if_false, List.map_nil, numbered, List.append_nil]
    rfl
  · refine ⟨.ref nx g 0 xs.length false, [(nx, .cells g 1 true (xs.map (.int k)))], ?_, .inr ⟨g, rfl, rfl, hne⟩⟩
    simp only [callBack, keepOf, hk, hkeep, Bool.false_eq_true, if_false]
    rw [show uniq (List.filter (fun j => decide (List.length ([] : List Nat) ≤ j) && decide (j < List.length [Blk.cells g 1 true (xs.map (AVal.int k))])) [0]) = [0] from rfl]
    simp [getAll, handBack, callUpd, hr0, backF, idx, renB, numbered, AVal.ren]

/-- a call that hands back lists of numbers by value -/
theorem toLit_vec {k : IntKind} {v : AVal} {H' : Heap} {xs : List Int} (hv : VecR k v H' xs) (n : Nat) : ∃ cl sz, (xs = [] ∨ sz = 1) ∧ handBack H' 0 [] (n + 1) v = some (.lit cl sz (xs.map (.int k))) := by
  rcases hv with ⟨sz, rfl, rfl, hsz⟩ | ⟨g, rfl, rfl, hne⟩
  · exact ⟨true, sz, hsz, rfl⟩
  · refine ⟨false, 1, .inr rfl, ?_⟩
    simp only [handBack, Nat.not_lt_zero, decide_false, List.contains_nil, Bool.or_self, Bool.false_eq_true, if_false]
    have h1 : List.take xs.length (List.map (AVal.int k) xs) = List.map (AVal.int k) xs := List.take_of_length_le (by simp)
    simp [toLit, noRef, AVal.under, h1]

theorem handBack_tuple (H : Heap) (k : Nat) (keep : List Nat) (n : Nat) (cs : List AVal) : handBack H k keep (n + 1) (.tuple cs) = (mapO (handBack H k keep n) cs).map .tuple := rfl

/-- a call that hands back a list, and a number -/
theorem call_lit2 {f : Nat} {args : List AVal} {k : IntKind} {v w : AVal} {H' : Heap} {xs : List Int} (hw : (E.hint f).whole = false) (hk : (E.hint f).keepAll = false) (hr0 : (E.hint f).ro = false) (hkeep : (E.hint f).keep = []) (ha : underL 0 args = true) (hr : runT E f args [] 0 = some (.ret (.tuple [v, w]), H')) (hv : VecR k v H' xs) (hn : noRef w = true) :
    ∃ cl sz, (xs = [] ∨ sz = 1) ∧ ∀ ro H nx, callT E f args ro H nx = some (.ret (.tuple [.lit cl sz (xs.map (.int k)), w]), .ups []) := by
  obtain ⟨cl, sz, h1, h2⟩ := toLit_vec hv 2
  refine ⟨cl, sz, h1, fun ro H nx => ?_⟩
  rw [call_of_run hw ha hr]
  simp only [callBack, keepOf, hk, hkeep, Bool.false_eq_true, if_false, List.filter_nil, uniq, getAll, List.length_nil]
  rw [show handBack H' 0 [] 4 (.tuple [v, w]) = some (.tuple [.lit cl sz (xs.map (.int k)), w]) from by
    rw [handBack_tuple, mapO, mapO, mapO, h2, handBack_noRef _ _ _ _ _ hn]; rfl]
  simp only [List.isEmpty_nil, Bool.true_or, if_true]
  rw [(ren_noRef _).1]
  · simp [callUpd, numbered, hr0]
  · simp only [AVal.under, underL, Bool.true_and, Bool.and_true]
    exact hn

theorem call_lit1 {f : Nat} {args : List AVal} {k : IntKind} {v : AVal} {H' : Heap} {xs : List Int} (hw : (E.hint f).whole = false) (hk : (E.hint f).keepAll = false) (hr0 : (E.hint f).ro = false) (hkeep : (E.hint f).keep = []) (ha : underL 0 args = true) (hr : runT E f args [] 0 = some (.ret v, H')) (hv : VecR k v H' xs) :
    ∃ cl sz, (xs = [] ∨ sz = 1) ∧ ∀ ro H nx, callT E f args ro H nx = some (.ret (.lit cl sz (xs.map (.int k))), .ups []) := by
  obtain ⟨cl, sz, h1, h2⟩ := toLit_vec hv 3
  refine ⟨cl, sz, h1, fun ro H nx => ?_⟩
  rw [call_of_run hw ha hr]
  simp only [callBack, keepOf, hk, hkeep, Bool.false_eq_true, if_false, List.filter_nil, uniq, getAll, List.length_nil, h2]
  simp [callUpd, numbered, hr0, AVal.ren]

/-- a region whose operations may go in any order that is left open -/
theorem apart_ok {bf : Array Nat} {l : List Foot} {x : Option (Ex × St)} (h : apart bf l = true) : (if apart bf l = true then x else none) = x := if_pos h

theorem append_lit {t e n m sz nsz nx ro : Nat} {z x : AVal} {te : TI} {H : Heap} {es new : List AVal} (ht : E.ti t = some ⟨.slice e, n, m, z⟩) (he : E.ti e = some te) (hx : elems H x = some (nsz, new)) (hz : 0 < te.sz ∧ te.zero.cellsOf.length = te.sz ∧ te.zero.isTuple = false) (hn : nsz = te.sz) (hne : new ≠ [])
    (hs : es = [] ∨ sz = te.sz) (hb : (es.length + new.length) * (te.bytes + 1) ≤ maxBytes) (hf : flatTy E 8 e = true → new.all noRef = true) :
    appendOp E ro nx t (.lit true sz es) x H = some (.ref nx 0 0 (es.length + new.length) false, [(nx, newBlk E e te.sz (es ++ new))]) := by
  have h1 : new.isEmpty = false := by cases new <;> simp_all
  have h2 : (es.isEmpty || sz == te.sz) = true := by rcases hs with rfl | rfl <;> simp
  have h3 : (!flatTy E 8 e || new.all noRef) = true := by
    cases h : flatTy E 8 e with
    | false => rfl
    | true => simp only [hf h]; rfl
  simp only [appendOp, ht, he, hx, hn, hz.1, hz.2.1, hz.2.2, h1, h3, hb, h2, beq_self_eq_true, Bool.or_true, Bool.true_and, decide_true, Bool.not_false, Bool.and_true, if_true]

theorem append_ref {t e n m nsz nx ro id g len : Nat} {z x : AVal} {te : TI} {H : Heap} {fl : Bool} {bs new : List AVal} (ht : E.ti t = some ⟨.slice e, n, m, z⟩) (he : E.ti e = some te) (hx : elems H x = some (nsz, new)) (hz : 0 < te.sz ∧ te.zero.cellsOf.length = te.sz ∧ te.zero.isTuple = false) (hn : nsz = te.sz) (hne : new ≠ [])
    (hH : H[id]? = some (.cells g te.sz fl bs)) (hl : bs.length = len) (h0 : 0 < len) (hro : ro ≤ id) (hb : (len + new.length) * (te.bytes + 1) ≤ maxBytes) (hf : fl = true → new.all noRef = true) :
    appendOp E ro nx t (.ref id g 0 len false) x H = some (.ref id (g + 1) 0 (len + new.length) false, [(id, .cells (g + 1) te.sz fl (bs ++ new))]) := by
  have h1 : new.isEmpty = false := by cases new <;> simp_all
  have h4 : bs.isEmpty = false := by cases bs <;> simp_all
  have h5 : 0 < new.length := List.length_pos_iff.2 hne
  have h3 : (fl && !new.all noRef) = false := by
    cases h : fl with
    | false => rfl
    | true => simp only [hf h]; rfl
  subst hl
  have h6 : ¬ (bs.length + new.length ≤ bs.length) := by omega
  simp only [appendOp, ht, he, hx, hn, hz.1, hz.2.1, hz.2.2, h1, hH, hro, hb, beq_self_eq_true, Bool.or_true, Bool.true_or, Bool.true_and, decide_true, Bool.not_false, Bool.and_true, if_true, h4, h3, Bool.false_eq_true, List.drop_zero, Nat.zero_add, Nat.le_refl, h6, if_false]
end
end Go.Proofs.Ytamcncpgfhfheaa.Tidy

/-
  Calls that hand back a list.
-/
namespace Go.Proofs.Ytamcncpgfhfheaa.Tidy
open Go
attribute [go_sem] List.contains_cons
section
variable {E : Env}

/-- a list, made here: by value, or a block of its own -/
def VecA (sz : Nat) (v : AVal) (H : Heap) (es : List AVal) : Prop :=
  (∃ s, v = .lit true s es ∧ H = [] ∧ (es = [] ∨ s = sz)) ∨ (∃ g, v = .ref 0 g 0 es.length false ∧ H = [.cells g sz true es] ∧ es ≠ [])

/-- the same, handed back behind the blocks of the caller -/
def VecB (sz nx : Nat) (v : AVal) (us : Ups) (es : List AVal) : Prop :=
  (∃ s, v = .lit true s es ∧ us = [] ∧ (es = [] ∨ s = sz)) ∨ (∃ g, v = .ref nx g 0 es.length false ∧ us = [(nx, .cells g sz true es)] ∧ es ≠ [])

theorem call_vecA {f : Nat} {args : List AVal} {sz : Nat} {v : AVal} {H' : Heap} {es : List AVal} (hw : (E.hint f).whole = false) (hk : (E.hint f).keepAll = false) (hr0 : (E.hint f).ro = false) (hkeep : (E.hint f).keep = [0]) (ha : underL 0 args = true) (hr : runT E f args [] 0 = some (.ret v, H')) (hv : VecA sz v H' es) (ro : Nat) (H : Heap) (nx : Nat) :
    ∃ u us, callT E f args ro H nx = some (.ret u, .ups us) ∧ VecB sz nx u us es := by
  rw [call_of_run hw ha hr]
  rcases hv with ⟨s, rfl, rfl, hsz⟩ | ⟨g, rfl, rfl, hne⟩
  · refine ⟨.lit true s es, [], ?_, .inl ⟨s, rfl, rfl, hsz⟩⟩
    simp only [callBack, keepOf, hk, hkeep, Bool.false_eq_true, if_false]
    rw [show uniq (List.filter (fun j => decide (List.length ([] : List Nat) ≤ j) && decide (j < List.length ([] : Heap))) [0]) = [] from rfl]
    simp only [getAll, handBack]
    simp only [List.isEmpty_nil, Bool.true_or, if_true, AVal.ren, callUpd, hr0, Bool.false_eq_true, if_false, List.map_nil, numbered, List.append_nil]
    rfl
  · refine ⟨.ref nx g 0 es.length false, [(nx, .cells g sz true es)], ?_, .inr ⟨g, rfl, rfl, hne⟩⟩
    simp only [callBack, keepOf, hk, hkeep, Bool.false_eq_true, if_false]
    rw [show uniq (List.filter (fun j => decide (List.length ([] : List Nat) ≤ j) && decide (j < List.length [Blk.cells g sz true es])) [0]) = [0] from rfl]
    simp [getAll, handBack, callUpd, hr0, backF, idx, renB, numbered, AVal.ren]

theorem toLit_vecA {sz : Nat} {v : AVal} {H' : Heap} {es : List AVal} (hv : VecA sz v H' es) (n : Nat) : ∃ cl s, (es = [] ∨ s = sz) ∧ handBack H' 0 [] (n + 1) v = some (.lit cl s es) := by
  rcases hv with ⟨s, rfl, rfl, hsz⟩ | ⟨g, rfl, rfl, hne⟩
  · exact ⟨true, s, hsz, rfl⟩
  · refine ⟨false, sz, .inr rfl, ?_⟩
    simp only [handBack, Nat.not_lt_zero, decide_false, List.contains_nil, Bool.or_self, Bool.false_eq_true, if_false]
    simp [toLit, noRef, AVal.under]

theorem call_litA {f : Nat} {args : List AVal} {sz : Nat} {v : AVal} {H' : Heap} {es : List AVal} (hw : (E.hint f).whole = false) (hk : (E.hint f).keepAll = false) (hr0 : (E.hint f).ro = false) (hkeep : (E.hint f).keep = []) (ha : underL 0 args = true) (hr : runT E f args [] 0 = some (.ret v, H')) (hv : VecA sz v H' es) :
    ∃ cl s, (es = [] ∨ s = sz) ∧ ∀ ro H nx, callT E f args ro H nx = some (.ret (.lit cl s es), .ups []) := by
  obtain ⟨cl, s, h1, h2⟩ := toLit_vecA hv 3
  refine ⟨cl, s, h1, fun ro H nx => ?_⟩
  rw [call_of_run hw ha hr]
  simp only [callBack, keepOf, hk, hkeep, Bool.false_eq_true, if_false, List.filter_nil, uniq, getAll, List.length_nil, h2]
  simp [callUpd, numbered, hr0, AVal.ren]

/-- a call that takes its one argument by value: what is lent to it goes -/
theorem call_lent1 {f : Nat} {v u : AVal} {ids : List Nat} {r : CRes} {H H' : Heap} (hw : (E.hint f).whole = false) (hl : (E.hint f).lits = [0]) (hv : noRef v = false) (ht : toLit (fun _ => true) H 8 v = some u) (hi : reach H fuel0 v.refs [] = some ids) (hr : runT E f [u] [] 0 = some (r, H')) (ro nx : Nat) :
    callT E f [v] ro H nx = callBack (E.hint f) ro nx [] ids (r, H') := by
  have hu : noRef u = true := toLit_under 8 v u ht
  have hu' : underL 0 [u] = true := by
    have : u.under 0 = true := hu
    simp [underL, this]
  unfold callT
  rw [callF_small hw]
  simp only [lend, hl, hv, ht, hi, List.contains_cons, List.contains_nil, beq_self_eq_true, Bool.true_or, Bool.not_false, Bool.and_true, if_true, List.append_nil]
  simp only [refs_noRef.2 [u] hu', reach, getAll, List.contains_nil, Bool.not_false, List.all_nil, Bool.not_true, Bool.or_false, Bool.and_false, Bool.false_eq_true, if_false, List.map_nil, List.length_nil]
  rw [(ren_noRef (idx [])).2 [u] hu']
  have h0 : (if (E.hint f).ro = true then (0 : Nat) else 0) = 0 := by split <;> rfl
  have h1 : (ids.all fun _ => true) = true := by simp
  simp only [h0, hr, h1, Bool.not_true, Bool.false_eq_true, if_false]
  rfl

/-- append, where the room is there -/
theorem append_in {t e n m nsz nx ro id g len : Nat} {z x : AVal} {te : TI} {H : Heap} {fl : Bool} {bs new : List AVal} (ht : E.ti t = some ⟨.slice e, n, m, z⟩) (he : E.ti e = some te) (hx : elems H x = some (nsz, new)) (hz : 0 < te.sz ∧ te.zero.cellsOf.length = te.sz ∧ te.zero.isTuple = false) (hn : new = [] ∨ nsz = te.sz)
    (hH : H[id]? = some (.cells g te.sz fl bs)) (hl : len + new.length ≤ bs.length) (hro : ro ≤ id) (hb : (len + new.length) * (te.bytes + 1) ≤ maxBytes) (hf : fl = true → new.all noRef = true) :
    appendOp E ro nx t (.ref id g 0 len false) x H = some (.ref id g 0 (len + new.length) false, [(id, .cells g te.sz fl (putList bs len new))]) := by
  have h1 : (new.isEmpty || nsz == te.sz) = true := by rcases hn with rfl | rfl <;> simp
  have h3 : (fl && !new.all noRef) = false := by
    cases h : fl with
    | false => rfl
    | true => simp only [hf h]; rfl
  have h4 : len ≤ bs.length := by omega
  simp only [appendOp, ht, he, hx, hz.1, hz.2.1, hz.2.2, h1, hH, hro, hb, beq_self_eq_true, Bool.true_or, Bool.true_and, decide_true, Bool.not_false, Bool.and_true, if_true, h3, Bool.false_eq_true, Nat.zero_add, h4, hl, if_false]

theorem putList_append (a : List AVal) : ∀ (new b : List AVal), new.length ≤ b.length → putList (a ++ b) a.length new = a ++ (new ++ b.drop new.length) := by
  intro new
  induction new generalizing a with
  | nil => intro b _; simp [putList]
  | cons x new ih =>
    intro b hb
    cases b with
    | nil => simp at hb
    | cons y b =>
      simp only [putList]
      have h1 : (a ++ y :: b).set a.length x = (a ++ [x]) ++ b := by simp
      rw [h1]
      have := ih (a ++ [x]) b (by simpa using hb)
      rw [List.length_append, List.length_singleton] at this
      rw [this]
      simp
end
end Go.Proofs.Ytamcncpgfhfheaa.Tidy

/-
  Calls of methods: an object and what it reaches, by a small footprint.
-/
namespace Go.Proofs.Ytamcncpgfhfheaa.Tidy
open Go
section
variable {E : Env}

theorem lend_nil (H : Heap) : ∀ (args : List AVal) (i : Nat), lend H [] args i = some (args, [])
  | [], _ => rfl
  | v :: vs, i => by simp only [lend, lend_nil H vs (i + 1), List.contains_nil, Bool.false_and, Bool.false_eq_true, if_false]

/-- where a block of the callee lies in the caller's memory -/
def placeB (nx : Nat) (fp : List Nat) (j : Nat) : Nat := if j < fp.length then fp.getD j 0 else nx + (j - fp.length)

def backO (nx : Nat) (fp : List Nat) (n : Nat) (j : Nat) : Option Nat := if j < n then some (placeB nx fp j) else none

/-- the caller's memory behind a call that keeps all -/
def objUps (nx : Nat) (fp : List Nat) (H' : Heap) : Ups := fp.zip ((H'.take fp.length).map (renB (backO nx fp H'.length))) ++ numbered nx ((H'.drop fp.length).map (renB (backO nx fp H'.length)))

theorem idx_range' : ∀ (n k j : Nat), idx (List.range' k n) j = if k ≤ j ∧ j < k + n then some (j - k) else none
  | 0, k, j => by
    rw [if_neg (by omega)]; rfl
  | n + 1, k, j => by
    have ih := idx_range' n (k + 1) j
    unfold idx at ih ⊢
    rw [List.range'_succ, List.findIdx?_cons, ih]
    by_cases h : k = j
    · subst h; simp
    · have : (k == j) = false := by simpa using h
      simp only [this, Bool.false_eq_true, if_false]
      by_cases h2 : k + 1 ≤ j ∧ j < k + 1 + n
      · rw [if_pos h2, if_pos (by omega), Option.map_some]
        congr 1; omega
      · rw [if_neg h2, if_neg (by omega)]; rfl

theorem back_eq {nx : Nat} {fp : List Nat} {H' : Heap} (hk : fp.length ≤ H'.length) : backF nx fp (List.range' fp.length (H'.length - fp.length)) = backO nx fp H'.length := by
  funext j
  unfold backF backO placeB
  by_cases h : j < fp.length
  · rw [if_pos h, if_pos (by omega), if_pos h, List.getD_eq_getElem?_getD, List.getElem?_eq_getElem h]; rfl
  · rw [if_neg h, idx_range']
    by_cases h2 : j < H'.length
    · rw [if_pos (by omega), if_pos h2, if_neg h]; rfl
    · rw [if_neg (by omega), if_neg h2]; rfl

theorem getAll_range' (H' : Heap) : ∀ (n k : Nat), k + n = H'.length → getAll H' (List.range' k n) = some (H'.drop k)
  | 0, k, h => by
    simp only [List.range'_zero, getAll]
    rw [List.drop_eq_nil_of_le (by omega)]
  | n + 1, k, h => by
    rw [List.range'_succ]
    simp only [getAll]
    rw [getAll_range' H' n (k + 1) (by omega), List.getElem?_eq_getElem (show k < H'.length by omega)]
    simp only
    rw [← List.drop_eq_getElem_cons]

/-- a call of a method that keeps all that it makes -/
theorem call_obj {f : Nat} {args : List AVal} {fp : List Nat} {bs : List Blk} {v : AVal} {H H' : Heap} {ro nx : Nat} (hw : (E.hint f).whole = false) (hka : (E.hint f).keepAll = true) (hr0 : (E.hint f).ro = false) (hl : (E.hint f).lits = [])
    (hreach : reach H fuel0 (refsL args) [] = some fp) (hget : getAll H fp = some bs) (hro : ∀ id ∈ fp, ro ≤ id)
    (hr : runT E f (renL (idx fp) args) (bs.map (renB (idx fp))) 0 = some (.ret v, H')) (hk : fp.length ≤ H'.length) (hv : noRef v = true) :
    callT E f args ro H nx = some (.ret v, .ups (objUps nx fp H')) := by
  unfold callT
  rw [callF_small hw, hl, lend_nil]
  simp only [hreach, hget, List.all_nil, Bool.not_true, Bool.false_or]
  have h1 : (!(E.hint f).ro && !fp.all fun id => decide (ro ≤ id)) = false := by
    have : (fp.all fun id => decide (ro ≤ id)) = true := List.all_eq_true.2 fun id hid => by simpa using hro id hid
    rw [this]; simp
  simp only [h1, Bool.false_eq_true, if_false]
  have h0 : (if (E.hint f).ro = true then fp.length else 0) = 0 := by rw [hr0]; rfl
  rw [h0, hr]
  simp only [Option.bind_some, callBack, keepOf, hka, if_true]
  rw [getAll_range' H' _ _ (by omega)]
  simp only
  rw [handBack_noRef _ _ _ _ _ hv]
  simp only [List.isEmpty_nil, Bool.true_or, if_true]
  rw [back_eq hk, (ren_noRef _).1 v hv]
  unfold callUpd
  rw [back_eq hk, hr0]
  rfl

/-- a call of a method that only looks -/
theorem call_look {f : Nat} {args : List AVal} {fp : List Nat} {bs : List Blk} {v : AVal} {H H' : Heap} {ro nx : Nat} (hw : (E.hint f).whole = false) (hka : (E.hint f).keepAll = false) (hk : (E.hint f).keep = []) (hr0 : (E.hint f).ro = true) (hl : (E.hint f).lits = [])
    (hreach : reach H fuel0 (refsL args) [] = some fp) (hget : getAll H fp = some bs)
    (hr : runT E f (renL (idx fp) args) (bs.map (renB (idx fp))) fp.length = some (.ret v, H')) (hv : noRef v = true) :
    callT E f args ro H nx = some (.ret v, .ups []) := by
  unfold callT
  rw [callF_small hw, hl, lend_nil]
  simp only [hreach, hget, List.all_nil, Bool.not_true, Bool.false_or, hr0, Bool.false_and, Bool.false_eq_true, if_false, if_true]
  rw [hr]
  simp only [Option.bind_some, callBack, keepOf, hka, Bool.false_eq_true, if_false, hk, List.filter_nil, uniq, getAll]
  rw [handBack_noRef _ _ _ _ _ hv]
  simp only [List.isEmpty_nil, Bool.true_or, if_true]
  rw [(ren_noRef _).1 v hv]
  simp [callUpd, numbered, hr0]

theorem put_zip : ∀ (fp : List Nat) (bs : List Blk) (H : Heap), fp.length = bs.length → fp.Nodup → (∀ id ∈ fp, id < H.length) →
    (putU H (fp.zip bs)).length = H.length ∧ (∀ j, j < fp.length → (putU H (fp.zip bs))[fp.getD j 0]? = bs[j]?) ∧ (∀ id, id ∉ fp → (putU H (fp.zip bs))[id]? = H[id]?)
  | [], bs, H, _, _, _ => ⟨rfl, fun j hj => by simp at hj, fun _ _ => rfl⟩
  | x :: fp, [], H, h, _, _ => by simp at h
  | x :: fp, b :: bs, H, h, hn, hlt => by
    simp only [List.nodup_cons] at hn
    have hx := hlt x (by simp)
    simp only [List.zip_cons_cons, putU]
    rw [if_pos hx]
    obtain ⟨k0, k1, k2⟩ := put_zip fp bs (H.set x b) (by simpa using h) hn.2 (fun id hid => by simpa using hlt id (by simp [hid]))
    refine ⟨by rw [k0]; simp, fun j hj => ?_, fun id hid => ?_⟩
    · cases j with
      | zero =>
        simp only [List.getD_cons_zero, List.getElem?_cons_zero]
        rw [k2 x hn.1, List.getElem?_set_self hx]
      | succ j =>
        simp only [List.getD_cons_succ, List.getElem?_cons_succ]
        exact k1 j (by simpa using hj)
    · simp only [List.mem_cons, not_or] at hid
      rw [k2 id hid.2, List.getElem?_set_ne (fun e => hid.1 e.symm)]

/-- the caller's memory behind such a call, block by block -/
theorem obj_after {fp : List Nat} {H H' : Heap} (hn : fp.Nodup) (hlt : ∀ id ∈ fp, id < H.length) (hk : fp.length ≤ H'.length) :
    (putU H (objUps H.length fp H')).length = H.length + (H'.length - fp.length) ∧
    (∀ j b, H'[j]? = some b → (putU H (objUps H.length fp H'))[placeB H.length fp j]? = some (renB (backO H.length fp H'.length) b)) ∧
    (∀ id, id < H.length → id ∉ fp → (putU H (objUps H.length fp H'))[id]? = H[id]?) := by
  unfold objUps
  rw [putU_append]
  obtain ⟨z0, z1, z2⟩ := put_zip fp ((H'.take fp.length).map (renB (backO H.length fp H'.length))) H (by simp; omega) hn hlt
  generalize hZ : putU H (fp.zip ((H'.take fp.length).map (renB (backO H.length fp H'.length)))) = Z at z0 z1 z2
  obtain ⟨p1, p2⟩ := put_numbered ((H'.drop fp.length).map (renB (backO H.length fp H'.length))) Z H.length (.inr (.inl z0.symm))
  have plen : ∀ (l : List Blk) (Z : Heap) (n : Nat), n = Z.length → (putU Z (numbered n l)).length = Z.length + l.length := by
    intro l
    induction l with
    | nil => intro Z n _; simp [numbered, putU]
    | cons x l ih =>
      rintro Z n rfl
      simp only [numbered, putU]
      rw [if_neg (Nat.lt_irrefl _), ih _ _ (by simp)]
      simp; omega
  refine ⟨?_, fun j b hj => ?_, fun id hid hnf => ?_⟩
  · rw [plen _ _ _ z0.symm, z0]
    simp
  · unfold placeB
    have hjl := (List.getElem?_eq_some_iff.1 hj).1
    by_cases h : j < fp.length
    · rw [if_pos h]
      have hm : fp.getD j 0 ∈ fp := by rw [List.getD_eq_getElem?_getD, List.getElem?_eq_getElem h]; exact List.getElem_mem h
      rw [p2 _ (.inl (hlt _ hm)), z1 j h]
      rw [List.getElem?_map, List.getElem?_take, if_pos h, hj]; rfl
    · rw [if_neg h]
      have := p1 (j - fp.length) (renB (backO H.length fp H'.length) b) (by rw [List.getElem?_map, List.getElem?_drop, show fp.length + (j - fp.length) = j by omega, hj]; rfl)
      exact this
  · rw [p2 _ (.inl hid), z2 id hnf]

theorem place_inj {nx : Nat} {fp : List Nat} (hn : fp.Nodup) (hlt : ∀ id ∈ fp, id < nx) {i j : Nat} (h : placeB nx fp i = placeB nx fp j) : i = j := by
  have hm : ∀ k, k < fp.length → fp.getD k 0 ∈ fp := fun k h => by rw [List.getD_eq_getElem?_getD, List.getElem?_eq_getElem h]; exact List.getElem_mem h
  unfold placeB at h
  by_cases h1 : i < fp.length
  · by_cases h2 : j < fp.length
    · rw [if_pos h1, if_pos h2] at h
      rw [List.getD_eq_getElem?_getD, List.getD_eq_getElem?_getD, List.getElem?_eq_getElem h1, List.getElem?_eq_getElem h2] at h
      exact (List.getElem_inj hn).1 (by simpa using h)
    · rw [if_pos h1, if_neg h2] at h
      have := hlt _ (hm i h1)
      omega
  · by_cases h2 : j < fp.length
    · rw [if_neg h1, if_pos h2] at h
      have := hlt _ (hm j h2)
      omega
    · rw [if_neg h1, if_neg h2] at h
      omega

theorem nodup_place {nx : Nat} {fp : List Nat} (hn : fp.Nodup) (hlt : ∀ id ∈ fp, id < nx) : ∀ {l : List Nat}, l.Nodup → (l.map (placeB nx fp)).Nodup
  | [], _ => List.nodup_nil
  | x :: l, hl => by
    simp only [List.nodup_cons] at hl
    simp only [List.map_cons, List.nodup_cons]
    refine ⟨fun h => ?_, nodup_place hn hlt hl.2⟩
    obtain ⟨y, hy, he⟩ := List.mem_map.1 h
    exact hl.1 (place_inj hn hlt he ▸ hy)

theorem place_mem {nx : Nat} {fp : List Nat} (j : Nat) : placeB nx fp j ∈ fp ∨ nx ≤ placeB nx fp j := by
  unfold placeB
  by_cases h : j < fp.length
  · rw [if_pos h]
    left
    rw [List.getD_eq_getElem?_getD, List.getElem?_eq_getElem h]; exact List.getElem_mem h
  · rw [if_neg h]; right; omega

theorem numbered_fst {α : Type} : ∀ (l : List α) (n : Nat), (numbered n l).map (·.1) = List.range' n l.length
  | [], n => rfl
  | x :: l, n => by simp [numbered, numbered_fst l (n + 1), List.range'_succ]

/-- which blocks such a call writes -/
theorem obj_writes {nx : Nat} {fp : List Nat} {H' : Heap} (hk : fp.length ≤ H'.length) : (objUps nx fp H').map (·.1) = fp ++ List.range' nx (H'.length - fp.length) := by
  unfold objUps
  rw [List.map_append, numbered_fst, zip_fst (by simp; omega)]
  simp

theorem consec_old {m : Nat} : ∀ (us : Ups) (n : Nat) (vs : Ups), (∀ u ∈ us, u.1 < m) → consec m n (us ++ vs) = consec m n vs
  | [], _, _, _ => rfl
  | (id, b) :: us, n, vs, h => by
    simp only [List.cons_append, consec]
    rw [if_pos (h (id, b) (by simp))]
    exact consec_old us n vs fun u hu => h u (by simp [hu])

theorem consec_numbered {m : Nat} : ∀ (l : List Blk) (n : Nat), m ≤ n → consec m n (numbered n l) = true
  | [], _, _ => rfl
  | x :: l, n, h => by
    simp only [numbered, consec]
    rw [if_neg (by omega), consec_numbered l (n + 1) (by omega)]
    simp

theorem obj_consec {nx : Nat} {fp : List Nat} {H' : Heap} (hlt : ∀ id ∈ fp, id < nx) : consec nx nx (objUps nx fp H') = true := by
  unfold objUps
  rw [consec_old]
  · exact consec_numbered _ _ (Nat.le_refl _)
  · intro u hu
    exact hlt _ (List.of_mem_zip hu).1

end
end Go.Proofs.Ytamcncpgfhfheaa.Tidy

/-
  Trees: hashes, of the program and of the reference.
-/
namespace Go.Proofs.Ytamcncpgfhfheaa.Tidy
open Go Go.IntWalk
set_option maxRecDepth 10000
set_option linter.unusedSimpArgs false

/-- one byte more -/
def hstep (h : Int) (b : Int) : Int := IntKind.u64.wrap (IntKind.u64.wrap ((BitVec.ofInt IntKind.u64.bits h ^^^ BitVec.ofInt IntKind.u64.bits (IntKind.u64.wrap b)).toNat) * 1099511628211)

def h0 : Int := 14695981039346656037
def i8 (n : Int) : AVal := .int .u8 n
def sB (s : List UInt8) : List Int := s.map fun b => (b.toNat : Int)

theorem sB_append (a b : List UInt8) : sB (a ++ b) = sB a ++ sB b := by simp [sB]

theorem wrap_succ {i : Nat} (h : i < 2 ^ 63 - 1) : IntKind.i64.wrap ((i : Int) + 1) = ((i + 1 : Nat) : Int) := by
  rw [i64_in _ (by omega)]; rfl

theorem get_drop {α : Type} {l : List α} {i : Nat} (h : i < l.length) : ∃ b, l[i]? = some b ∧ l.drop i = b :: l.drop (i + 1) :=
  ⟨l[i], List.getElem?_eq_getElem h, List.drop_eq_getElem_cons h⟩

theorem get_map {α : Type} {f : α → AVal} {l : List α} {i : Nat} {b : α} (h : l[i]? = some b) : (l.map f)[i]? = some (f b) := by simp [h]

theorem add_loop (cl : Bool) (l : List Int) (H : Heap) (ro : Nat) (hlen : l.length < 2 ^ 63) : ∀ (n i : Nat) (h : Int) (j2 j3 j4 j5 j6 j10 j11 j12 j13 j14 j15 j16 j17 j18 j19 : AVal), i + n = l.length →
    Goes (execT env (Try.f85.at [1, 0, 1, 0]) ⟨[.int .u64 h, .lit cl 1 (l.map i8), j2, j3, j4, j5, j6, .lit cl 1 (l.map i8), .int .i64 l.length, .int .i64 i, j10, j11, j12, j13, j14, j15, j16, j17, j18, j19], H, [], ro, []⟩) fun e s => e = .exit 0 ∧
      ∃ j1 j2 j3 j4 j5 j6 j7 j8 j9 j10 j11 j12 j13 j14 j15 j16 j17 j18 j19, s = ⟨[.int .u64 ((l.drop i).foldl hstep h), j1, j2, j3, j4, j5, j6, j7, j8, j9, j10, j11, j12, j13, j14, j15, j16, j17, j18, j19], H, [], ro, []⟩ := by
  intro n
  induction n with
  | zero =>
    intro i h j2 j3 j4 j5 j6 j10 j11 j12 j13 j14 j15 j16 j17 j18 j19 hi
    have hd : decide ((i : Int) < (l.length : Int)) = false := by simp; omega
    have hdr : l.drop i = [] := List.drop_eq_nil_of_le (by omega)
    simp only [go_sem, Nat.reduceAdd, Nat.reduceSub, Nat.reduceMul, Nat.reduceDiv, Nat.reduceMod, Nat.reducePow, Nat.reduceLeDiff, Nat.reduceLT, Nat.reduceEqDiff, Nat.reduceBEq, Nat.reduceBNe, Int.reduceAdd, Int.reduceSub, Int.reduceMul, Int.reducePow, Int.reduceLE, Int.reduceLT, Int.reduceEq, Int.reduceToNat, Int.reduceNeg, reduceCtorEq, Nat.add_zero, Nat.zero_add, beq_self_eq_true, Try.f85, ti3]
    rw [execT_loop]
    simp only [go_sem, Nat.reduceAdd, Nat.reduceSub, Nat.reduceMul, Nat.reduceDiv, Nat.reduceMod, Nat.reducePow, Nat.reduceLeDiff, Nat.reduceLT, Nat.reduceEqDiff, Nat.reduceBEq, Nat.reduceBNe, Int.reduceAdd, Int.reduceSub, Int.reduceMul, Int.reducePow, Int.reduceLE, Int.reduceLT, Int.reduceEq, Int.reduceToNat, Int.reduceNeg, reduceCtorEq, Nat.add_zero, Nat.zero_add, beq_self_eq_true, ti3, hd, hdr, List.foldl_nil]
    exact ⟨_, _, _, _, _, _, _, _, _, _, _, _, _, _, _, _, _, _, _, rfl⟩
  | succ n ih =>
    intro i h j2 j3 j4 j5 j6 j10 j11 j12 j13 j14 j15 j16 j17 j18 j19 hi
    have hd : decide ((i : Int) < (l.length : Int)) = true := by simp; omega
    have h0 : (0 : Int) ≤ (i : Int) := by omega
    obtain ⟨b, hb, hdr⟩ := get_drop (show i < l.length by omega)
    have hb' : (l.map i8)[(i : Int).toNat]? = some (.int .u8 b) := by simp [hb, i8]
    have ih' := ih (i + 1) (hstep h b)
    simp only [go_sem, Nat.reduceAdd, Nat.reduceSub, Nat.reduceMul, Nat.reduceDiv, Nat.reduceMod, Nat.reducePow, Nat.reduceLeDiff, Nat.reduceLT, Nat.reduceEqDiff, Nat.reduceBEq, Nat.reduceBNe, Int.reduceAdd, Int.reduceSub, Int.reduceMul, Int.reducePow, Int.reduceLE, Int.reduceLT, Int.reduceEq, Int.reduceToNat, Int.reduceNeg, reduceCtorEq, Nat.add_zero, Nat.zero_add, beq_self_eq_true, Try.f85] at ih' ⊢
    rw [execT_loop, hdr]
    simp only [go_sem, Nat.reduceAdd, Nat.reduceSub, Nat.reduceMul, Nat.reduceDiv, Nat.reduceMod, Nat.reducePow, Nat.reduceLeDiff, Nat.reduceLT, Nat.reduceEqDiff, Nat.reduceBEq, Nat.reduceBNe, Int.reduceAdd, Int.reduceSub, Int.reduceMul, Int.reducePow, Int.reduceLE, Int.reduceLT, Int.reduceEq, Int.reduceToNat, Int.reduceNeg, reduceCtorEq, Nat.add_zero, Nat.zero_add, beq_self_eq_true, ti3, ti5, ti111, ti115, hd, h0, hb', wrap_succ (show i < 2 ^ 63 - 1 by omega), List.foldl_cons]
    exact ih' _ _ _ _ _ _ _ _ _ _ _ _ _ _ _ (by omega)

theorem add_run (h : Int) (cl : Bool) (l : List Int) (hlen : l.length < 2 ^ 63) : runT env 85 [.int .u64 h, .lit cl 1 (l.map i8)] [] 0 = some (.ret (.int .u64 (l.foldl hstep h)), []) := by
  obtain ⟨e, s, hx, rfl, j1, j2, j3, j4, j5, j6, j7, j8, j9, j10, j11, j12, j13, j14, j15, j16, j17, j18, j19, rfl⟩ := add_loop cl l [] 0 hlen l.length 0 h _ _ _ _ _ _ _ _ _ _ _ _ _ _ _ (by omega)
  simp only [go_sem, Nat.reduceAdd, Nat.reduceSub, Nat.reduceMul, Nat.reduceDiv, Nat.reduceMod, Nat.reducePow, Nat.reduceLeDiff, Nat.reduceLT, Nat.reduceEqDiff, Nat.reduceBEq, Nat.reduceBNe, Int.reduceAdd, Int.reduceSub, Int.reduceMul, Int.reducePow, Int.reduceLE, Int.reduceLT, Int.reduceEq, Int.reduceToNat, Int.reduceNeg, reduceCtorEq, Nat.add_zero, Nat.zero_add, beq_self_eq_true, Try.f85, List.drop_zero, Int.ofNat_zero, Int.natCast_zero] at hx
  rw [run_unfold fn85 rfl]
  simp only [go_sem, Nat.reduceAdd, Nat.reduceSub, Nat.reduceMul, Nat.reduceDiv, Nat.reduceMod, Nat.reducePow, Nat.reduceLeDiff, Nat.reduceLT, Nat.reduceEqDiff, Nat.reduceBEq, Nat.reduceBNe, Int.reduceAdd, Int.reduceSub, Int.reduceMul, Int.reducePow, Int.reduceLE, Int.reduceLT, Int.reduceEq, Int.reduceToNat, Int.reduceNeg, reduceCtorEq, Nat.add_zero, Nat.zero_add, beq_self_eq_true, hint85, Try.f85, ti111, List.length_map]
  rw [hx]
  simp only [go_sem, Nat.reduceAdd, Nat.reduceSub, Nat.reduceMul, Nat.reduceDiv, Nat.reduceMod, Nat.reducePow, Nat.reduceLeDiff, Nat.reduceLT, Nat.reduceEqDiff, Nat.reduceBEq, Nat.reduceBNe, Int.reduceAdd, Int.reduceSub, Int.reduceMul, Int.reducePow, Int.reduceLE, Int.reduceLT, Int.reduceEq, Int.reduceToNat, Int.reduceNeg, reduceCtorEq, Nat.add_zero, Nat.zero_add, beq_self_eq_true, unwind, modeEx, resultsOf, one]
theorem add_call (h : Int) (cl : Bool) (l : List Int) (hlen : l.length < 2 ^ 63) (ro : Nat) (H : Heap) (nx : Nat) : callT env 85 [.int .u64 h, .lit cl 1 (l.map i8)] ro H nx = some (.ret (.int .u64 (l.foldl hstep h)), .ups []) :=
  call_pure rfl rfl rfl rfl (add_run h cl l hlen) rfl ro H nx
@[go_sem] theorem add_call1 (h a : Int) (cl : Bool) (ro : Nat) (H : Heap) (nx : Nat) : callT env 85 [.int .u64 h, .lit cl 1 [.int .u8 a]] ro H nx = some (.ret (.int .u64 (hstep h a)), .ups []) :=
  add_call h cl [a] (by simp) ro H nx
@[go_sem] theorem add_call5 (h a b c d e : Int) (cl : Bool) (ro : Nat) (H : Heap) (nx : Nat) : callT env 85 [.int .u64 h, .lit cl 1 [.int .u8 a, .int .u8 b, .int .u8 c, .int .u8 d, .int .u8 e]] ro H nx = some (.ret (.int .u64 ([a, b, c, d, e].foldl hstep h)), .ups []) :=
  add_call h cl [a, b, c, d, e] (by simp) ro H nx

/-- the bytes of a number, the lowest one first -/
def num : Nat → Int → Int → Int
  | 0, h, _ => h
  | k + 1, h, n => num k (hstep h (IntKind.u8.wrap n)) (n.fdiv 256)

theorem number_loop (H : Heap) (ro : Nat) : ∀ (n i : Nat) (h m : Int) (j2 j3 j4 j6 j7 j8 j9 j10 j11 j12 j13 j14 j15 : AVal), i + n = 8 →
    Goes (execT env (Try.f86.at [1, 0, 1, 0]) ⟨[.int .u64 h, .int .u64 m, j2, j3, j4, .int .i64 i, j6, j7, j8, j9, j10, j11, j12, j13, j14, j15], H, [], ro, []⟩) fun e s => e = .exit 0 ∧
      ∃ j1 j2 j3 j4 j5 j6 j7 j8 j9 j10 j11 j12 j13 j14 j15, s = ⟨[.int .u64 (num n h m), j1, j2, j3, j4, j5, j6, j7, j8, j9, j10, j11, j12, j13, j14, j15], H, [], ro, []⟩ := by
  intro n
  induction n with
  | zero =>
    intro i h m j2 j3 j4 j6 j7 j8 j9 j10 j11 j12 j13 j14 j15 hi
    have hd : decide ((i : Int) < 8) = false := by simp; omega
    simp only [go_sem, Nat.reduceAdd, Nat.reduceSub, Nat.reduceMul, Nat.reduceDiv, Nat.reduceMod, Nat.reducePow, Nat.reduceLeDiff, Nat.reduceLT, Nat.reduceEqDiff, Nat.reduceBEq, Nat.reduceBNe, Int.reduceAdd, Int.reduceSub, Int.reduceMul, Int.reducePow, Int.reduceLE, Int.reduceLT, Int.reduceEq, Int.reduceToNat, Int.reduceNeg, reduceCtorEq, Nat.add_zero, Nat.zero_add, beq_self_eq_true, Try.f86, ti3]
    rw [execT_loop]
    simp only [go_sem, Nat.reduceAdd, Nat.reduceSub, Nat.reduceMul, Nat.reduceDiv, Nat.reduceMod, Nat.reducePow, Nat.reduceLeDiff, Nat.reduceLT, Nat.reduceEqDiff, Nat.reduceBEq, Nat.reduceBNe, Int.reduceAdd, Int.reduceSub, Int.reduceMul, Int.reducePow, Int.reduceLE, Int.reduceLT, Int.reduceEq, Int.reduceToNat, Int.reduceNeg, reduceCtorEq, Nat.add_zero, Nat.zero_add, beq_self_eq_true, ti3, hd, num]
    exact ⟨_, _, _, _, _, _, _, _, _, _, _, _, _, _, _, rfl⟩
  | succ n ih =>
    intro i h m j2 j3 j4 j6 j7 j8 j9 j10 j11 j12 j13 j14 j15 hi
    have hd : decide ((i : Int) < 8) = true := by simp; omega
    have h0 : (0 : Int) ≤ (i : Int) := by omega
    have hp : ((2 : Int) ^ (min (8 : Int).toNat IntKind.u64.bits)) = 256 := by decide
    have ih' := ih (i + 1) (hstep h (IntKind.u8.wrap m)) (m.fdiv 256)
    simp only [go_sem, Nat.reduceAdd, Nat.reduceSub, Nat.reduceMul, Nat.reduceDiv, Nat.reduceMod, Nat.reducePow, Nat.reduceLeDiff, Nat.reduceLT, Nat.reduceEqDiff, Nat.reduceBEq, Nat.reduceBNe, Int.reduceAdd, Int.reduceSub, Int.reduceMul, Int.reducePow, Int.reduceLE, Int.reduceLT, Int.reduceEq, Int.reduceToNat, Int.reduceNeg, reduceCtorEq, Nat.add_zero, Nat.zero_add, beq_self_eq_true, Try.f86] at ih' ⊢
    rw [execT_loop]
    simp only [go_sem, Nat.reduceAdd, Nat.reduceSub, Nat.reduceMul, Nat.reduceDiv, Nat.reduceMod, Nat.reducePow, Nat.reduceLeDiff, Nat.reduceLT, Nat.reduceEqDiff, Nat.reduceBEq, Nat.reduceBNe, Int.reduceAdd, Int.reduceSub, Int.reduceMul, Int.reducePow, Int.reduceLE, Int.reduceLT, Int.reduceEq, Int.reduceToNat, Int.reduceNeg, reduceCtorEq, Nat.add_zero, Nat.zero_add, beq_self_eq_true, ti3, ti5, ti25, ti111, ti115, hint86, hd, h0, hp, wrap_succ (show i < 2 ^ 63 - 1 by omega), num]
    exact ih' _ _ _ _ _ _ _ _ _ _ _ _ _ (by omega)

theorem number_run (h m : Int) : runT env 86 [.int .u64 h, .int .u64 m] [] 0 = some (.ret (.int .u64 (num 8 h m)), []) := by
  obtain ⟨e, s, hx, rfl, j1, j2, j3, j4, j5, j6, j7, j8, j9, j10, j11, j12, j13, j14, j15, rfl⟩ := number_loop [] 0 8 0 h m _ _ _ _ _ _ _ _ _ _ _ _ _ (by omega)
  simp only [go_sem, Nat.reduceAdd, Nat.reduceSub, Nat.reduceMul, Nat.reduceDiv, Nat.reduceMod, Nat.reducePow, Nat.reduceLeDiff, Nat.reduceLT, Nat.reduceEqDiff, Nat.reduceBEq, Nat.reduceBNe, Int.reduceAdd, Int.reduceSub, Int.reduceMul, Int.reducePow, Int.reduceLE, Int.reduceLT, Int.reduceEq, Int.reduceToNat, Int.reduceNeg, reduceCtorEq, Nat.add_zero, Nat.zero_add, beq_self_eq_true, Try.f86, Int.ofNat_zero, Int.natCast_zero] at hx
  rw [run_unfold fn86 rfl]
  simp only [go_sem, Nat.reduceAdd, Nat.reduceSub, Nat.reduceMul, Nat.reduceDiv, Nat.reduceMod, Nat.reducePow, Nat.reduceLeDiff, Nat.reduceLT, Nat.reduceEqDiff, Nat.reduceBEq, Nat.reduceBNe, Int.reduceAdd, Int.reduceSub, Int.reduceMul, Int.reducePow, Int.reduceLE, Int.reduceLT, Int.reduceEq, Int.reduceToNat, Int.reduceNeg, reduceCtorEq, Nat.add_zero, Nat.zero_add, beq_self_eq_true, Try.f86]
  rw [hx]
  simp only [go_sem, Nat.reduceAdd, Nat.reduceSub, Nat.reduceMul, Nat.reduceDiv, Nat.reduceMod, Nat.reducePow, Nat.reduceLeDiff, Nat.reduceLT, Nat.reduceEqDiff, Nat.reduceBEq, Nat.reduceBNe, Int.reduceAdd, Int.reduceSub, Int.reduceMul, Int.reducePow, Int.reduceLE, Int.reduceLT, Int.reduceEq, Int.reduceToNat, Int.reduceNeg, reduceCtorEq, Nat.add_zero, Nat.zero_add, beq_self_eq_true, unwind, modeEx, resultsOf, one]
@[go_sem] theorem number_call (h m : Int) (ro : Nat) (H : Heap) (nx : Nat) : callT env 86 [.int .u64 h, .int .u64 m] ro H nx = some (.ret (.int .u64 (num 8 h m)), .ups []) :=
  call_pure rfl rfl rfl rfl (number_run h m) rfl ro H nx

def nodeI (a b : Int) : Int := num 8 (num 8 (hstep h0 1) a) b

theorem node_call (a b : Int) (ro : Nat) (H : Heap) (nx : Nat) : callT env 22 [.int .u64 a, .int .u64 b] ro H nx = some (.ret (.int .u64 (nodeI a b)), .ups []) := by
  refine call_pure (H' := []) rfl rfl rfl rfl ?_ rfl ro H nx
  rw [run_unfold fn22 rfl]
  simp only [go_sem, Nat.reduceAdd, Nat.reduceSub, Nat.reduceMul, Nat.reduceDiv, Nat.reduceMod, Nat.reducePow, Nat.reduceLeDiff, Nat.reduceLT, Nat.reduceEqDiff, Nat.reduceBEq, Nat.reduceBNe, Int.reduceAdd, Int.reduceSub, Int.reduceMul, Int.reducePow, Int.reduceLE, Int.reduceLT, Int.reduceEq, Int.reduceToNat, Int.reduceNeg, reduceCtorEq, Nat.add_zero, Nat.zero_add, beq_self_eq_true, Try.f22, unwind, modeEx, resultsOf, one]
  rfl

structure Entry where
  office : Int
  no : Int
  body : List UInt8
  deriving DecidableEq

def Entry.enc (e : Entry) : AVal := .agg [.int .i64 e.office, .int .i64 e.no, .str e.body]
def Entry.ok (e : Entry) : Bool := !(decide (e.office < 0) || decide (8 ≤ e.office) || decide (e.no < 0) || decide (64 ≤ e.no) || decide (2400 < (e.body.length : Int)))

def erS (e : Entry) : Int := if e.ok then 0 else 90

theorem enc_lit (e : Entry) : e.enc = .agg [.int .i64 e.office, .int .i64 e.no, .str e.body] := rfl

theorem check_run (e : Entry) : ∃ H', runT env 20 [e.enc] [] 0 = some (.ret (.int .i64 (erS e)), H') := by
  rw [run_unfold fn20 rfl]
  unfold erS Entry.ok
  cases h1 : decide (e.office < 0)
  · cases h2 : decide (8 ≤ e.office)
    · cases h3 : decide (e.no < 0)
      · cases h4 : decide (64 ≤ e.no)
        · cases h5 : decide (2400 < (e.body.length : Int)) <;>
          (simp only [go_sem, Nat.reduceAdd, Nat.reduceSub, Nat.reduceMul, Nat.reduceDiv, Nat.reduceMod, Nat.reducePow, Nat.reduceLeDiff, Nat.reduceLT, Nat.reduceEqDiff, Nat.reduceBEq, Nat.reduceBNe, Int.reduceAdd, Int.reduceSub, Int.reduceMul, Int.reducePow, Int.reduceLE, Int.reduceLT, Int.reduceEq, Int.reduceToNat, Int.reduceNeg, reduceCtorEq, Nat.add_zero, Nat.zero_add, beq_self_eq_true, Try.f20, enc_lit, h1, h2, h3, h4, h5, unwind, modeEx, resultsOf, one]; exact ⟨_, rfl⟩)
        · simp only [go_sem, Nat.reduceAdd, Nat.reduceSub, Nat.reduceMul, Nat.reduceDiv, Nat.reduceMod, Nat.reducePow, Nat.reduceLeDiff, Nat.reduceLT, Nat.reduceEqDiff, Nat.reduceBEq, Nat.reduceBNe, Int.reduceAdd, Int.reduceSub, Int.reduceMul, Int.reducePow, Int.reduceLE, Int.reduceLT, Int.reduceEq, Int.reduceToNat, Int.reduceNeg, reduceCtorEq, Nat.add_zero, Nat.zero_add, beq_self_eq_true, Try.f20, enc_lit, h1, h2, h3, h4, unwind, modeEx, resultsOf, one]; exact ⟨_, rfl⟩
      · simp only [go_sem, Nat.reduceAdd, Nat.reduceSub, Nat.reduceMul, Nat.reduceDiv, Nat.reduceMod, Nat.reducePow, Nat.reduceLeDiff, Nat.reduceLT, Nat.reduceEqDiff, Nat.reduceBEq, Nat.reduceBNe, Int.reduceAdd, Int.reduceSub, Int.reduceMul, Int.reducePow, Int.reduceLE, Int.reduceLT, Int.reduceEq, Int.reduceToNat, Int.reduceNeg, reduceCtorEq, Nat.add_zero, Nat.zero_add, beq_self_eq_true, Try.f20, enc_lit, h1, h2, h3, unwind, modeEx, resultsOf, one]; exact ⟨_, rfl⟩
    · simp only [go_sem, Nat.reduceAdd, Nat.reduceSub, Nat.reduceMul, Nat.reduceDiv, Nat.reduceMod, Nat.reducePow, Nat.reduceLeDiff, Nat.reduceLT, Nat.reduceEqDiff, Nat.reduceBEq, Nat.reduceBNe, Int.reduceAdd, Int.reduceSub, Int.reduceMul, Int.reducePow, Int.reduceLE, Int.reduceLT, Int.reduceEq, Int.reduceToNat, Int.reduceNeg, reduceCtorEq, Nat.add_zero, Nat.zero_add, beq_self_eq_true, Try.f20, enc_lit, h1, h2, unwind, modeEx, resultsOf, one]; exact ⟨_, rfl⟩
  · simp only [go_sem, Nat.reduceAdd, Nat.reduceSub, Nat.reduceMul, Nat.reduceDiv, Nat.reduceMod, Nat.reducePow, Nat.reduceLeDiff, Nat.reduceLT, Nat.reduceEqDiff, Nat.reduceBEq, Nat.reduceBNe, Int.reduceAdd, Int.reduceSub, Int.reduceMul, Int.reducePow, Int.reduceLE, Int.reduceLT, Int.reduceEq, Int.reduceToNat, Int.reduceNeg, reduceCtorEq, Nat.add_zero, Nat.zero_add, beq_self_eq_true, Try.f20, enc_lit, h1, unwind, modeEx, resultsOf, one]; exact ⟨_, rfl⟩

theorem check_call (e : Entry) (ro : Nat) (H : Heap) (nx : Nat) : callT env 20 [e.enc] ro H nx = some (.ret (.int .i64 (erS e)), .ups []) := by
  obtain ⟨H', h⟩ := check_run e
  exact call_pure rfl rfl rfl rfl h rfl ro H nx

theorem rcheck_run (e : Entry) : ∃ H', runT env 21 [e.enc] [] 0 = some (.ret (.int .i64 (erS e)), H') := by
  rw [run_unfold fn21 rfl]
  unfold erS Entry.ok
  cases h1 : decide (e.office < 0)
  · cases h2 : decide (8 ≤ e.office)
    · cases h3 : decide (e.no < 0)
      · cases h4 : decide (64 ≤ e.no)
        · cases h5 : decide (2400 < (e.body.length : Int)) <;>
          (simp only [go_sem, Nat.reduceAdd, Nat.reduceSub, Nat.reduceMul, Nat.reduceDiv, Nat.reduceMod, Nat.reducePow, Nat.reduceLeDiff, Nat.reduceLT, Nat.reduceEqDiff, Nat.reduceBEq, Nat.reduceBNe, Int.reduceAdd, Int.reduceSub, Int.reduceMul, Int.reducePow, Int.reduceLE, Int.reduceLT, Int.reduceEq, Int.reduceToNat, Int.reduceNeg, reduceCtorEq, Nat.add_zero, Nat.zero_add, beq_self_eq_true, Try.f21, enc_lit, h1, h2, h3, h4, h5, unwind, modeEx, resultsOf, one]; exact ⟨_, rfl⟩)
        · simp only [go_sem, Nat.reduceAdd, Nat.reduceSub, Nat.reduceMul, Nat.reduceDiv, Nat.reduceMod, Nat.reducePow, Nat.reduceLeDiff, Nat.reduceLT, Nat.reduceEqDiff, Nat.reduceBEq, Nat.reduceBNe, Int.reduceAdd, Int.reduceSub, Int.reduceMul, Int.reducePow, Int.reduceLE, Int.reduceLT, Int.reduceEq, Int.reduceToNat, Int.reduceNeg, reduceCtorEq, Nat.add_zero, Nat.zero_add, beq_self_eq_true, Try.f21, enc_lit, h1, h2, h3, h4, unwind, modeEx, resultsOf, one]; exact ⟨_, rfl⟩
      · simp only [go_sem, Nat.reduceAdd, Nat.reduceSub, Nat.reduceMul, Nat.reduceDiv, Nat.reduceMod, Nat.reducePow, Nat.reduceLeDiff, Nat.reduceLT, Nat.reduceEqDiff, Nat.reduceBEq, Nat.reduceBNe, Int.reduceAdd, Int.reduceSub, Int.reduceMul, Int.reducePow, Int.reduceLE, Int.reduceLT, Int.reduceEq, Int.reduceToNat, Int.reduceNeg, reduceCtorEq, Nat.add_zero, Nat.zero_add, beq_self_eq_true, Try.f21, enc_lit, h1, h2, h3, unwind, modeEx, resultsOf, one]; exact ⟨_, rfl⟩
    · simp only [go_sem, Nat.reduceAdd, Nat.reduceSub, Nat.reduceMul, Nat.reduceDiv, Nat.reduceMod, Nat.reducePow, Nat.reduceLeDiff, Nat.reduceLT, Nat.reduceEqDiff, Nat.reduceBEq, Nat.reduceBNe, Int.reduceAdd, Int.reduceSub, Int.reduceMul, Int.reducePow, Int.reduceLE, Int.reduceLT, Int.reduceEq, Int.reduceToNat, Int.reduceNeg, reduceCtorEq, Nat.add_zero, Nat.zero_add, beq_self_eq_true, Try.f21, enc_lit, h1, h2, unwind, modeEx, resultsOf, one]; exact ⟨_, rfl⟩
  · simp only [go_sem, Nat.reduceAdd, Nat.reduceSub, Nat.reduceMul, Nat.reduceDiv, Nat.reduceMod, Nat.reducePow, Nat.reduceLeDiff, Nat.reduceLT, Nat.reduceEqDiff, Nat.reduceBEq, Nat.reduceBNe, Int.reduceAdd, Int.reduceSub, Int.reduceMul, Int.reducePow, Int.reduceLE, Int.reduceLT, Int.reduceEq, Int.reduceToNat, Int.reduceNeg, reduceCtorEq, Nat.add_zero, Nat.zero_add, beq_self_eq_true, Try.f21, enc_lit, h1, unwind, modeEx, resultsOf, one]; exact ⟨_, rfl⟩
theorem rcheck_call (e : Entry) (ro : Nat) (H : Heap) (nx : Nat) : callT env 21 [e.enc] ro H nx = some (.ret (.int .i64 (erS e)), .ups []) := by
  obtain ⟨H', h⟩ := rcheck_run e
  exact call_pure rfl rfl rfl rfl h rfl ro H nx

theorem bytes_map (l : List UInt8) : l.map (fun b => AVal.int .u8 b.toNat) = (sB l).map i8 := by simp [sB, i8]
theorem sB_length (l : List UInt8) : (sB l).length = l.length := by simp [sB]

/-- the leaf of an entry -/
def leafI (e : Entry) : Int := (sB e.body).foldl hstep ([0, IntKind.u8.wrap e.office, IntKind.u8.wrap e.no, IntKind.u8.wrap e.body.length, IntKind.u8.wrap ((e.body.length : Int).fdiv 256)].foldl hstep h0)

theorem leaf_run (e : Entry) (hb : e.body.length ≤ 2 ^ 44) : ∃ H', runT env 79 [e.enc] [] 0 = some (.ret (.int .u64 (leafI e)), H') := by
  have hp : ((2 : Int) ^ (min (8 : Int).toNat IntKind.i64.bits)) = 256 := by decide
  have h1 : e.body.length ≤ maxBytes := by unfold maxBytes; omega
  have h2 : (sB e.body).length < 2 ^ 63 := by rw [sB_length]; omega
  rw [run_unfold fn79 rfl]
  simp only [go_sem, Nat.reduceAdd, Nat.reduceSub, Nat.reduceMul, Nat.reduceDiv, Nat.reduceMod, Nat.reducePow, Nat.reduceLeDiff, Nat.reduceLT, Nat.reduceEqDiff, Nat.reduceBEq, Nat.reduceBNe, Int.reduceAdd, Int.reduceSub, Int.reduceMul, Int.reducePow, Int.reduceLE, Int.reduceLT, Int.reduceEq, Int.reduceToNat, Int.reduceNeg, reduceCtorEq, Nat.add_zero, Nat.zero_add, beq_self_eq_true, Try.f79, enc_lit, hp, h1, h2, bytes_map, add_call, unwind, modeEx, resultsOf, one]
  exact ⟨_, rfl⟩
theorem leaf_call (e : Entry) (hb : e.body.length ≤ 2 ^ 44) (ro : Nat) (H : Heap) (nx : Nat) : callT env 79 [e.enc] ro H nx = some (.ret (.int .u64 (leafI e)), .ups []) := by
  obtain ⟨H', h⟩ := leaf_run e hb
  exact call_pure rfl rfl rfl rfl h rfl ro H nx

/-- the string of a byte -/
def bO (n : Int) : UInt8 := UInt8.ofNat (IntKind.u8.wrap (n.tmod 256)).toNat

@[go_sem] theorem byteOf_call (n : Int) (ro : Nat) (H : Heap) (nx : Nat) : callT env 105 [.int .u64 n] ro H nx = some (.ret (.str [bO n]), .ups []) := by
  refine call_pure (H' := []) rfl rfl rfl rfl ?_ rfl ro H nx
  rw [run_unfold fn105 rfl]
  simp only [go_sem, Nat.reduceAdd, Nat.reduceSub, Nat.reduceMul, Nat.reduceDiv, Nat.reduceMod, Nat.reducePow, Nat.reduceLeDiff, Nat.reduceLT, Nat.reduceEqDiff, Nat.reduceBEq, Nat.reduceBNe, Int.reduceAdd, Int.reduceSub, Int.reduceMul, Int.reducePow, Int.reduceLE, Int.reduceLT, Int.reduceEq, Int.reduceToNat, Int.reduceNeg, reduceCtorEq, Nat.add_zero, Nat.zero_add, beq_self_eq_true, Try.f105, unwind, modeEx, resultsOf, one]
  rfl

def eightL : Nat → Int → List UInt8
  | 0, _ => []
  | k + 1, n => bO n :: eightL k (IntKind.u64.wrap (n.tdiv 256))

theorem eightL_length : ∀ (k : Nat) (n : Int), (eightL k n).length = k
  | 0, _ => rfl
  | k + 1, n => by simp [eightL, eightL_length k]

theorem eight_loop (H : Heap) (ro : Nat) : ∀ (n i : Nat) (a : List UInt8) (m : Int) (j1 j2 j5 j6 j7 j8 j9 j10 j11 j12 j13 j14 j15 : AVal), i + n = 8 → a.length = i →
    Goes (execT env (Try.f124.at [1, 1, 0, 1, 0]) ⟨[.int .u64 m, j1, j2, .str a, .int .i64 i, j5, j6, j7, j8, j9, j10, j11, j12, j13, j14, j15], H, [], ro, []⟩) fun e s => e = .exit 0 ∧
      ∃ j0 j1 j2 j4 j5 j6 j7 j8 j9 j10 j11 j12 j13 j14 j15, s = ⟨[j0, j1, j2, .str (a ++ eightL n m), j4, j5, j6, j7, j8, j9, j10, j11, j12, j13, j14, j15], H, [], ro, []⟩ := by
  intro n
  induction n with
  | zero =>
    intro i a m j1 j2 j5 j6 j7 j8 j9 j10 j11 j12 j13 j14 j15 hi ha
    have hd : decide ((i : Int) < 8) = false := by simp; omega
    simp only [go_sem, Nat.reduceAdd, Nat.reduceSub, Nat.reduceMul, Nat.reduceDiv, Nat.reduceMod, Nat.reducePow, Nat.reduceLeDiff, Nat.reduceLT, Nat.reduceEqDiff, Nat.reduceBEq, Nat.reduceBNe, Int.reduceAdd, Int.reduceSub, Int.reduceMul, Int.reducePow, Int.reduceLE, Int.reduceLT, Int.reduceEq, Int.reduceToNat, Int.reduceNeg, reduceCtorEq, Nat.add_zero, Nat.zero_add, beq_self_eq_true, Try.f124]
    rw [execT_loop]
    simp only [go_sem, Nat.reduceAdd, Nat.reduceSub, Nat.reduceMul, Nat.reduceDiv, Nat.reduceMod, Nat.reducePow, Nat.reduceLeDiff, Nat.reduceLT, Nat.reduceEqDiff, Nat.reduceBEq, Nat.reduceBNe, Int.reduceAdd, Int.reduceSub, Int.reduceMul, Int.reducePow, Int.reduceLE, Int.reduceLT, Int.reduceEq, Int.reduceToNat, Int.reduceNeg, reduceCtorEq, Nat.add_zero, Nat.zero_add, beq_self_eq_true, hd, eightL]
    exact ⟨_, _, _, _, _, _, _, _, _, _, _, _, _, _, _, rfl⟩
  | succ n ih =>
    intro i a m j1 j2 j5 j6 j7 j8 j9 j10 j11 j12 j13 j14 j15 hi ha
    have hd : decide ((i : Int) < 8) = true := by simp; omega
    have hm : a.length + 1 ≤ maxBytes := by unfold maxBytes; omega
    have ih' := ih (i + 1) (a ++ [bO m]) (IntKind.u64.wrap (m.tdiv 256))
    simp only [go_sem, Nat.reduceAdd, Nat.reduceSub, Nat.reduceMul, Nat.reduceDiv, Nat.reduceMod, Nat.reducePow, Nat.reduceLeDiff, Nat.reduceLT, Nat.reduceEqDiff, Nat.reduceBEq, Nat.reduceBNe, Int.reduceAdd, Int.reduceSub, Int.reduceMul, Int.reducePow, Int.reduceLE, Int.reduceLT, Int.reduceEq, Int.reduceToNat, Int.reduceNeg, reduceCtorEq, Nat.add_zero, Nat.zero_add, beq_self_eq_true, Try.f124] at ih' ⊢
    rw [execT_loop]
    simp only [go_sem, Nat.reduceAdd, Nat.reduceSub, Nat.reduceMul, Nat.reduceDiv, Nat.reduceMod, Nat.reducePow, Nat.reduceLeDiff, Nat.reduceLT, Nat.reduceEqDiff, Nat.reduceBEq, Nat.reduceBNe, Int.reduceAdd, Int.reduceSub, Int.reduceMul, Int.reducePow, Int.reduceLE, Int.reduceLT, Int.reduceEq, Int.reduceToNat, Int.reduceNeg, reduceCtorEq, Nat.add_zero, Nat.zero_add, beq_self_eq_true, hd, hm, wrap_succ (show i < 2 ^ 63 - 1 by omega), eightL]
    have e1 : a ++ bO m :: eightL n (IntKind.u64.wrap (m.tdiv 256)) = a ++ [bO m] ++ eightL n (IntKind.u64.wrap (m.tdiv 256)) := by simp
    rw [e1]
    exact ih' _ _ _ _ _ _ _ _ _ _ _ _ _ (by omega) (by simp [ha])

@[go_sem] theorem eight_call (m : Int) (ro : Nat) (H : Heap) (nx : Nat) : callT env 124 [.int .u64 m] ro H nx = some (.ret (.str (eightL 8 m)), .ups []) := by
  refine call_pure (H' := []) rfl rfl rfl rfl ?_ rfl ro H nx
  obtain ⟨e, s, hx, rfl, j0, j1, j2, j4, j5, j6, j7, j8, j9, j10, j11, j12, j13, j14, j15, rfl⟩ := eight_loop [] 0 8 0 [] m _ _ _ _ _ _ _ _ _ _ _ _ _ (by omega) rfl
  simp only [go_sem, Nat.reduceAdd, Nat.reduceSub, Nat.reduceMul, Nat.reduceDiv, Nat.reduceMod, Nat.reducePow, Nat.reduceLeDiff, Nat.reduceLT, Nat.reduceEqDiff, Nat.reduceBEq, Nat.reduceBNe, Int.reduceAdd, Int.reduceSub, Int.reduceMul, Int.reducePow, Int.reduceLE, Int.reduceLT, Int.reduceEq, Int.reduceToNat, Int.reduceNeg, reduceCtorEq, Nat.add_zero, Nat.zero_add, beq_self_eq_true, Try.f124, Int.ofNat_zero, Int.natCast_zero] at hx
  rw [run_unfold fn124 rfl]
  simp only [go_sem, Nat.reduceAdd, Nat.reduceSub, Nat.reduceMul, Nat.reduceDiv, Nat.reduceMod, Nat.reducePow, Nat.reduceLeDiff, Nat.reduceLT, Nat.reduceEqDiff, Nat.reduceBEq, Nat.reduceBNe, Int.reduceAdd, Int.reduceSub, Int.reduceMul, Int.reducePow, Int.reduceLE, Int.reduceLT, Int.reduceEq, Int.reduceToNat, Int.reduceNeg, reduceCtorEq, Nat.add_zero, Nat.zero_add, beq_self_eq_true, Try.f124]
  rw [hx]
  simp only [go_sem, Nat.reduceAdd, Nat.reduceSub, Nat.reduceMul, Nat.reduceDiv, Nat.reduceMod, Nat.reducePow, Nat.reduceLeDiff, Nat.reduceLT, Nat.reduceEqDiff, Nat.reduceBEq, Nat.reduceBNe, Int.reduceAdd, Int.reduceSub, Int.reduceMul, Int.reducePow, Int.reduceLE, Int.reduceLT, Int.reduceEq, Int.reduceToNat, Int.reduceNeg, reduceCtorEq, Nat.add_zero, Nat.zero_add, beq_self_eq_true, unwind, modeEx, resultsOf, one]

def nodeB (a b : Int) : List UInt8 := [bO 1] ++ eightL 8 a ++ eightL 8 b

@[go_sem] theorem nodeBytes_call (a b : Int) (ro : Nat) (H : Heap) (nx : Nat) : callT env 88 [.int .u64 a, .int .u64 b] ro H nx = some (.ret (.str (nodeB a b)), .ups []) := by
  refine call_pure (H' := []) rfl rfl rfl rfl ?_ rfl ro H nx
  rw [run_unfold fn88 rfl]
  simp only [go_sem, Nat.reduceAdd, Nat.reduceSub, Nat.reduceMul, Nat.reduceDiv, Nat.reduceMod, Nat.reducePow, Nat.reduceLeDiff, Nat.reduceLT, Nat.reduceEqDiff, Nat.reduceBEq, Nat.reduceBNe, Int.reduceAdd, Int.reduceSub, Int.reduceMul, Int.reducePow, Int.reduceLE, Int.reduceLT, Int.reduceEq, Int.reduceToNat, Int.reduceNeg, reduceCtorEq, Nat.add_zero, Nat.zero_add, beq_self_eq_true, Try.f88, unwind, modeEx, resultsOf, one, eightL_length, List.length_append, maxBytes]
  rfl

def hashS (s : List UInt8) : Int := (sB s).foldl hstep h0

theorem hash_loop (l : List UInt8) (H : Heap) (ro : Nat) (hlen : l.length < 2 ^ 63) : ∀ (n i : Nat) (h : Int) (j1 j2 j5 j6 j7 j8 j9 j10 j11 j12 j13 j14 j15 j16 j17 j18 : AVal), i + n = l.length →
    Goes (execT env (Try.f87.at [1, 1, 0, 1, 0]) ⟨[.str l, j1, j2, .int .u64 h, .int .i64 i, j5, j6, j7, j8, j9, j10, j11, j12, j13, j14, j15, j16, j17, j18], H, [], ro, []⟩) fun e s => e = .exit 0 ∧
      ∃ j0 j1 j2 j4 j5 j6 j7 j8 j9 j10 j11 j12 j13 j14 j15 j16 j17 j18, s = ⟨[j0, j1, j2, .int .u64 ((sB (l.drop i)).foldl hstep h), j4, j5, j6, j7, j8, j9, j10, j11, j12, j13, j14, j15, j16, j17, j18], H, [], ro, []⟩ := by
  intro n
  induction n with
  | zero =>
    intro i h j1 j2 j5 j6 j7 j8 j9 j10 j11 j12 j13 j14 j15 j16 j17 j18 hi
    have hd : decide ((i : Int) < (l.length : Int)) = false := by simp; omega
    have hdr : l.drop i = [] := List.drop_eq_nil_of_le (by omega)
    simp only [go_sem, Nat.reduceAdd, Nat.reduceSub, Nat.reduceMul, Nat.reduceDiv, Nat.reduceMod, Nat.reducePow, Nat.reduceLeDiff, Nat.reduceLT, Nat.reduceEqDiff, Nat.reduceBEq, Nat.reduceBNe, Int.reduceAdd, Int.reduceSub, Int.reduceMul, Int.reducePow, Int.reduceLE, Int.reduceLT, Int.reduceEq, Int.reduceToNat, Int.reduceNeg, reduceCtorEq, Nat.add_zero, Nat.zero_add, beq_self_eq_true, Try.f87]
    rw [execT_loop]
    simp only [go_sem, Nat.reduceAdd, Nat.reduceSub, Nat.reduceMul, Nat.reduceDiv, Nat.reduceMod, Nat.reducePow, Nat.reduceLeDiff, Nat.reduceLT, Nat.reduceEqDiff, Nat.reduceBEq, Nat.reduceBNe, Int.reduceAdd, Int.reduceSub, Int.reduceMul, Int.reducePow, Int.reduceLE, Int.reduceLT, Int.reduceEq, Int.reduceToNat, Int.reduceNeg, reduceCtorEq, Nat.add_zero, Nat.zero_add, beq_self_eq_true, hd, hdr, sB, List.foldl_nil]
    exact ⟨_, _, _, _, _, _, _, _, _, _, _, _, _, _, _, _, _, _, rfl⟩
  | succ n ih =>
    intro i h j1 j2 j5 j6 j7 j8 j9 j10 j11 j12 j13 j14 j15 j16 j17 j18 hi
    have hd : decide ((i : Int) < (l.length : Int)) = true := by simp; omega
    have h0 : (0 : Int) ≤ (i : Int) := by omega
    obtain ⟨b, hb, hdr⟩ := get_drop (show i < l.length by omega)
    have hb' : l[(i : Int).toNat]? = some b := by simpa using hb
    have ih' := ih (i + 1) (hstep h b.toNat)
    simp only [go_sem, Nat.reduceAdd, Nat.reduceSub, Nat.reduceMul, Nat.reduceDiv, Nat.reduceMod, Nat.reducePow, Nat.reduceLeDiff, Nat.reduceLT, Nat.reduceEqDiff, Nat.reduceBEq, Nat.reduceBNe, Int.reduceAdd, Int.reduceSub, Int.reduceMul, Int.reducePow, Int.reduceLE, Int.reduceLT, Int.reduceEq, Int.reduceToNat, Int.reduceNeg, reduceCtorEq, Nat.add_zero, Nat.zero_add, beq_self_eq_true, Try.f87] at ih' ⊢
    rw [execT_loop, hdr]
    simp only [go_sem, Nat.reduceAdd, Nat.reduceSub, Nat.reduceMul, Nat.reduceDiv, Nat.reduceMod, Nat.reducePow, Nat.reduceLeDiff, Nat.reduceLT, Nat.reduceEqDiff, Nat.reduceBEq, Nat.reduceBNe, Int.reduceAdd, Int.reduceSub, Int.reduceMul, Int.reducePow, Int.reduceLE, Int.reduceLT, Int.reduceEq, Int.reduceToNat, Int.reduceNeg, reduceCtorEq, Nat.add_zero, Nat.zero_add, beq_self_eq_true, hd, h0, hb', wrap_succ (show i < 2 ^ 63 - 1 by omega), sB, List.foldl_cons, List.map_cons]
    exact ih' _ _ _ _ _ _ _ _ _ _ _ _ _ _ _ _ (by omega)

theorem hash_call (l : List UInt8) (hlen : l.length < 2 ^ 63) (ro : Nat) (H : Heap) (nx : Nat) : callT env 87 [.str l] ro H nx = some (.ret (.int .u64 (hashS l)), .ups []) := by
  refine call_pure (H' := []) rfl rfl rfl rfl ?_ rfl ro H nx
  obtain ⟨e, s, hx, rfl, j0, j1, j2, j4, j5, j6, j7, j8, j9, j10, j11, j12, j13, j14, j15, j16, j17, j18, rfl⟩ := hash_loop l [] 0 hlen l.length 0 h0 _ _ _ _ _ _ _ _ _ _ _ _ _ _ _ _ (by omega)
  simp only [go_sem, Nat.reduceAdd, Nat.reduceSub, Nat.reduceMul, Nat.reduceDiv, Nat.reduceMod, Nat.reducePow, Nat.reduceLeDiff, Nat.reduceLT, Nat.reduceEqDiff, Nat.reduceBEq, Nat.reduceBNe, Int.reduceAdd, Int.reduceSub, Int.reduceMul, Int.reducePow, Int.reduceLE, Int.reduceLT, Int.reduceEq, Int.reduceToNat, Int.reduceNeg, reduceCtorEq, Nat.add_zero, Nat.zero_add, beq_self_eq_true, Try.f87, List.drop_zero, Int.ofNat_zero, Int.natCast_zero, h0] at hx
  rw [run_unfold fn87 rfl]
  simp only [go_sem, Nat.reduceAdd, Nat.reduceSub, Nat.reduceMul, Nat.reduceDiv, Nat.reduceMod, Nat.reducePow, Nat.reduceLeDiff, Nat.reduceLT, Nat.reduceEqDiff, Nat.reduceBEq, Nat.reduceBNe, Int.reduceAdd, Int.reduceSub, Int.reduceMul, Int.reducePow, Int.reduceLE, Int.reduceLT, Int.reduceEq, Int.reduceToNat, Int.reduceNeg, reduceCtorEq, Nat.add_zero, Nat.zero_add, beq_self_eq_true, Try.f87]
  rw [hx]
  simp only [go_sem, Nat.reduceAdd, Nat.reduceSub, Nat.reduceMul, Nat.reduceDiv, Nat.reduceMod, Nat.reducePow, Nat.reduceLeDiff, Nat.reduceLT, Nat.reduceEqDiff, Nat.reduceBEq, Nat.reduceBNe, Int.reduceAdd, Int.reduceSub, Int.reduceMul, Int.reducePow, Int.reduceLE, Int.reduceLT, Int.reduceEq, Int.reduceToNat, Int.reduceNeg, reduceCtorEq, Nat.add_zero, Nat.zero_add, beq_self_eq_true, unwind, modeEx, resultsOf, one, hashS, h0]

@[go_sem] theorem hash_call0 (ro : Nat) (H : Heap) (nx : Nat) : callT env 87 [.str []] ro H nx = some (.ret (.int .u64 h0), .ups []) := hash_call [] (by simp) ro H nx

theorem nodeB_length (a b : Int) : (nodeB a b).length = 17 := by simp [nodeB, eightL_length]

theorem rnode_call (a b : Int) (ro : Nat) (H : Heap) (nx : Nat) : callT env 23 [.int .u64 a, .int .u64 b] ro H nx = some (.ret (.int .u64 (hashS (nodeB a b))), .ups []) := by
  refine call_pure (H' := []) rfl rfl rfl rfl ?_ rfl ro H nx
  have h1 : (nodeB a b).length < 2 ^ 63 := by rw [nodeB_length]; decide
  rw [run_unfold fn23 rfl]
  simp only [go_sem, Nat.reduceAdd, Nat.reduceSub, Nat.reduceMul, Nat.reduceDiv, Nat.reduceMod, Nat.reducePow, Nat.reduceLeDiff, Nat.reduceLT, Nat.reduceEqDiff, Nat.reduceBEq, Nat.reduceBNe, Int.reduceAdd, Int.reduceSub, Int.reduceMul, Int.reducePow, Int.reduceLE, Int.reduceLT, Int.reduceEq, Int.reduceToNat, Int.reduceNeg, reduceCtorEq, Nat.add_zero, Nat.zero_add, beq_self_eq_true, Try.f23, hash_call, h1, unwind, modeEx, resultsOf, one]

def leafB (e : Entry) : List UInt8 := [bO 0] ++ [bO (IntKind.u64.wrap e.office)] ++ [bO (IntKind.u64.wrap e.no)] ++ [bO (IntKind.u64.wrap e.body.length)] ++ [bO (IntKind.u64.wrap ((IntKind.u64.wrap e.body.length).tdiv 256))] ++ e.body

theorem leafBytes_call (e : Entry) (hb : e.body.length ≤ 2 ^ 44) (ro : Nat) (H : Heap) (nx : Nat) : callT env 55 [e.enc] ro H nx = some (.ret (.str (leafB e)), .ups []) := by
  have h1 : 5 + e.body.length ≤ maxBytes := by unfold maxBytes; omega
  have : ∃ H', runT env 55 [e.enc] [] 0 = some (.ret (.str (leafB e)), H') := by
    rw [run_unfold fn55 rfl]
    simp only [go_sem, Nat.reduceAdd, Nat.reduceSub, Nat.reduceMul, Nat.reduceDiv, Nat.reduceMod, Nat.reducePow, Nat.reduceLeDiff, Nat.reduceLT, Nat.reduceEqDiff, Nat.reduceBEq, Nat.reduceBNe, Int.reduceAdd, Int.reduceSub, Int.reduceMul, Int.reducePow, Int.reduceLE, Int.reduceLT, Int.reduceEq, Int.reduceToNat, Int.reduceNeg, reduceCtorEq, Nat.add_zero, Nat.zero_add, beq_self_eq_true, Try.f55, enc_lit, h1, unwind, modeEx, resultsOf, one, List.length_append, show ∀ n, n ≤ 5 → n ≤ maxBytes from fun n h => by unfold maxBytes; omega]
    exact ⟨_, rfl⟩
  obtain ⟨H', h⟩ := this
  exact call_pure rfl rfl rfl rfl h rfl ro H nx

theorem leafB_length (e : Entry) : (leafB e).length = 5 + e.body.length := by simp [leafB]; omega

theorem rleaf_call (e : Entry) (hb : e.body.length ≤ 2 ^ 44) (ro : Nat) (H : Heap) (nx : Nat) : callT env 80 [e.enc] ro H nx = some (.ret (.int .u64 (hashS (leafB e))), .ups []) := by
  have h1 : (leafB e).length < 2 ^ 63 := by rw [leafB_length]; omega
  have : ∃ H', runT env 80 [e.enc] [] 0 = some (.ret (.int .u64 (hashS (leafB e))), H') := by
    have hx := leafBytes_call e hb
    rw [enc_lit] at hx
    rw [run_unfold fn80 rfl]
    simp only [go_sem, Nat.reduceAdd, Nat.reduceSub, Nat.reduceMul, Nat.reduceDiv, Nat.reduceMod, Nat.reducePow, Nat.reduceLeDiff, Nat.reduceLT, Nat.reduceEqDiff, Nat.reduceBEq, Nat.reduceBNe, Int.reduceAdd, Int.reduceSub, Int.reduceMul, Int.reducePow, Int.reduceLE, Int.reduceLT, Int.reduceEq, Int.reduceToNat, Int.reduceNeg, reduceCtorEq, Nat.add_zero, Nat.zero_add, beq_self_eq_true, Try.f80, enc_lit, hx, h1, hash_call, unwind, modeEx, resultsOf, one]
    exact ⟨_, rfl⟩
  obtain ⟨H', h⟩ := this
  exact call_pure rfl rfl rfl rfl h rfl ro H nx

@[go_sem] theorem fold_enc (e : Entry) : AVal.agg [.int .i64 e.office, .int .i64 e.no, .str e.body] = e.enc := rfl
@[go_sem] theorem cellsOf_enc (e : Entry) : e.enc.cellsOf = [.int .i64 e.office, .int .i64 e.no, .str e.body] := rfl
@[go_sem] theorem isTuple_enc (e : Entry) : e.enc.isTuple = false := rfl
@[go_sem] theorem under_enc (e : Entry) (m : Nat) : e.enc.under m = true := rfl
@[go_sem] theorem refs_enc (e : Entry) : e.enc.refs = [] := rfl
end Go.Proofs.Ytamcncpgfhfheaa.Tidy

/-
  A disk in memory, and calls of its methods.
-/
namespace Go.Proofs.Ytamcncpgfhfheaa.Tidy
open Go Go.IntWalk
set_option maxRecDepth 10000
set_option linter.unusedSimpArgs false

abbrev Sec := List UInt8

structure DiskS where
  safe : List Sec
  now : List Sec
  wr : List (Nat × Sec)
  armed : Int
  down : Bool
  falls : Int

def cellsB (s : Sec) : List AVal := s.map fun b => .int .u8 b.toNat
def secV (s : Sec) : AVal := .agg (cellsB s)
def wrV (w : Nat × Sec) : AVal := .agg (.int .i64 w.1 :: cellsB w.2)

def diskB (d : DiskS) (sv nv wv : AVal) : Blk := .cells 0 6 false [.agg [sv, nv, wv, .int .i64 d.armed, .bool d.down, .int .i64 d.falls]]

/-- the disk at a block; F: the blocks that it reaches -/
def DiskAt (H : Heap) (p : Nat) (d : DiskS) (F : List Nat) : Prop := ∃ a ga b gb wv,
  H[p]? = some (diskB d (.ref a ga 0 d.safe.length false) (.ref b gb 0 d.now.length false) wv) ∧ H[a]? = some (.cells ga 64 true (d.safe.map secV)) ∧ H[b]? = some (.cells gb 64 true (d.now.map secV)) ∧
  ((d.wr = [] ∧ wv = .lit true 0 [] ∧ F = [p, a, b]) ∨ (d.wr ≠ [] ∧ ∃ c gc, wv = .ref c gc 0 d.wr.length false ∧ H[c]? = some (.cells gc 65 true (d.wr.map wrV)) ∧ F = [p, a, b, c])) ∧ F.Nodup

def canD (d : DiskS) (ga gb : Nat) : Heap := [diskB d (.ref 1 ga 0 d.safe.length false) (.ref 2 gb 0 d.now.length false) (.lit true 0 []), .cells ga 64 true (d.safe.map secV), .cells gb 64 true (d.now.map secV)]
def canW (d : DiskS) (ga gb gc : Nat) : Heap := [diskB d (.ref 1 ga 0 d.safe.length false) (.ref 2 gb 0 d.now.length false) (.ref 3 gc 0 d.wr.length false), .cells ga 64 true (d.safe.map secV), .cells gb 64 true (d.now.map secV), .cells gc 65 true (d.wr.map wrV)]

/-- a disk alone in memory -/
def IsCan (C : Heap) (d : DiskS) : Prop := (d.wr = [] ∧ ∃ ga gb, C = canD d ga gb) ∨ (d.wr ≠ [] ∧ ∃ ga gb gc, C = canW d ga gb gc)

theorem DiskAt.lt {H : Heap} {p : Nat} {d : DiskS} {F : List Nat} (h : DiskAt H p d F) : ∀ id ∈ F, id < H.length := by
  obtain ⟨a, ga, b, gb, wv, h1, h2, h3, h4, _⟩ := h
  have l : ∀ {i : Nat} {x : Blk}, H[i]? = some x → i < H.length := fun h => (List.getElem?_eq_some_iff.1 h).1
  rcases h4 with ⟨_, _, rfl⟩ | ⟨_, c, gc, _, h5, rfl⟩ <;> intro id hid <;> simp only [List.mem_cons, List.not_mem_nil, or_false] at hid
  · rcases hid with rfl | rfl | rfl
    · exact l h1
    · exact l h2
    · exact l h3
  · rcases hid with rfl | rfl | rfl | rfl
    · exact l h1
    · exact l h2
    · exact l h3
    · exact l h5

theorem DiskAt.nodup {H : Heap} {p : Nat} {d : DiskS} {F : List Nat} (h : DiskAt H p d F) : F.Nodup := by
  obtain ⟨_, _, _, _, _, _, _, _, _, h⟩ := h
  exact h

theorem DiskAt.mem {H : Heap} {p : Nat} {d : DiskS} {F : List Nat} (h : DiskAt H p d F) : p ∈ F := by
  obtain ⟨_, _, _, _, _, _, _, _, h4, _⟩ := h
  rcases h4 with ⟨_, _, rfl⟩ | ⟨_, _, _, _, _, rfl⟩ <;> simp

/-- what stays of the memory -/
structure Keeps (H U : Heap) (F F' : List Nat) : Prop where
  len : H.length ≤ U.length
  same : ∀ id, id < H.length → id ∉ F → U[id]? = H[id]?
  mem : ∀ id ∈ F', id ∈ F ∨ H.length ≤ id

theorem DiskAt.frame {H U : Heap} {p : Nat} {d : DiskS} {F : List Nat} (h : DiskAt H p d F) (hs : ∀ id ∈ F, U[id]? = H[id]?) : DiskAt U p d F := by
  obtain ⟨a, ga, b, gb, wv, h1, h2, h3, h4, h5⟩ := h
  rcases h4 with ⟨hw, hv, rfl⟩ | ⟨hw, c, gc, hv, hc, rfl⟩
  · exact ⟨a, ga, b, gb, wv, by rw [hs p (by simp)]; exact h1, by rw [hs a (by simp)]; exact h2, by rw [hs b (by simp)]; exact h3, .inl ⟨hw, hv, rfl⟩, h5⟩
  · exact ⟨a, ga, b, gb, wv, by rw [hs p (by simp)]; exact h1, by rw [hs a (by simp)]; exact h2, by rw [hs b (by simp)]; exact h3, .inr ⟨hw, c, gc, hv, by rw [hs c (by simp)]; exact hc, rfl⟩, h5⟩

theorem noRef_secs (l : List Sec) : underL 0 (l.map secV) = true := by
  induction l with
  | nil => rfl
  | cons s l ih =>
    have : underL 0 (cellsB s) = true := by
      induction s with
      | nil => rfl
      | cons b s ih => simpa [cellsB, underL, AVal.under] using ih
    simp [underL, secV, AVal.under, this, ih]

theorem disk_refs (d : DiskS) (a ga b gb : Nat) (wv : AVal) : refsL [.agg [.ref a ga 0 d.safe.length false, .ref b gb 0 d.now.length false, wv, .int .i64 d.armed, .bool d.down, .int .i64 d.falls]] = a :: b :: wv.refs := by
  simp [refsL, AVal.refs]

theorem DiskAt.reach {H : Heap} {p : Nat} {d : DiskS} {F : List Nat} (h : DiskAt H p d F) : Tidy.reach H fuel0 [p] [] = some F := by
  obtain ⟨a, ga, b, gb, wv, h1, h2, h3, h4, h5⟩ := h
  unfold fuel0
  rcases h4 with ⟨hw, rfl, rfl⟩ | ⟨hw, c, gc, rfl, hc, rfl⟩
  · simp only [List.nodup_cons, List.mem_cons, List.not_mem_nil, or_false, not_or] at h5
    have e1 : (a == p) = false := by simpa using Ne.symm h5.1.1
    have e2 : (b == p) = false := by simpa using Ne.symm h5.1.2
    have e3 : (b == a) = false := by simpa using Ne.symm h5.2.1
    simp [Tidy.reach, h1, diskB, refsL, AVal.refs, h2, h3, e1, e2, e3, Ne.symm h5.1.1, Ne.symm h5.1.2, Ne.symm h5.2.1]
  · simp only [List.nodup_cons, List.mem_cons, List.not_mem_nil, or_false, not_or] at h5
    simp [Tidy.reach, h1, diskB, refsL, AVal.refs, h2, h3, hc, Ne.symm h5.1.1, Ne.symm h5.1.2.1, Ne.symm h5.1.2.2, Ne.symm h5.2.1.1, Ne.symm h5.2.1.2, Ne.symm h5.2.2.1]

theorem DiskAt.looks {H : Heap} {p : Nat} {d : DiskS} {F : List Nat} (h : DiskAt H p d F) : Tidy.looks H fuel0 [p] [] = some F := by
  obtain ⟨a, ga, b, gb, wv, h1, h2, h3, h4, h5⟩ := h
  unfold fuel0
  rcases h4 with ⟨hw, rfl, rfl⟩ | ⟨hw, c, gc, rfl, hc, rfl⟩
  · simp only [List.nodup_cons, List.mem_cons, List.not_mem_nil, or_false, not_or] at h5
    simp [Tidy.looks, h1, diskB, refsL, AVal.refs, h2, h3, Ne.symm h5.1.1, Ne.symm h5.1.2, Ne.symm h5.2.1]
  · simp only [List.nodup_cons, List.mem_cons, List.not_mem_nil, or_false, not_or] at h5
    simp [Tidy.looks, h1, diskB, refsL, AVal.refs, h2, h3, hc, Ne.symm h5.1.1, Ne.symm h5.1.2.1, Ne.symm h5.1.2.2, Ne.symm h5.2.1.1, Ne.symm h5.2.1.2, Ne.symm h5.2.2.1]

/-- the memory of a callee that is handed a disk alone -/
theorem DiskAt.callee {H : Heap} {p : Nat} {d : DiskS} {F : List Nat} (h : DiskAt H p d F) : ∃ bs, getAll H F = some bs ∧ IsCan (bs.map (renB (idx F))) d ∧ (bs.map (renB (idx F))).length = F.length := by
  obtain ⟨a, ga, b, gb, wv, h1, h2, h3, h4, h5⟩ := h
  rcases h4 with ⟨hw, rfl, rfl⟩ | ⟨hw, c, gc, rfl, hc, rfl⟩
  · have i1 : idx [p, a, b] a = some 1 := idx_get h5 rfl
    have i2 : idx [p, a, b] b = some 2 := idx_get h5 rfl
    refine ⟨[diskB d (.ref a ga 0 d.safe.length false) (.ref b gb 0 d.now.length false) (.lit true 0 []), .cells ga 64 true (d.safe.map secV), .cells gb 64 true (d.now.map secV)], by simp only [getAll, h1, h2, h3], .inl ⟨hw, ga, gb, ?_⟩, rfl⟩
    simp only [List.map_cons, List.map_nil, diskB, renB, Bool.false_eq_true, if_false, if_true, renL, AVal.ren, i1, i2, canD]
  · have i1 : idx [p, a, b, c] a = some 1 := idx_get h5 rfl
    have i2 : idx [p, a, b, c] b = some 2 := idx_get h5 rfl
    have i3 : idx [p, a, b, c] c = some 3 := idx_get h5 rfl
    refine ⟨[diskB d (.ref a ga 0 d.safe.length false) (.ref b gb 0 d.now.length false) (.ref c gc 0 d.wr.length false), .cells ga 64 true (d.safe.map secV), .cells gb 64 true (d.now.map secV), .cells gc 65 true (d.wr.map wrV)], by simp only [getAll, h1, h2, h3, hc], .inr ⟨hw, ga, gb, gc, ?_⟩, rfl⟩
    simp only [List.map_cons, List.map_nil, diskB, renB, Bool.false_eq_true, if_false, if_true, renL, AVal.ren, i1, i2, i3, canW]

theorem IsCan.at {C : Heap} {d : DiskS} (h : IsCan C d) : ∃ F, DiskAt C 0 d F ∧ F.length = C.length := by
  rcases h with ⟨hw, ga, gb, rfl⟩ | ⟨hw, ga, gb, gc, rfl⟩
  · exact ⟨[0, 1, 2], ⟨1, ga, 2, gb, _, rfl, rfl, rfl, .inl ⟨hw, rfl, rfl⟩, by decide⟩, rfl⟩
  · exact ⟨[0, 1, 2, 3], ⟨1, ga, 2, gb, _, rfl, rfl, rfl, .inr ⟨hw, 3, gc, rfl, rfl, rfl⟩, by decide⟩, rfl⟩

/-- a disk as the callee leaves it, in the caller's memory -/
theorem DiskAt.back {H H' : Heap} {fp : List Nat} {q : Nat} {d : DiskS} {F' : List Nat} (hn : fp.Nodup) (hlt : ∀ id ∈ fp, id < H.length) (hk : fp.length ≤ H'.length) (h : DiskAt H' q d F') :
    DiskAt (putU H (objUps H.length fp H')) (placeB H.length fp q) d (F'.map (placeB H.length fp)) := by
  obtain ⟨_, k1, _⟩ := obj_after hn hlt hk
  have hl := h.lt
  have hq := h.mem
  obtain ⟨a, ga, b, gb, wv, h1, h2, h3, h4, h5⟩ := h
  have bk : ∀ j, j < H'.length → backO H.length fp H'.length j = some (placeB H.length fp j) := fun j hj => by unfold backO; rw [if_pos hj]
  have hnd := nodup_place (nx := H.length) hn hlt h5
  have ka := k1 _ _ h2
  have kb := k1 _ _ h3
  have kp := k1 _ _ h1
  rcases h4 with ⟨hw, rfl, rfl⟩ | ⟨hw, c, gc, rfl, hc, rfl⟩
  · have la := bk a (hl a (by simp))
    have lb := bk b (hl b (by simp))
    refine ⟨placeB H.length fp a, ga, placeB H.length fp b, gb, .lit true 0 [], ?_, ka, kb, .inl ⟨hw, rfl, rfl⟩, hnd⟩
    rw [kp]
    simp only [diskB, renB, Bool.false_eq_true, if_false, renL, AVal.ren, la, lb]
  · have la := bk a (hl a (by simp))
    have lb := bk b (hl b (by simp))
    have lc := bk c (hl c (by simp))
    refine ⟨placeB H.length fp a, ga, placeB H.length fp b, gb, .ref (placeB H.length fp c) gc 0 d.wr.length false, ?_, ka, kb, .inr ⟨hw, placeB H.length fp c, gc, rfl, k1 _ _ hc, rfl⟩, hnd⟩
    rw [kp]
    simp only [diskB, renB, Bool.false_eq_true, if_false, renL, AVal.ren, la, lb, lc]

/-- what a method does, from what it does on a disk alone -/
theorem disk_obj {f : Nat} {args : List AVal} {v : AVal} {d d' : DiskS} (hw : (env.hint f).whole = false) (hka : (env.hint f).keepAll = true) (hr0 : (env.hint f).ro = false) (hl : (env.hint f).lits = []) (ha : underL 0 args = true) (hv : noRef v = true)
    (hrun : ∀ C, IsCan C d → ∃ H' F', runT env f (.ptr 0 0 0 0 :: args) C 0 = some (.ret v, H') ∧ DiskAt H' 0 d' F' ∧ C.length ≤ H'.length)
    {H : Heap} {p : Nat} {F : List Nat} (h : DiskAt H p d F) : ∃ us F', callT env f (.ptr p 0 0 0 :: args) 0 H H.length = some (.ret v, .ups us) ∧ DiskAt (putU H us) p d' F' ∧ Keeps H (putU H us) F F' ∧ consec H.length H.length us = true ∧ ∃ m, us.map (·.1) = F ++ List.range' H.length m := by
  obtain ⟨bs, hb, hcan, hlen⟩ := h.callee
  obtain ⟨H', F', hr, hd, hcl⟩ := hrun _ hcan
  have hn := h.nodup
  have hlt := h.lt
  rw [hlen] at hcl
  have hp0 : idx F p = some 0 := by
    obtain ⟨_, _, _, _, _, _, _, _, h4, _⟩ := h
    rcases h4 with ⟨_, _, rfl⟩ | ⟨_, _, _, _, _, rfl⟩ <;> exact idx_get hn rfl
  have hreach : reach H fuel0 (refsL (.ptr p 0 0 0 :: args)) [] = some F := by
    simp only [refsL, AVal.refs, refs_noRef.2 args ha, List.append_nil]
    exact h.reach
  have hargs : renL (idx F) (.ptr p 0 0 0 :: args) = .ptr 0 0 0 0 :: args := by
    simp only [renL, AVal.ren, hp0, (ren_noRef _).2 args ha]
  have hc := call_obj (E := env) (ro := 0) (nx := H.length) hw hka hr0 hl hreach hb (fun _ _ => Nat.zero_le _) (by rw [hargs]; exact hr) hcl hv
  obtain ⟨k0, _, k2⟩ := obj_after hn hlt hcl
  have hback := hd.back hn hlt hcl
  have hp : placeB H.length F 0 = p := by
    obtain ⟨_, _, _, _, _, _, _, _, h4, _⟩ := h
    rcases h4 with ⟨_, _, rfl⟩ | ⟨_, _, _, _, _, rfl⟩ <;> rfl
  rw [hp] at hback
  refine ⟨_, _, hc, hback, ⟨by rw [k0]; omega, k2, fun id hid => ?_⟩, obj_consec hlt, _, obj_writes hcl⟩
  obtain ⟨j, _, rfl⟩ := List.mem_map.1 hid
  exact place_mem j

/-- what a method that only looks tells -/
theorem disk_look {f : Nat} {args : List AVal} {v : AVal} {d : DiskS} (hw : (env.hint f).whole = false) (hka : (env.hint f).keepAll = false) (hk : (env.hint f).keep = []) (hr0 : (env.hint f).ro = true) (hl : (env.hint f).lits = []) (ha : underL 0 args = true) (hv : noRef v = true)
    (hrun : ∀ C, IsCan C d → ∃ H', runT env f (.ptr 0 0 0 0 :: args) C C.length = some (.ret v, H'))
    {H : Heap} {p : Nat} {F : List Nat} (h : DiskAt H p d F) (ro nx : Nat) : callT env f (.ptr p 0 0 0 :: args) ro H nx = some (.ret v, .ups []) := by
  obtain ⟨bs, hb, hcan, hlen⟩ := h.callee
  obtain ⟨H', hr⟩ := hrun _ hcan
  have hn := h.nodup
  rw [hlen] at hr
  have hp0 : idx F p = some 0 := by
    obtain ⟨_, _, _, _, _, _, _, _, h4, _⟩ := h
    rcases h4 with ⟨_, _, rfl⟩ | ⟨_, _, _, _, _, rfl⟩ <;> exact idx_get hn rfl
  have hreach : reach H fuel0 (refsL (.ptr p 0 0 0 :: args)) [] = some F := by
    simp only [refsL, AVal.refs, refs_noRef.2 args ha, List.append_nil]
    exact h.reach
  have hargs : renL (idx F) (.ptr p 0 0 0 :: args) = .ptr 0 0 0 0 :: args := by
    simp only [renL, AVal.ren, hp0, (ren_noRef _).2 args ha]
  exact call_look (E := env) hw hka hk hr0 hl hreach hb (by rw [hargs]; exact hr) hv
end Go.Proofs.Ytamcncpgfhfheaa.Tidy

/-
  A disk: the methods of the program, first part.
-/
namespace Go.Proofs.Ytamcncpgfhfheaa.Tidy
open Go Go.IntWalk
set_option maxRecDepth 10000
set_option linter.unusedSimpArgs false

theorem put_can {C H' : Heap} {d d' : DiskS} (h : IsCan C d) (h' : IsCan H' d') (hl : C.length ≤ H'.length) : putU C (objUps C.length (List.range C.length) H') = H' := by
  rcases h with ⟨hw, ga, gb, rfl⟩ | ⟨hw, ga, gb, gc, rfl⟩ <;> rcases h' with ⟨hw', ga', gb', rfl⟩ | ⟨hw', ga', gb', gc', rfl⟩
  · simp [objUps, canD, diskB, renB, renL, AVal.ren, backO, placeB, putU, numbered, List.range_succ]
  · simp [objUps, canD, canW, diskB, renB, renL, AVal.ren, backO, placeB, putU, numbered, List.range_succ]
  · simp [canD, canW] at hl
  · simp [objUps, canW, diskB, renB, renL, AVal.ren, backO, placeB, putU, numbered, List.range_succ]

theorem can_reach {C : Heap} {d : DiskS} (h : IsCan C d) : DiskAt C 0 d (List.range C.length) := by
  rcases h with ⟨hw, ga, gb, rfl⟩ | ⟨hw, ga, gb, gc, rfl⟩
  · exact ⟨1, ga, 2, gb, _, rfl, rfl, rfl, .inl ⟨hw, rfl, rfl⟩, List.nodup_range⟩
  · exact ⟨1, ga, 2, gb, _, rfl, rfl, rfl, .inr ⟨hw, 3, gc, rfl, rfl, rfl⟩, List.nodup_range⟩

theorem can_self {C : Heap} {d : DiskS} (h : IsCan C d) : ∃ bs, getAll C (List.range C.length) = some bs ∧ bs.map (renB (idx (List.range C.length))) = C := by
  rcases h with ⟨hw, ga, gb, rfl⟩ | ⟨hw, ga, gb, gc, rfl⟩
  · exact ⟨canD d ga gb, rfl, rfl⟩
  · exact ⟨canW d ga gb gc, rfl, rfl⟩

/-- a method, on a disk alone -/
theorem can_obj {f : Nat} {args : List AVal} {v : AVal} {d d' : DiskS} (hw : (env.hint f).whole = false) (hka : (env.hint f).keepAll = true) (hr0 : (env.hint f).ro = false) (hl : (env.hint f).lits = []) (ha : underL 0 args = true) (hv : noRef v = true) {C : Heap} (h : IsCan C d)
    (hrun : ∃ H', runT env f (.ptr 0 0 0 0 :: args) C 0 = some (.ret v, H') ∧ IsCan H' d' ∧ C.length ≤ H'.length) :
    ∃ us H', callT env f (.ptr 0 0 0 0 :: args) 0 C C.length = some (.ret v, .ups us) ∧ putU C us = H' ∧ IsCan H' d' ∧ C.length ≤ H'.length := by
  obtain ⟨H', hr, hd, hcl⟩ := hrun
  obtain ⟨bs, hb, hself⟩ := can_self h
  have hat := can_reach h
  have hpos : 0 < C.length := hat.lt 0 hat.mem
  have hp0 : idx (List.range C.length) 0 = some 0 := idx_get hat.nodup (by rw [List.getElem?_range hpos])
  have hreach : reach C fuel0 (refsL (.ptr 0 0 0 0 :: args)) [] = some (List.range C.length) := by
    simp only [refsL, AVal.refs, refs_noRef.2 args ha, List.append_nil]
    exact hat.reach
  have hargs : renL (idx (List.range C.length)) (.ptr 0 0 0 0 :: args) = .ptr 0 0 0 0 :: args := by
    simp only [renL, AVal.ren, hp0, (ren_noRef _).2 args ha]
  have hc := call_obj (E := env) (ro := 0) (nx := C.length) hw hka hr0 hl hreach hb (fun _ _ => Nat.zero_le _) (by rw [hargs, hself]; exact hr) (by simpa using hcl) hv
  exact ⟨_, H', hc, put_can h hd hcl, hd, hcl⟩

theorem can_look {f : Nat} {args : List AVal} {v : AVal} {d : DiskS} (hw : (env.hint f).whole = false) (hka : (env.hint f).keepAll = false) (hk : (env.hint f).keep = []) (hr0 : (env.hint f).ro = true) (hl : (env.hint f).lits = []) (ha : underL 0 args = true) (hv : noRef v = true)
    (hrun : ∀ C, IsCan C d → ∃ H', runT env f (.ptr 0 0 0 0 :: args) C C.length = some (.ret v, H')) {C : Heap} (h : IsCan C d) (ro nx : Nat) : callT env f (.ptr 0 0 0 0 :: args) ro C nx = some (.ret v, .ups []) :=
  disk_look hw hka hk hr0 hl ha hv hrun (can_reach h) ro nx

def offD (d : DiskS) : DiskS := { d with down := true, falls := IntKind.i64.wrap (d.falls + 1) }

theorem off_can {C : Heap} {d : DiskS} (h : IsCan C d) : ∃ H', runT env 102 [.ptr 0 0 0 0] C 0 = some (.ret (.tuple []), H') ∧ IsCan H' (offD d) ∧ C.length ≤ H'.length := by
  rw [run_unfold fn102 rfl]
  rcases h with ⟨hw, ga, gb, rfl⟩ | ⟨hw, ga, gb, gc, rfl⟩
  · simp only [go_sem, Nat.reduceAdd, Nat.reduceSub, Nat.reduceMul, Nat.reduceDiv, Nat.reduceMod, Nat.reducePow, Nat.reduceLeDiff, Nat.reduceLT, Nat.reduceEqDiff, Nat.reduceBEq, Nat.reduceBNe, Int.reduceAdd, Int.reduceSub, Int.reduceMul, Int.reducePow, Int.reduceLE, Int.reduceLT, Int.reduceEq, Int.reduceToNat, Int.reduceNeg, reduceCtorEq, Nat.add_zero, Nat.zero_add, beq_self_eq_true, Try.f102, canD, diskB, unwind, modeEx, resultsOf, one]
    exact ⟨_, rfl, .inl ⟨hw, ga, gb, rfl⟩, Nat.le_refl _⟩
  · simp only [go_sem, Nat.reduceAdd, Nat.reduceSub, Nat.reduceMul, Nat.reduceDiv, Nat.reduceMod, Nat.reducePow, Nat.reduceLeDiff, Nat.reduceLT, Nat.reduceEqDiff, Nat.reduceBEq, Nat.reduceBNe, Int.reduceAdd, Int.reduceSub, Int.reduceMul, Int.reducePow, Int.reduceLE, Int.reduceLT, Int.reduceEq, Int.reduceToNat, Int.reduceNeg, reduceCtorEq, Nat.add_zero, Nat.zero_add, beq_self_eq_true, Try.f102, canW, diskB, unwind, modeEx, resultsOf, one]
    exact ⟨_, rfl, .inr ⟨hw, ga, gb, gc, rfl⟩, Nat.le_refl _⟩

def failsD (d : DiskS) : DiskS × Bool :=
  if d.armed = 0 then (d, false) else
    if 0 < IntKind.i64.wrap (d.armed - 1) then ({ d with armed := IntKind.i64.wrap (d.armed - 1) }, false) else (offD { d with armed := IntKind.i64.wrap (d.armed - 1) }, true)

theorem fails_can {C : Heap} {d : DiskS} (h : IsCan C d) : ∃ H', runT env 99 [.ptr 0 0 0 0] C 0 = some (.ret (.bool (failsD d).2), H') ∧ IsCan H' (failsD d).1 ∧ C.length ≤ H'.length := by
  rw [run_unfold fn99 rfl]
  unfold failsD
  cases h0 : decide (d.armed = 0) with
  | true =>
    rw [if_pos (by simpa using h0)]
    rcases h with ⟨hw, ga, gb, rfl⟩ | ⟨hw, ga, gb, gc, rfl⟩
    · simp only [go_sem, Nat.reduceAdd, Nat.reduceSub, Nat.reduceMul, Nat.reduceDiv, Nat.reduceMod, Nat.reducePow, Nat.reduceLeDiff, Nat.reduceLT, Nat.reduceEqDiff, Nat.reduceBEq, Nat.reduceBNe, Int.reduceAdd, Int.reduceSub, Int.reduceMul, Int.reducePow, Int.reduceLE, Int.reduceLT, Int.reduceEq, Int.reduceToNat, Int.reduceNeg, reduceCtorEq, Nat.add_zero, Nat.zero_add, beq_self_eq_true, Try.f99, canD, diskB, h0, unwind, modeEx, resultsOf, one]
      exact ⟨_, rfl, .inl ⟨hw, ga, gb, rfl⟩, Nat.le_refl _⟩
    · simp only [go_sem, Nat.reduceAdd, Nat.reduceSub, Nat.reduceMul, Nat.reduceDiv, Nat.reduceMod, Nat.reducePow, Nat.reduceLeDiff, Nat.reduceLT, Nat.reduceEqDiff, Nat.reduceBEq, Nat.reduceBNe, Int.reduceAdd, Int.reduceSub, Int.reduceMul, Int.reducePow, Int.reduceLE, Int.reduceLT, Int.reduceEq, Int.reduceToNat, Int.reduceNeg, reduceCtorEq, Nat.add_zero, Nat.zero_add, beq_self_eq_true, Try.f99, canW, diskB, h0, unwind, modeEx, resultsOf, one]
      exact ⟨_, rfl, .inr ⟨hw, ga, gb, gc, rfl⟩, Nat.le_refl _⟩
  | false =>
    rw [if_neg (by simpa using h0)]
    cases h1 : decide (0 < IntKind.i64.wrap (d.armed - 1)) with
    | true =>
      rw [if_pos (by simpa using h1)]
      rcases h with ⟨hw, ga, gb, rfl⟩ | ⟨hw, ga, gb, gc, rfl⟩
      · simp only [go_sem, Nat.reduceAdd, Nat.reduceSub, Nat.reduceMul, Nat.reduceDiv, Nat.reduceMod, Nat.reducePow, Nat.reduceLeDiff, Nat.reduceLT, Nat.reduceEqDiff, Nat.reduceBEq, Nat.reduceBNe, Int.reduceAdd, Int.reduceSub, Int.reduceMul, Int.reducePow, Int.reduceLE, Int.reduceLT, Int.reduceEq, Int.reduceToNat, Int.reduceNeg, reduceCtorEq, Nat.add_zero, Nat.zero_add, beq_self_eq_true, Try.f99, canD, diskB, h0, h1, unwind, modeEx, resultsOf, one]
        exact ⟨_, rfl, .inl ⟨hw, ga, gb, rfl⟩, Nat.le_refl _⟩
      · simp only [go_sem, Nat.reduceAdd, Nat.reduceSub, Nat.reduceMul, Nat.reduceDiv, Nat.reduceMod, Nat.reducePow, Nat.reduceLeDiff, Nat.reduceLT, Nat.reduceEqDiff, Nat.reduceBEq, Nat.reduceBNe, Int.reduceAdd, Int.reduceSub, Int.reduceMul, Int.reducePow, Int.reduceLE, Int.reduceLT, Int.reduceEq, Int.reduceToNat, Int.reduceNeg, reduceCtorEq, Nat.add_zero, Nat.zero_add, beq_self_eq_true, Try.f99, canW, diskB, h0, h1, unwind, modeEx, resultsOf, one]
        exact ⟨_, rfl, .inr ⟨hw, ga, gb, gc, rfl⟩, Nat.le_refl _⟩
    | false =>
      rw [if_neg (by simpa using h1)]
      rcases h with ⟨hw, ga, gb, rfl⟩ | ⟨hw, ga, gb, gc, rfl⟩
      · have hC : IsCan (canD { d with armed := IntKind.i64.wrap (d.armed - 1) } ga gb) { d with armed := IntKind.i64.wrap (d.armed - 1) } := .inl ⟨hw, ga, gb, rfl⟩
        obtain ⟨us, H', hc, hp, hd, hl⟩ := can_obj (f := 102) (args := []) rfl rfl rfl rfl rfl rfl hC (off_can hC)
        simp only [canD, diskB, List.length_cons, List.length_nil, Nat.reduceAdd] at hc hp
        simp only [go_sem, Nat.reduceAdd, Nat.reduceSub, Nat.reduceMul, Nat.reduceDiv, Nat.reduceMod, Nat.reducePow, Nat.reduceLeDiff, Nat.reduceLT, Nat.reduceEqDiff, Nat.reduceBEq, Nat.reduceBNe, Int.reduceAdd, Int.reduceSub, Int.reduceMul, Int.reducePow, Int.reduceLE, Int.reduceLT, Int.reduceEq, Int.reduceToNat, Int.reduceNeg, reduceCtorEq, Nat.add_zero, Nat.zero_add, beq_self_eq_true, Try.f99, canD, diskB, h0, h1, hc, hp, unwind, modeEx, resultsOf, one]
        exact ⟨_, rfl, hd, hl⟩
      · have hC : IsCan (canW { d with armed := IntKind.i64.wrap (d.armed - 1) } ga gb gc) { d with armed := IntKind.i64.wrap (d.armed - 1) } := .inr ⟨hw, ga, gb, gc, rfl⟩
        obtain ⟨us, H', hc, hp, hd, hl⟩ := can_obj (f := 102) (args := []) rfl rfl rfl rfl rfl rfl hC (off_can hC)
        simp only [canW, diskB, List.length_cons, List.length_nil, Nat.reduceAdd] at hc hp
        simp only [go_sem, Nat.reduceAdd, Nat.reduceSub, Nat.reduceMul, Nat.reduceDiv, Nat.reduceMod, Nat.reducePow, Nat.reduceLeDiff, Nat.reduceLT, Nat.reduceEqDiff, Nat.reduceBEq, Nat.reduceBNe, Int.reduceAdd, Int.reduceSub, Int.reduceMul, Int.reducePow, Int.reduceLE, Int.reduceLT, Int.reduceEq, Int.reduceToNat, Int.reduceNeg, reduceCtorEq, Nat.add_zero, Nat.zero_add, beq_self_eq_true, Try.f99, canW, diskB, h0, h1, hc, hp, unwind, modeEx, resultsOf, one]
        exact ⟨_, rfl, hd, hl⟩

theorem arm_can {C : Heap} {d : DiskS} (h : IsCan C d) (n : Int) : ∃ H', runT env 42 [.ptr 0 0 0 0, .int .i64 n] C 0 = some (.ret (.tuple []), H') ∧ IsCan H' { d with armed := if n < 0 then 0 else n } ∧ C.length ≤ H'.length := by
  rw [run_unfold fn42 rfl]
  by_cases hn : n < 0
  · rcases h with ⟨hw, ga, gb, rfl⟩ | ⟨hw, ga, gb, gc, rfl⟩
    · simp only [go_sem, Nat.reduceAdd, Nat.reduceSub, Nat.reduceMul, Nat.reduceDiv, Nat.reduceMod, Nat.reducePow, Nat.reduceLeDiff, Nat.reduceLT, Nat.reduceEqDiff, Nat.reduceBEq, Nat.reduceBNe, Int.reduceAdd, Int.reduceSub, Int.reduceMul, Int.reducePow, Int.reduceLE, Int.reduceLT, Int.reduceEq, Int.reduceToNat, Int.reduceNeg, reduceCtorEq, Nat.add_zero, Nat.zero_add, beq_self_eq_true, Try.f42, canD, diskB, maxL, gt_iff_lt, show (0 : Int) > n from hn, hn, unwind, modeEx, resultsOf, one]
      exact ⟨_, rfl, .inl ⟨hw, ga, gb, rfl⟩, Nat.le_refl _⟩
    · simp only [go_sem, Nat.reduceAdd, Nat.reduceSub, Nat.reduceMul, Nat.reduceDiv, Nat.reduceMod, Nat.reducePow, Nat.reduceLeDiff, Nat.reduceLT, Nat.reduceEqDiff, Nat.reduceBEq, Nat.reduceBNe, Int.reduceAdd, Int.reduceSub, Int.reduceMul, Int.reducePow, Int.reduceLE, Int.reduceLT, Int.reduceEq, Int.reduceToNat, Int.reduceNeg, reduceCtorEq, Nat.add_zero, Nat.zero_add, beq_self_eq_true, Try.f42, canW, diskB, maxL, gt_iff_lt, show (0 : Int) > n from hn, hn, unwind, modeEx, resultsOf, one]
      exact ⟨_, rfl, .inr ⟨hw, ga, gb, gc, rfl⟩, Nat.le_refl _⟩
  · rcases h with ⟨hw, ga, gb, rfl⟩ | ⟨hw, ga, gb, gc, rfl⟩
    · simp only [go_sem, Nat.reduceAdd, Nat.reduceSub, Nat.reduceMul, Nat.reduceDiv, Nat.reduceMod, Nat.reducePow, Nat.reduceLeDiff, Nat.reduceLT, Nat.reduceEqDiff, Nat.reduceBEq, Nat.reduceBNe, Int.reduceAdd, Int.reduceSub, Int.reduceMul, Int.reducePow, Int.reduceLE, Int.reduceLT, Int.reduceEq, Int.reduceToNat, Int.reduceNeg, reduceCtorEq, Nat.add_zero, Nat.zero_add, beq_self_eq_true, Try.f42, canD, diskB, maxL, gt_iff_lt, hn, unwind, modeEx, resultsOf, one]
      exact ⟨_, rfl, .inl ⟨hw, ga, gb, rfl⟩, Nat.le_refl _⟩
    · simp only [go_sem, Nat.reduceAdd, Nat.reduceSub, Nat.reduceMul, Nat.reduceDiv, Nat.reduceMod, Nat.reducePow, Nat.reduceLeDiff, Nat.reduceLT, Nat.reduceEqDiff, Nat.reduceBEq, Nat.reduceBNe, Int.reduceAdd, Int.reduceSub, Int.reduceMul, Int.reducePow, Int.reduceLE, Int.reduceLT, Int.reduceEq, Int.reduceToNat, Int.reduceNeg, reduceCtorEq, Nat.add_zero, Nat.zero_add, beq_self_eq_true, Try.f42, canW, diskB, maxL, gt_iff_lt, hn, unwind, modeEx, resultsOf, one]
      exact ⟨_, rfl, .inr ⟨hw, ga, gb, gc, rfl⟩, Nat.le_refl _⟩

theorem up_can (d : DiskS) : ∀ C, IsCan C d → ∃ H', runT env 46 [.ptr 0 0 0 0] C C.length = some (.ret (.bool !d.down), H') := by
  intro C h
  rw [run_unfold fn46 rfl]
  rcases h with ⟨hw, ga, gb, rfl⟩ | ⟨hw, ga, gb, gc, rfl⟩
  · simp only [go_sem, Nat.reduceAdd, Nat.reduceSub, Nat.reduceMul, Nat.reduceDiv, Nat.reduceMod, Nat.reducePow, Nat.reduceLeDiff, Nat.reduceLT, Nat.reduceEqDiff, Nat.reduceBEq, Nat.reduceBNe, Int.reduceAdd, Int.reduceSub, Int.reduceMul, Int.reducePow, Int.reduceLE, Int.reduceLT, Int.reduceEq, Int.reduceToNat, Int.reduceNeg, reduceCtorEq, Nat.add_zero, Nat.zero_add, beq_self_eq_true, Try.f46, canD, diskB, unwind, modeEx, resultsOf, one]
    exact ⟨_, rfl⟩
  · simp only [go_sem, Nat.reduceAdd, Nat.reduceSub, Nat.reduceMul, Nat.reduceDiv, Nat.reduceMod, Nat.reducePow, Nat.reduceLeDiff, Nat.reduceLT, Nat.reduceEqDiff, Nat.reduceBEq, Nat.reduceBNe, Int.reduceAdd, Int.reduceSub, Int.reduceMul, Int.reducePow, Int.reduceLE, Int.reduceLT, Int.reduceEq, Int.reduceToNat, Int.reduceNeg, reduceCtorEq, Nat.add_zero, Nat.zero_add, beq_self_eq_true, Try.f46, canW, diskB, unwind, modeEx, resultsOf, one]
    exact ⟨_, rfl⟩

theorem sectors_can (d : DiskS) : ∀ C, IsCan C d → ∃ H', runT env 48 [.ptr 0 0 0 0] C C.length = some (.ret (.int .i64 d.now.length), H') := by
  intro C h
  rw [run_unfold fn48 rfl]
  rcases h with ⟨hw, ga, gb, rfl⟩ | ⟨hw, ga, gb, gc, rfl⟩
  · simp only [go_sem, Nat.reduceAdd, Nat.reduceSub, Nat.reduceMul, Nat.reduceDiv, Nat.reduceMod, Nat.reducePow, Nat.reduceLeDiff, Nat.reduceLT, Nat.reduceEqDiff, Nat.reduceBEq, Nat.reduceBNe, Int.reduceAdd, Int.reduceSub, Int.reduceMul, Int.reducePow, Int.reduceLE, Int.reduceLT, Int.reduceEq, Int.reduceToNat, Int.reduceNeg, reduceCtorEq, Nat.add_zero, Nat.zero_add, beq_self_eq_true, Try.f48, canD, diskB, unwind, modeEx, resultsOf, one]
    exact ⟨_, rfl⟩
  · simp only [go_sem, Nat.reduceAdd, Nat.reduceSub, Nat.reduceMul, Nat.reduceDiv, Nat.reduceMod, Nat.reducePow, Nat.reduceLeDiff, Nat.reduceLT, Nat.reduceEqDiff, Nat.reduceBEq, Nat.reduceBNe, Int.reduceAdd, Int.reduceSub, Int.reduceMul, Int.reducePow, Int.reduceLE, Int.reduceLT, Int.reduceEq, Int.reduceToNat, Int.reduceNeg, reduceCtorEq, Nat.add_zero, Nat.zero_add, beq_self_eq_true, Try.f48, canW, diskB, unwind, modeEx, resultsOf, one]
    exact ⟨_, rfl⟩

def checkD (d : DiskS) (pos : Int) : Int := if d.down then 91 else if pos < 0 ∨ (d.now.length : Int) ≤ pos then 1 else 0

theorem check_can (d : DiskS) (pos : Int) : ∀ C, IsCan C d → ∃ H', runT env 98 [.ptr 0 0 0 0, .int .i64 pos] C C.length = some (.ret (.int .i64 (checkD d pos)), H') := by
  intro C h
  rw [run_unfold fn98 rfl]
  unfold checkD
  cases h0 : d.down with
  | true =>
    rcases h with ⟨hw, ga, gb, rfl⟩ | ⟨hw, ga, gb, gc, rfl⟩
    · simp only [go_sem, Nat.reduceAdd, Nat.reduceSub, Nat.reduceMul, Nat.reduceDiv, Nat.reduceMod, Nat.reducePow, Nat.reduceLeDiff, Nat.reduceLT, Nat.reduceEqDiff, Nat.reduceBEq, Nat.reduceBNe, Int.reduceAdd, Int.reduceSub, Int.reduceMul, Int.reducePow, Int.reduceLE, Int.reduceLT, Int.reduceEq, Int.reduceToNat, Int.reduceNeg, reduceCtorEq, Nat.add_zero, Nat.zero_add, beq_self_eq_true, Try.f98, canD, diskB, h0, unwind, modeEx, resultsOf, one]
      exact ⟨_, rfl⟩
    · simp only [go_sem, Nat.reduceAdd, Nat.reduceSub, Nat.reduceMul, Nat.reduceDiv, Nat.reduceMod, Nat.reducePow, Nat.reduceLeDiff, Nat.reduceLT, Nat.reduceEqDiff, Nat.reduceBEq, Nat.reduceBNe, Int.reduceAdd, Int.reduceSub, Int.reduceMul, Int.reducePow, Int.reduceLE, Int.reduceLT, Int.reduceEq, Int.reduceToNat, Int.reduceNeg, reduceCtorEq, Nat.add_zero, Nat.zero_add, beq_self_eq_true, Try.f98, canW, diskB, h0, unwind, modeEx, resultsOf, one]
      exact ⟨_, rfl⟩
  | false =>
    simp only [Bool.false_eq_true, if_false]
    cases h1 : decide (pos < 0) with
    | true =>
      rw [if_pos (.inl (by simpa using h1))]
      rcases h with ⟨hw, ga, gb, rfl⟩ | ⟨hw, ga, gb, gc, rfl⟩
      · simp only [go_sem, Nat.reduceAdd, Nat.reduceSub, Nat.reduceMul, Nat.reduceDiv, Nat.reduceMod, Nat.reducePow, Nat.reduceLeDiff, Nat.reduceLT, Nat.reduceEqDiff, Nat.reduceBEq, Nat.reduceBNe, Int.reduceAdd, Int.reduceSub, Int.reduceMul, Int.reducePow, Int.reduceLE, Int.reduceLT, Int.reduceEq, Int.reduceToNat, Int.reduceNeg, reduceCtorEq, Nat.add_zero, Nat.zero_add, beq_self_eq_true, Try.f98, canD, diskB, h0, h1, unwind, modeEx, resultsOf, one]
        exact ⟨_, rfl⟩
      · simp only [go_sem, Nat.reduceAdd, Nat.reduceSub, Nat.reduceMul, Nat.reduceDiv, Nat.reduceMod, Nat.reducePow, Nat.reduceLeDiff, Nat.reduceLT, Nat.reduceEqDiff, Nat.reduceBEq, Nat.reduceBNe, Int.reduceAdd, Int.reduceSub, Int.reduceMul, Int.reducePow, Int.reduceLE, Int.reduceLT, Int.reduceEq, Int.reduceToNat, Int.reduceNeg, reduceCtorEq, Nat.add_zero, Nat.zero_add, beq_self_eq_true, Try.f98, canW, diskB, h0, h1, unwind, modeEx, resultsOf, one]
        exact ⟨_, rfl⟩
    | false =>
      cases h2 : decide ((d.now.length : Int) ≤ pos) with
      | true =>
        rw [if_pos (.inr (by simpa using h2))]
        rcases h with ⟨hw, ga, gb, rfl⟩ | ⟨hw, ga, gb, gc, rfl⟩
        · simp only [go_sem, Nat.reduceAdd, Nat.reduceSub, Nat.reduceMul, Nat.reduceDiv, Nat.reduceMod, Nat.reducePow, Nat.reduceLeDiff, Nat.reduceLT, Nat.reduceEqDiff, Nat.reduceBEq, Nat.reduceBNe, Int.reduceAdd, Int.reduceSub, Int.reduceMul, Int.reducePow, Int.reduceLE, Int.reduceLT, Int.reduceEq, Int.reduceToNat, Int.reduceNeg, reduceCtorEq, Nat.add_zero, Nat.zero_add, beq_self_eq_true, Try.f98, canD, diskB, h0, h1, h2, unwind, modeEx, resultsOf, one]
          exact ⟨_, rfl⟩
        · simp only [go_sem, Nat.reduceAdd, Nat.reduceSub, Nat.reduceMul, Nat.reduceDiv, Nat.reduceMod, Nat.reducePow, Nat.reduceLeDiff, Nat.reduceLT, Nat.reduceEqDiff, Nat.reduceBEq, Nat.reduceBNe, Int.reduceAdd, Int.reduceSub, Int.reduceMul, Int.reducePow, Int.reduceLE, Int.reduceLT, Int.reduceEq, Int.reduceToNat, Int.reduceNeg, reduceCtorEq, Nat.add_zero, Nat.zero_add, beq_self_eq_true, Try.f98, canW, diskB, h0, h1, h2, unwind, modeEx, resultsOf, one]
          exact ⟨_, rfl⟩
      | false =>
        rw [if_neg (by simp only [decide_eq_false_iff_not] at h1 h2; omega)]
        rcases h with ⟨hw, ga, gb, rfl⟩ | ⟨hw, ga, gb, gc, rfl⟩
        · simp only [go_sem, Nat.reduceAdd, Nat.reduceSub, Nat.reduceMul, Nat.reduceDiv, Nat.reduceMod, Nat.reducePow, Nat.reduceLeDiff, Nat.reduceLT, Nat.reduceEqDiff, Nat.reduceBEq, Nat.reduceBNe, Int.reduceAdd, Int.reduceSub, Int.reduceMul, Int.reducePow, Int.reduceLE, Int.reduceLT, Int.reduceEq, Int.reduceToNat, Int.reduceNeg, reduceCtorEq, Nat.add_zero, Nat.zero_add, beq_self_eq_true, Try.f98, canD, diskB, h0, h1, h2, unwind, modeEx, resultsOf, one]
          exact ⟨_, rfl⟩
        · simp only [go_sem, Nat.reduceAdd, Nat.reduceSub, Nat.reduceMul, Nat.reduceDiv, Nat.reduceMod, Nat.reducePow, Nat.reduceLeDiff, Nat.reduceLT, Nat.reduceEqDiff, Nat.reduceBEq, Nat.reduceBNe, Int.reduceAdd, Int.reduceSub, Int.reduceMul, Int.reducePow, Int.reduceLE, Int.reduceLT, Int.reduceEq, Int.reduceToNat, Int.reduceNeg, reduceCtorEq, Nat.add_zero, Nat.zero_add, beq_self_eq_true, Try.f98, canW, diskB, h0, h1, h2, unwind, modeEx, resultsOf, one]
          exact ⟨_, rfl⟩
end Go.Proofs.Ytamcncpgfhfheaa.Tidy

/-
  Trees: the roots, of the program and of the reference.
-/
namespace Go.Proofs.Ytamcncpgfhfheaa.Tidy
open Go Go.IntWalk
set_option maxRecDepth 10000
set_option linter.unusedSimpArgs false

/-- where a list is parted -/
def splitS (n : Nat) : Nat := 2 ^ Nat.log2 (n - 1)

theorem splitS_lt {n : Nat} (h : 2 ≤ n) : 1 ≤ splitS n ∧ splitS n < n := by
  unfold splitS
  refine ⟨Nat.one_le_two_pow, ?_⟩
  have := Nat.log2_self_le (n := n - 1) (by omega)
  omega

/-- how many binary digits a byte has -/
abbrev lenTab : List UInt8 := ([0, 1, 2, 2, 3, 3, 3, 3, 4, 4, 4, 4, 4, 4, 4, 4, 5, 5, 5, 5, 5, 5, 5, 5, 5, 5, 5, 5, 5, 5, 5, 5, 6, 6, 6, 6, 6, 6, 6, 6, 6, 6, 6, 6, 6, 6, 6, 6, 6, 6, 6, 6, 6, 6, 6, 6, 6, 6, 6, 6, 6, 6, 6, 6].append [7, 7, 7, 7, 7, 7, 7, 7, 7, 7, 7, 7, 7, 7, 7, 7, 7, 7, 7, 7, 7, 7, 7, 7, 7, 7, 7, 7, 7, 7, 7, 7, 7, 7, 7, 7, 7, 7, 7, 7, 7, 7, 7, 7, 7, 7, 7, 7, 7, 7, 7, 7, 7, 7, 7, 7, 7, 7, 7, 7, 7, 7, 7, 7]).append ([8, 8, 8, 8, 8, 8, 8, 8, 8, 8, 8, 8, 8, 8, 8, 8, 8, 8, 8, 8, 8, 8, 8, 8, 8, 8, 8, 8, 8, 8, 8, 8, 8, 8, 8, 8, 8, 8, 8, 8, 8, 8, 8, 8, 8, 8, 8, 8, 8, 8, 8, 8, 8, 8, 8, 8, 8, 8, 8, 8, 8, 8, 8, 8].append [8, 8, 8, 8, 8, 8, 8, 8, 8, 8, 8, 8, 8, 8, 8, 8, 8, 8, 8, 8, 8, 8, 8, 8, 8, 8, 8, 8, 8, 8, 8, 8, 8, 8, 8, 8, 8, 8, 8, 8, 8, 8, 8, 8, 8, 8, 8, 8, 8, 8, 8, 8, 8, 8, 8, 8, 8, 8, 8, 8, 8, 8, 8, 8])

theorem lenTab_all : ((List.range' 1 255).all fun n => lenTab[n]? == some (UInt8.ofNat (Nat.log2 n + 1))) = true := by kernel_rfl
theorem lenTab_get {n : Nat} (h1 : 1 ≤ n) (h2 : n < 256) : lenTab[n]? = some (UInt8.ofNat (Nat.log2 n + 1)) := by
  have := List.all_eq_true.1 lenTab_all n (by rw [List.mem_range'_1]; omega)
  simpa only [beq_iff_eq] using this

theorem log2_lt8 {n : Nat} (h1 : 1 ≤ n) (h2 : n < 256) : Nat.log2 n < 8 := (Nat.log2_lt (by omega)).2 h2

theorem len64_run (n : Nat) (h1 : 1 ≤ n) (h2 : n < 512) : runT env 132 [.int .u64 n] [] 0 = some (.ret (.int .i64 ((Nat.log2 n + 1 : Nat) : Int)), []) := by
  have c1 : decide ((4294967296 : Int) ≤ (n : Int)) = false := by simp; omega
  have c2 : decide ((65536 : Int) ≤ (n : Int)) = false := by simp; omega
  have c0 : (0 : Int) ≤ (n : Int) := by omega
  rw [run_unfold fn132 rfl]
  by_cases h : n < 256
  · have c3 : decide ((256 : Int) ≤ (n : Int)) = false := by simp; omega
    have c4 : IntKind.u8.wrap (n : Int) = n := u8_in _ (by omega)
    have c5 : ((n : Int)).toNat = n := by simp
    have c6 := log2_lt8 h1 h
    have c7 : (UInt8.ofNat (Nat.log2 n + 1)).toNat = Nat.log2 n + 1 := by simp; omega
    have c8 : IntKind.i64.wrap (((Nat.log2 n + 1 : Nat)) : Int) = ((Nat.log2 n + 1 : Nat) : Int) := i64_in _ (by omega)
    simp only [go_sem, Nat.reduceAdd, Nat.reduceSub, Nat.reduceMul, Nat.reduceDiv, Nat.reduceMod, Nat.reducePow, Nat.reduceLeDiff, Nat.reduceLT, Nat.reduceEqDiff, Nat.reduceBEq, Nat.reduceBNe, Int.reduceAdd, Int.reduceSub, Int.reduceMul, Int.reducePow, Int.reduceLE, Int.reduceLT, Int.reduceEq, Int.reduceToNat, Int.reduceNeg, reduceCtorEq, Nat.add_zero, Nat.zero_add, beq_self_eq_true, Try.f132, unwind, modeEx, resultsOf, one, c0, c1, c2, c3, c4, c5, lenTab_get h1 h, c7, c8, Int.zero_add]
  · have c3 : decide ((256 : Int) ≤ (n : Int)) = true := by simp; omega
    have hp : ((2 : Int) ^ (min 8 64)) = 256 := by decide
    have hf : (n : Int).fdiv 256 = 1 := by
      rw [Int.fdiv_eq_ediv_of_nonneg _ (by omega)]; omega
    have c4 : IntKind.u8.wrap 1 = 1 := by decide
    have c5 : (1 : Int).toNat = 1 := rfl
    have c7 : (UInt8.ofNat (Nat.log2 1 + 1)).toNat = 1 := by decide
    have c8 : IntKind.i64.wrap (1 : Int) = 1 := by decide
    have c9 : IntKind.i64.wrap (8 : Int) = 8 := by decide
    have c10 : IntKind.i64.wrap (9 : Int) = 9 := by decide
    have c11 : Nat.log2 n = 8 := (Nat.log2_eq_iff (by omega)).2 (by omega)
    simp only [go_sem, Nat.reduceAdd, Nat.reduceSub, Nat.reduceMul, Nat.reduceDiv, Nat.reduceMod, Nat.reducePow, Nat.reduceLeDiff, Nat.reduceLT, Nat.reduceEqDiff, Nat.reduceBEq, Nat.reduceBNe, Int.reduceAdd, Int.reduceSub, Int.reduceMul, Int.reducePow, Int.reduceLE, Int.reduceLT, Int.reduceEq, Int.reduceToNat, Int.reduceNeg, reduceCtorEq, Nat.add_zero, Nat.zero_add, beq_self_eq_true, Try.f132, unwind, modeEx, resultsOf, one, c0, c1, c2, c3, hp, hf, c4, c5, lenTab_get (n := 1) (by omega) (by omega), c7, c8, c9, c10, c11, Int.zero_add, Int.natCast_one]
    rfl

theorem len64_call (n : Nat) (h1 : 1 ≤ n) (h2 : n < 512) (ro : Nat) (H : Heap) (nx : Nat) : callT env 132 [.int .u64 n] ro H nx = some (.ret (.int .i64 ((Nat.log2 n + 1 : Nat) : Int)), .ups []) :=
  call_pure rfl rfl rfl rfl (len64_run n h1 h2) rfl ro H nx

theorem len_call (n : Nat) (h1 : 1 ≤ n) (h2 : n < 512) (ro : Nat) (H : Heap) (nx : Nat) : callT env 129 [.int .u64 n] ro H nx = some (.ret (.int .i64 ((Nat.log2 n + 1 : Nat) : Int)), .ups []) := by
  refine call_pure (H' := []) rfl rfl rfl rfl ?_ rfl ro H nx
  rw [run_unfold fn129 rfl]
  simp only [go_sem, Nat.reduceAdd, Nat.reduceSub, Nat.reduceMul, Nat.reduceDiv, Nat.reduceMod, Nat.reducePow, Nat.reduceLeDiff, Nat.reduceLT, Nat.reduceEqDiff, Nat.reduceBEq, Nat.reduceBNe, Int.reduceAdd, Int.reduceSub, Int.reduceMul, Int.reducePow, Int.reduceLE, Int.reduceLT, Int.reduceEq, Int.reduceToNat, Int.reduceNeg, reduceCtorEq, Nat.add_zero, Nat.zero_add, beq_self_eq_true, Try.f129, unwind, modeEx, resultsOf, one, len64_call, h1, h2]

theorem log2_lt9 {n : Nat} (h2 : n < 512) : Nat.log2 n < 9 := by
  rcases Nat.eq_zero_or_pos n with rfl | h
  · decide
  · exact (Nat.log2_lt (by omega)).2 h2

theorem split_call {n : Nat} (h1 : 2 ≤ n) (h2 : n ≤ 512) (ro : Nat) (H : Heap) (nx : Nat) : callT env 123 [.int .i64 n] ro H nx = some (.ret (.int .i64 (splitS n)), .ups []) := by
  refine call_pure (H' := []) rfl rfl rfl rfl ?_ rfl ro H nx
  have e1 : IntKind.i64.wrap ((n : Int) - 1) = ((n - 1 : Nat) : Int) := by rw [i64_in _ (by omega)]; omega
  have e2 : IntKind.u64.wrap ((n - 1 : Nat) : Int) = ((n - 1 : Nat) : Int) := u64_in _ (by omega)
  have hl := log2_lt9 (n := n - 1) (by omega)
  have e3 : IntKind.i64.wrap (((Nat.log2 (n - 1) + 1 : Nat) : Int) - 1) = ((Nat.log2 (n - 1) : Nat) : Int) := by rw [i64_in _ (by omega)]; omega
  have e4 : ¬ (((Nat.log2 (n - 1) : Nat) : Int) < 0) := by omega
  have e5 : min (((Nat.log2 (n - 1) : Nat) : Int)).toNat 64 = Nat.log2 (n - 1) := by simp; omega
  have e6 : IntKind.i64.wrap (1 * 2 ^ Nat.log2 (n - 1)) = ((splitS n : Nat) : Int) := by
    have : (2 : Nat) ^ Nat.log2 (n - 1) ≤ 2 ^ 9 := Nat.pow_le_pow_right (by decide) (by omega)
    have h3 : (1 : Int) * 2 ^ Nat.log2 (n - 1) = ((2 ^ Nat.log2 (n - 1) : Nat) : Int) := by simp
    rw [h3]
    unfold splitS
    generalize 2 ^ Nat.log2 (n - 1) = q at this ⊢
    exact i64_in _ (by omega)
  rw [run_unfold fn123 rfl]
  simp only [go_sem, Nat.reduceAdd, Nat.reduceSub, Nat.reduceMul, Nat.reduceDiv, Nat.reduceMod, Nat.reducePow, Nat.reduceLeDiff, Nat.reduceLT, Nat.reduceEqDiff, Nat.reduceBEq, Nat.reduceBNe, Int.reduceAdd, Int.reduceSub, Int.reduceMul, Int.reducePow, Int.reduceLE, Int.reduceLT, Int.reduceEq, Int.reduceToNat, Int.reduceNeg, reduceCtorEq, Nat.add_zero, Nat.zero_add, beq_self_eq_true, Try.f123, unwind, modeEx, resultsOf, one, e1, e2, len_call (n - 1) (by omega) (by omega), e3, e4, e5, e6]

theorem rsplit_loop (n : Nat) (h1 : 2 ≤ n) (h2 : n ≤ 512) (H : Heap) (ro : Nat) : ∀ (m j : Nat) (j1 j2 j4 j5 j6 j7 j8 j9 j10 : AVal), j + m = Nat.log2 (n - 1) →
    Goes (execT env (Try.f104.at [1, 1, 0, 0]) ⟨[.int .i64 n, j1, j2, .int .i64 ((2 ^ j : Nat) : Int), j4, j5, j6, j7, j8, j9, j10], H, [], ro, []⟩) fun e s => e = .exit 0 ∧
      ∃ j0 j1 j2 j4 j5 j6 j7 j8 j9 j10, s = ⟨[j0, j1, j2, .int .i64 (splitS n), j4, j5, j6, j7, j8, j9, j10], H, [], ro, []⟩ := by
  have hl := log2_lt9 (n := n - 1) (by omega)
  have hlo := Nat.log2_self_le (n := n - 1) (by omega)
  have hhi := Nat.lt_log2_self (n := n - 1)
  intro m
  induction m with
  | zero =>
    intro j j1 j2 j4 j5 j6 j7 j8 j9 j10 hj
    have hj : j = Nat.log2 (n - 1) := by omega
    have hp : (2 : Nat) ^ j ≤ 2 ^ 9 := Nat.pow_le_pow_right (by decide) (by omega)
    have hw : IntKind.i64.wrap (2 * ((2 ^ j : Nat) : Int)) = ((2 ^ (j + 1) : Nat) : Int) := by
      rw [Nat.pow_succ]
      generalize 2 ^ j = q at hp ⊢
      rw [i64_in _ (by omega)]; omega
    have hd : decide (((2 ^ (j + 1) : Nat) : Int) < (n : Int)) = false := by
      have : n ≤ 2 ^ (j + 1) := by
        rw [hj]
        exact Nat.le_of_pred_lt hhi
      generalize 2 ^ (j + 1) = q at this ⊢
      simp only [decide_eq_false_iff_not]; omega
    simp only [go_sem, Nat.reduceAdd, Nat.reduceSub, Nat.reduceMul, Nat.reduceDiv, Nat.reduceMod, Nat.reducePow, Nat.reduceLeDiff, Nat.reduceLT, Nat.reduceEqDiff, Nat.reduceBEq, Nat.reduceBNe, Int.reduceAdd, Int.reduceSub, Int.reduceMul, Int.reducePow, Int.reduceLE, Int.reduceLT, Int.reduceEq, Int.reduceToNat, Int.reduceNeg, reduceCtorEq, Nat.add_zero, Nat.zero_add, beq_self_eq_true, Try.f104]
    rw [execT_loop]
    simp only [go_sem, Nat.reduceAdd, Nat.reduceSub, Nat.reduceMul, Nat.reduceDiv, Nat.reduceMod, Nat.reducePow, Nat.reduceLeDiff, Nat.reduceLT, Nat.reduceEqDiff, Nat.reduceBEq, Nat.reduceBNe, Int.reduceAdd, Int.reduceSub, Int.reduceMul, Int.reducePow, Int.reduceLE, Int.reduceLT, Int.reduceEq, Int.reduceToNat, Int.reduceNeg, reduceCtorEq, Nat.add_zero, Nat.zero_add, beq_self_eq_true, hw, hd]
    rw [hj]
    exact ⟨_, _, _, _, _, _, _, _, _, _, rfl⟩
  | succ m ih =>
    intro j j1 j2 j4 j5 j6 j7 j8 j9 j10 hj
    have hp : (2 : Nat) ^ j ≤ 2 ^ 9 := Nat.pow_le_pow_right (by decide) (by omega)
    have hw : IntKind.i64.wrap (2 * ((2 ^ j : Nat) : Int)) = ((2 ^ (j + 1) : Nat) : Int) := by
      rw [Nat.pow_succ]
      generalize 2 ^ j = q at hp ⊢
      rw [i64_in _ (by omega)]; omega
    have hd : decide (((2 ^ (j + 1) : Nat) : Int) < (n : Int)) = true := by
      have : (2 : Nat) ^ (j + 1) ≤ 2 ^ Nat.log2 (n - 1) := Nat.pow_le_pow_right (by decide) (by omega)
      have h5 : 2 ^ (j + 1) < n := Nat.lt_of_le_of_lt this (Nat.lt_of_le_of_lt hlo (by omega))
      generalize 2 ^ (j + 1) = q at h5 ⊢
      simp only [decide_eq_true_eq]; omega
    have ih' := ih (j + 1)
    simp only [go_sem, Nat.reduceAdd, Nat.reduceSub, Nat.reduceMul, Nat.reduceDiv, Nat.reduceMod, Nat.reducePow, Nat.reduceLeDiff, Nat.reduceLT, Nat.reduceEqDiff, Nat.reduceBEq, Nat.reduceBNe, Int.reduceAdd, Int.reduceSub, Int.reduceMul, Int.reducePow, Int.reduceLE, Int.reduceLT, Int.reduceEq, Int.reduceToNat, Int.reduceNeg, reduceCtorEq, Nat.add_zero, Nat.zero_add, beq_self_eq_true, Try.f104] at ih' ⊢
    rw [execT_loop]
    simp only [go_sem, Nat.reduceAdd, Nat.reduceSub, Nat.reduceMul, Nat.reduceDiv, Nat.reduceMod, Nat.reducePow, Nat.reduceLeDiff, Nat.reduceLT, Nat.reduceEqDiff, Nat.reduceBEq, Nat.reduceBNe, Int.reduceAdd, Int.reduceSub, Int.reduceMul, Int.reducePow, Int.reduceLE, Int.reduceLT, Int.reduceEq, Int.reduceToNat, Int.reduceNeg, reduceCtorEq, Nat.add_zero, Nat.zero_add, beq_self_eq_true, hw, hd]
    exact ih' _ _ _ _ _ _ _ _ _ (by omega)

theorem rsplit_call {n : Nat} (h1 : 2 ≤ n) (h2 : n ≤ 512) (ro : Nat) (H : Heap) (nx : Nat) : callT env 104 [.int .i64 n] ro H nx = some (.ret (.int .i64 (splitS n)), .ups []) := by
  refine call_pure (H' := []) rfl rfl rfl rfl ?_ rfl ro H nx
  obtain ⟨e, s, hx, rfl, j0, j1, j2, j4, j5, j6, j7, j8, j9, j10, rfl⟩ := rsplit_loop n h1 h2 [] 0 (Nat.log2 (n - 1)) 0 _ _ _ _ _ _ _ _ _ (by omega)
  simp only [go_sem, Nat.reduceAdd, Nat.reduceSub, Nat.reduceMul, Nat.reduceDiv, Nat.reduceMod, Nat.reducePow, Nat.reduceLeDiff, Nat.reduceLT, Nat.reduceEqDiff, Nat.reduceBEq, Nat.reduceBNe, Int.reduceAdd, Int.reduceSub, Int.reduceMul, Int.reducePow, Int.reduceLE, Int.reduceLT, Int.reduceEq, Int.reduceToNat, Int.reduceNeg, reduceCtorEq, Nat.add_zero, Nat.zero_add, beq_self_eq_true, Try.f104, Nat.pow_zero, Int.natCast_one] at hx
  rw [run_unfold fn104 rfl]
  simp only [go_sem, Nat.reduceAdd, Nat.reduceSub, Nat.reduceMul, Nat.reduceDiv, Nat.reduceMod, Nat.reducePow, Nat.reduceLeDiff, Nat.reduceLT, Nat.reduceEqDiff, Nat.reduceBEq, Nat.reduceBNe, Int.reduceAdd, Int.reduceSub, Int.reduceMul, Int.reducePow, Int.reduceLE, Int.reduceLT, Int.reduceEq, Int.reduceToNat, Int.reduceNeg, reduceCtorEq, Nat.add_zero, Nat.zero_add, beq_self_eq_true, Try.f104]
  rw [hx]
  simp only [go_sem, Nat.reduceAdd, Nat.reduceSub, Nat.reduceMul, Nat.reduceDiv, Nat.reduceMod, Nat.reducePow, Nat.reduceLeDiff, Nat.reduceLT, Nat.reduceEqDiff, Nat.reduceBEq, Nat.reduceBNe, Int.reduceAdd, Int.reduceSub, Int.reduceMul, Int.reducePow, Int.reduceLE, Int.reduceLT, Int.reduceEq, Int.reduceToNat, Int.reduceNeg, reduceCtorEq, Nat.add_zero, Nat.zero_add, beq_self_eq_true, unwind, modeEx, resultsOf, one]

/-- a list of entries, by value -/
abbrev encL (cl : Bool) (l : List Entry) : AVal := .lit cl 3 (l.map Entry.enc)

/-- the root of entries, over leaves and nodes -/
def rootG (leaf : Entry → Int) (node : Int → Int → Int) : Nat → List Entry → Int
  | 0, _ => h0
  | n + 1, l => match l with
    | [] => h0
    | [e] => leaf e
    | l => node (rootG leaf node n (l.take (splitS l.length))) (rootG leaf node n (l.drop (splitS l.length)))

def rootI (l : List Entry) : Int := rootG leafI nodeI l.length l
def rootR (l : List Entry) : Int := rootG (fun e => hashS (leafB e)) (fun a b => hashS (nodeB a b)) l.length l

theorem rootG_more (leaf : Entry → Int) (node : Int → Int → Int) : ∀ (n m : Nat) (l : List Entry), l.length ≤ n → l.length ≤ m → rootG leaf node n l = rootG leaf node m l
  | 0, m, l, h, _ => by
    have : l = [] := List.eq_nil_of_length_eq_zero (by omega)
    subst this
    cases m <;> rfl
  | n + 1, 0, l, _, h => by
    have : l = [] := List.eq_nil_of_length_eq_zero (by omega)
    subst this
    rfl
  | n + 1, m + 1, l, h, h' => by
    match l, h, h' with
    | [], _, _ => rfl
    | [e], _, _ => rfl
    | a :: b :: l, h, h' =>
      have hs := splitS_lt (n := (a :: b :: l).length) (by simp)
      simp only [rootG]
      rw [rootG_more leaf node n m _ (by rw [List.length_take]; omega) (by rw [List.length_take]; omega), rootG_more leaf node n m _ (by rw [List.length_drop]; omega) (by rw [List.length_drop]; omega)]

theorem rootG_eq (leaf : Entry → Int) (node : Int → Int → Int) {l : List Entry} (h : 2 ≤ l.length) : rootG leaf node l.length l = node (rootG leaf node (l.take (splitS l.length)).length (l.take (splitS l.length))) (rootG leaf node (l.drop (splitS l.length)).length (l.drop (splitS l.length))) := by
  match l, h with
  | a :: b :: l, h =>
    have hs := splitS_lt h
    rw [show (a :: b :: l).length = (b :: l).length + 1 from rfl]
    simp only [rootG]
    rw [rootG_more leaf node _ (List.take (splitS (a :: b :: l).length) (a :: b :: l)).length _ (by rw [List.length_take]; simp only [List.length_cons] at hs ⊢; omega) (Nat.le_refl _), rootG_more leaf node (b :: l).length (List.drop (splitS (a :: b :: l).length) (a :: b :: l)).length _ (by rw [List.length_drop]; simp only [List.length_cons] at hs ⊢; omega) (Nat.le_refl _)]
    rfl

def small (l : List Entry) : Prop := ∀ e ∈ l, e.body.length ≤ 2 ^ 44

theorem small.take {l : List Entry} (h : small l) (n : Nat) : small (l.take n) := fun e he => h e (List.mem_of_mem_take he)
theorem small.drop {l : List Entry} (h : small l) (n : Nat) : small (l.drop n) := fun e he => h e (List.mem_of_mem_drop he)

theorem sl_to (cl : Bool) (l : List Entry) (k : Nat) (hk : k ≤ l.length) (H : Heap) : sliceOp env H 24 (.lit cl 3 (l.map Entry.enc)) none (some (.int .i64 k)) none = some (.lit (cl && k == l.length) 3 ((l.take k).map Entry.enc)) := by
  rw [slice_to (te := ⟨.struct [(3, 0), (3, 1), (9, 2)], 3, 32, .agg [.int .i64 (0), .int .i64 (0), .str []]⟩) ti24 ti23 (by simpa using hk), List.length_map, List.map_take]
theorem sl_from (cl : Bool) (l : List Entry) (k : Nat) (hk : k ≤ l.length) (H : Heap) : sliceOp env H 24 (.lit cl 3 (l.map Entry.enc)) (some (.int .i64 k)) none none = some (.lit cl 3 ((l.drop k).map Entry.enc)) := by
  rw [slice_from (te := ⟨.struct [(3, 0), (3, 1), (9, 2)], 3, 32, .agg [.int .i64 (0), .int .i64 (0), .str []]⟩) ti24 ti23 (by simpa using hk), List.map_drop]
theorem sl_to3 (cl : Bool) (l : List Entry) (k : Nat) (hk : k ≤ l.length) (H : Heap) : sliceOp env H 24 (.lit cl 3 (l.map Entry.enc)) none (some (.int .i64 k)) (some (.int .i64 k)) = some (.lit true 3 ((l.take k).map Entry.enc)) := by
  rw [slice_to3 (te := ⟨.struct [(3, 0), (3, 1), (9, 2)], 3, 32, .agg [.int .i64 (0), .int .i64 (0), .str []]⟩) ti24 ti23 (by simpa using hk), List.map_take]

theorem root_run : ∀ (n : Nat) (cl : Bool) (l : List Entry), l.length = n → n ≤ 512 → small l → ∃ H', runT env 82 [encL cl l] [] 0 = some (.ret (.int .u64 (rootI l)), H') := by
  intro n
  induction n using Nat.strongRecOn with
  | _ n ih =>
    intro cl l hl hn hsm
    rw [run_unfold fn82 rfl]
    by_cases h0 : n = 0
    · have : l = [] := List.eq_nil_of_length_eq_zero (by omega)
      subst this
      simp only [go_sem, Nat.reduceAdd, Nat.reduceSub, Nat.reduceMul, Nat.reduceDiv, Nat.reduceMod, Nat.reducePow, Nat.reduceLeDiff, Nat.reduceLT, Nat.reduceEqDiff, Nat.reduceBEq, Nat.reduceBNe, Int.reduceAdd, Int.reduceSub, Int.reduceMul, Int.reducePow, Int.reduceLE, Int.reduceLT, Int.reduceEq, Int.reduceToNat, Int.reduceNeg, reduceCtorEq, Nat.add_zero, Nat.zero_add, beq_self_eq_true, Try.f82, encL, unwind, modeEx, resultsOf, one, Int.ofNat_zero, Int.natCast_zero]
      exact ⟨_, rfl⟩
    · by_cases h1 : n = 1
      · obtain ⟨e, rfl⟩ : ∃ e, l = [e] := List.length_eq_one_iff.1 (by omega)
        have hlf := leaf_call e (hsm e (by simp))
        simp only [go_sem, Nat.reduceAdd, Nat.reduceSub, Nat.reduceMul, Nat.reduceDiv, Nat.reduceMod, Nat.reducePow, Nat.reduceLeDiff, Nat.reduceLT, Nat.reduceEqDiff, Nat.reduceBEq, Nat.reduceBNe, Int.reduceAdd, Int.reduceSub, Int.reduceMul, Int.reducePow, Int.reduceLE, Int.reduceLT, Int.reduceEq, Int.reduceToNat, Int.reduceNeg, reduceCtorEq, Nat.add_zero, Nat.zero_add, beq_self_eq_true, Try.f82, encL, unwind, modeEx, resultsOf, one, Int.natCast_one, hlf]
        exact ⟨_, rfl⟩
      · have hs := splitS_lt (n := l.length) (by omega)
        have d0 : decide ((l.length : Int) = 0) = false := by simp only [decide_eq_false_iff_not]; omega
        have d1 : decide ((l.length : Int) = 1) = false := by simp only [decide_eq_false_iff_not]; omega
        have c1 : ∀ (cl : Bool) ro H nx, callT env 82 [.lit cl 3 ((l.take (splitS l.length)).map Entry.enc)] ro H nx = some (.ret (.int .u64 (rootI (l.take (splitS l.length)))), .ups []) := by
          intro cl ro H nx
          obtain ⟨H', h⟩ := ih (l.take (splitS l.length)).length (by rw [List.length_take]; omega) cl (l.take (splitS l.length)) rfl (by rw [List.length_take]; omega) (hsm.take _)
          exact call_pure rfl rfl rfl rfl h rfl ro H nx
        have c2 : ∀ (cl : Bool) ro H nx, callT env 82 [.lit cl 3 ((l.drop (splitS l.length)).map Entry.enc)] ro H nx = some (.ret (.int .u64 (rootI (l.drop (splitS l.length)))), .ups []) := by
          intro cl ro H nx
          obtain ⟨H', h⟩ := ih (l.drop (splitS l.length)).length (by rw [List.length_drop]; omega) cl (l.drop (splitS l.length)) rfl (by rw [List.length_drop]; omega) (hsm.drop _)
          exact call_pure rfl rfl rfl rfl h rfl ro H nx
        have hroot : rootI l = nodeI (rootI (l.take (splitS l.length))) (rootI (l.drop (splitS l.length))) := rootG_eq leafI nodeI (by omega)
        rw [hroot]
        simp only [go_sem, Nat.reduceAdd, Nat.reduceSub, Nat.reduceMul, Nat.reduceDiv, Nat.reduceMod, Nat.reducePow, Nat.reduceLeDiff, Nat.reduceLT, Nat.reduceEqDiff, Nat.reduceBEq, Nat.reduceBNe, Int.reduceAdd, Int.reduceSub, Int.reduceMul, Int.reducePow, Int.reduceLE, Int.reduceLT, Int.reduceEq, Int.reduceToNat, Int.reduceNeg, reduceCtorEq, Nat.add_zero, Nat.zero_add, beq_self_eq_true, Try.f82, encL, unwind, modeEx, resultsOf, one, List.length_map, d0, d1, split_call (n := l.length) (by omega) (by omega), sl_to _ _ _ (show splitS l.length ≤ l.length by omega), sl_from _ _ _ (show splitS l.length ≤ l.length by omega), c1, c2, node_call]
        exact ⟨_, rfl⟩

theorem root_call (cl : Bool) (l : List Entry) (h1 : l.length ≤ 512) (h2 : small l) (ro : Nat) (H : Heap) (nx : Nat) : callT env 82 [.lit cl 3 (l.map Entry.enc)] ro H nx = some (.ret (.int .u64 (rootI l)), .ups []) := by
  obtain ⟨H', h⟩ := root_run _ cl l rfl h1 h2
  exact call_pure rfl rfl rfl rfl h rfl ro H nx

theorem rroot_run : ∀ (n : Nat) (cl : Bool) (l : List Entry), l.length = n → n ≤ 512 → small l → ∃ H', runT env 84 [encL cl l] [] 0 = some (.ret (.int .u64 (rootR l)), H') := by
  intro n
  induction n using Nat.strongRecOn with
  | _ n ih =>
    intro cl l hl hn hsm
    rw [run_unfold fn84 rfl]
    by_cases h0 : n = 0
    · have : l = [] := List.eq_nil_of_length_eq_zero (by omega)
      subst this
      simp only [go_sem, Nat.reduceAdd, Nat.reduceSub, Nat.reduceMul, Nat.reduceDiv, Nat.reduceMod, Nat.reducePow, Nat.reduceLeDiff, Nat.reduceLT, Nat.reduceEqDiff, Nat.reduceBEq, Nat.reduceBNe, Int.reduceAdd, Int.reduceSub, Int.reduceMul, Int.reducePow, Int.reduceLE, Int.reduceLT, Int.reduceEq, Int.reduceToNat, Int.reduceNeg, reduceCtorEq, Nat.add_zero, Nat.zero_add, beq_self_eq_true, Try.f84, encL, unwind, modeEx, resultsOf, one, Int.ofNat_zero, Int.natCast_zero]
      exact ⟨_, rfl⟩
    · by_cases h1 : n = 1
      · obtain ⟨e, rfl⟩ : ∃ e, l = [e] := List.length_eq_one_iff.1 (by omega)
        have hlf := rleaf_call e (hsm e (by simp))
        simp only [go_sem, Nat.reduceAdd, Nat.reduceSub, Nat.reduceMul, Nat.reduceDiv, Nat.reduceMod, Nat.reducePow, Nat.reduceLeDiff, Nat.reduceLT, Nat.reduceEqDiff, Nat.reduceBEq, Nat.reduceBNe, Int.reduceAdd, Int.reduceSub, Int.reduceMul, Int.reducePow, Int.reduceLE, Int.reduceLT, Int.reduceEq, Int.reduceToNat, Int.reduceNeg, reduceCtorEq, Nat.add_zero, Nat.zero_add, beq_self_eq_true, Try.f84, encL, unwind, modeEx, resultsOf, one, Int.natCast_one, hlf]
        exact ⟨_, rfl⟩
      · have hs := splitS_lt (n := l.length) (by omega)
        have d0 : decide ((l.length : Int) = 0) = false := by simp only [decide_eq_false_iff_not]; omega
        have d1 : decide ((l.length : Int) = 1) = false := by simp only [decide_eq_false_iff_not]; omega
        have c1 : ∀ (cl : Bool) ro H nx, callT env 84 [.lit cl 3 ((l.take (splitS l.length)).map Entry.enc)] ro H nx = some (.ret (.int .u64 (rootR (l.take (splitS l.length)))), .ups []) := by
          intro cl ro H nx
          obtain ⟨H', h⟩ := ih (l.take (splitS l.length)).length (by rw [List.length_take]; omega) cl (l.take (splitS l.length)) rfl (by rw [List.length_take]; omega) (hsm.take _)
          exact call_pure rfl rfl rfl rfl h rfl ro H nx
        have c2 : ∀ (cl : Bool) ro H nx, callT env 84 [.lit cl 3 ((l.drop (splitS l.length)).map Entry.enc)] ro H nx = some (.ret (.int .u64 (rootR (l.drop (splitS l.length)))), .ups []) := by
          intro cl ro H nx
          obtain ⟨H', h⟩ := ih (l.drop (splitS l.length)).length (by rw [List.length_drop]; omega) cl (l.drop (splitS l.length)) rfl (by rw [List.length_drop]; omega) (hsm.drop _)
          exact call_pure rfl rfl rfl rfl h rfl ro H nx
        have hroot : rootR l = hashS (nodeB (rootR (l.take (splitS l.length))) (rootR (l.drop (splitS l.length)))) := rootG_eq _ (fun a b => hashS (nodeB a b)) (by omega)
        rw [hroot]
        simp only [go_sem, Nat.reduceAdd, Nat.reduceSub, Nat.reduceMul, Nat.reduceDiv, Nat.reduceMod, Nat.reducePow, Nat.reduceLeDiff, Nat.reduceLT, Nat.reduceEqDiff, Nat.reduceBEq, Nat.reduceBNe, Int.reduceAdd, Int.reduceSub, Int.reduceMul, Int.reducePow, Int.reduceLE, Int.reduceLT, Int.reduceEq, Int.reduceToNat, Int.reduceNeg, reduceCtorEq, Nat.add_zero, Nat.zero_add, beq_self_eq_true, Try.f84, encL, unwind, modeEx, resultsOf, one, List.length_map, d0, d1, rsplit_call (n := l.length) (by omega) (by omega), sl_to3 _ _ _ (show splitS l.length ≤ l.length by omega), sl_from _ _ _ (show splitS l.length ≤ l.length by omega), c1, c2, rnode_call]
        exact ⟨_, rfl⟩

theorem rroot_call (cl : Bool) (l : List Entry) (h1 : l.length ≤ 512) (h2 : small l) (ro : Nat) (H : Heap) (nx : Nat) : callT env 84 [.lit cl 3 (l.map Entry.enc)] ro H nx = some (.ret (.int .u64 (rootR l)), .ups []) := by
  obtain ⟨H', h⟩ := rroot_run _ cl l rfl h1 h2
  exact call_pure rfl rfl rfl rfl h rfl ro H nx
end Go.Proofs.Ytamcncpgfhfheaa.Tidy

/-
  Trees: lists checked; roots and leaves told.
-/
namespace Go.Proofs.Ytamcncpgfhfheaa.Tidy
open Go Go.IntWalk
set_option maxRecDepth 10000
set_option linter.unusedSimpArgs false

theorem erS_ne (e : Entry) : (!decide (erS e = 0)) = !e.ok := by unfold erS; cases e.ok <;> rfl
theorem erS_eq (e : Entry) : decide (erS e = 0) = e.ok := by unfold erS; cases e.ok <;> rfl

def chkS (l : List Entry) : Int := if 512 < l.length then 2 else if l.all Entry.ok then 0 else 90

theorem wrap_u64' (n : Int) : IntKind.u64.wrap n = n % 18446744073709551616 := by
  simp [IntKind.wrap, IntKind.bits, IntKind.signed]

theorem bO_val {n : Int} (h : 0 ≤ n) : ((bO n).toNat : Int) = IntKind.u8.wrap n := by
  unfold bO
  rw [Int.tmod_eq_emod_of_nonneg h, IntKind.wrap_u8, IntKind.wrap_u8]
  rw [UInt8.toNat_ofNat']
  omega

theorem num_eq : ∀ (k : Nat) (h n : Int), 0 ≤ n → n ≤ 18446744073709551615 → (sB (eightL k n)).foldl hstep h = num k h n
  | 0, _, _, _, _ => rfl
  | k + 1, h, n, h0, h1 => by
    have e1 : IntKind.u64.wrap (n.tdiv 256) = n.fdiv 256 := by
      rw [u64_quo n 256 ⟨h0, h1, by omega⟩, Int.fdiv_eq_ediv_of_nonneg _ (by omega)]
    have e2 : n.fdiv 256 = n / 256 := Int.fdiv_eq_ediv_of_nonneg _ (by omega)
    simp only [eightL, sB, List.map_cons, List.foldl_cons, num]
    rw [bO_val h0, e1]
    exact num_eq k _ _ (by omega) (by omega)

theorem node_eq {a b : Int} (ha : 0 ≤ a) (ha' : a ≤ 18446744073709551615) (hb : 0 ≤ b) (hb' : b ≤ 18446744073709551615) : hashS (nodeB a b) = nodeI a b := by
  unfold hashS nodeB nodeI
  rw [sB_append, sB_append, List.foldl_append, List.foldl_append, num_eq 8 _ a ha ha', num_eq 8 _ b hb hb']
  have : sB [bO 1] = [1] := by simp only [sB, List.map_cons, List.map_nil]; rw [bO_val (by omega)]; rfl
  rw [this]; rfl

theorem wrapu64_range (n : Int) : 0 ≤ IntKind.u64.wrap n ∧ IntKind.u64.wrap n ≤ 18446744073709551615 := by
  rw [wrap_u64']; omega

theorem leaf_eq (e : Entry) (h : e.body.length < 2 ^ 63) : hashS (leafB e) = leafI e := by
  have w1 : ∀ x : Int, IntKind.u8.wrap (IntKind.u64.wrap x) = IntKind.u8.wrap x := by
    intro x; rw [IntKind.wrap_u8, IntKind.wrap_u8, wrap_u64']; omega
  have w2 : IntKind.u64.wrap (e.body.length : Int) = e.body.length := u64_in _ (by omega)
  have w3 : IntKind.u64.wrap (((e.body.length : Int)).tdiv 256) = ((e.body.length : Int)).fdiv 256 := by
    rw [u64_quo _ 256 ⟨by omega, by omega, by omega⟩, Int.fdiv_eq_ediv_of_nonneg _ (by omega)]
  have w4 : (0 : Int) ≤ ((e.body.length : Int)).fdiv 256 := by rw [Int.fdiv_eq_ediv_of_nonneg _ (by omega)]; omega
  have w5 : IntKind.u8.wrap 0 = 0 := by decide
  unfold hashS leafB leafI
  rw [w2, w3]
  simp only [sB_append, List.foldl_append]
  simp only [sB, List.map_cons, List.map_nil, List.foldl_cons, List.foldl_nil]
  rw [bO_val (by omega), bO_val (wrapu64_range _).1, bO_val (wrapu64_range _).1, bO_val (by omega), bO_val w4, w1, w1, w5]

theorem hstep_range (h b : Int) : 0 ≤ hstep h b ∧ hstep h b ≤ 18446744073709551615 := wrapu64_range _

theorem fold_range : ∀ (l : List Int) (h : Int), 0 ≤ h → h ≤ 18446744073709551615 → 0 ≤ l.foldl hstep h ∧ l.foldl hstep h ≤ 18446744073709551615
  | [], h, h1, h2 => ⟨h1, h2⟩
  | b :: l, h, _, _ => fold_range l (hstep h b) (hstep_range h b).1 (hstep_range h b).2

theorem num_range : ∀ (k : Nat) (h n : Int), 0 ≤ h → h ≤ 18446744073709551615 → 0 ≤ num k h n ∧ num k h n ≤ 18446744073709551615
  | 0, h, n, h1, h2 => ⟨h1, h2⟩
  | k + 1, h, n, _, _ => num_range k _ _ (hstep_range _ _).1 (hstep_range _ _).2

theorem node_range (a b : Int) : 0 ≤ nodeI a b ∧ nodeI a b ≤ 18446744073709551615 := by
  unfold nodeI
  have h1 := num_range 8 (hstep h0 1) a (hstep_range _ _).1 (hstep_range _ _).2
  exact num_range 8 _ b h1.1 h1.2
theorem leaf_range (e : Entry) : 0 ≤ leafI e ∧ leafI e ≤ 18446744073709551615 := by
  unfold leafI
  have h1 := fold_range [0, IntKind.u8.wrap e.office, IntKind.u8.wrap e.no, IntKind.u8.wrap e.body.length, IntKind.u8.wrap ((e.body.length : Int).fdiv 256)] h0 (by decide) (by decide)
  exact fold_range _ _ h1.1 h1.2

theorem rootG_range : ∀ (n : Nat) (l : List Entry), 0 ≤ rootG leafI nodeI n l ∧ rootG leafI nodeI n l ≤ 18446744073709551615
  | 0, l => by simp only [rootG, h0]; omega
  | n + 1, l => by
    unfold rootG
    split
    · simp only [h0]; omega
    · exact leaf_range _
    · exact node_range _ _
theorem root_range (l : List Entry) : 0 ≤ rootI l ∧ rootI l ≤ 18446744073709551615 := rootG_range _ l

theorem rootG_same (n : Nat) : ∀ l : List Entry, small l → rootG (fun e => hashS (leafB e)) (fun a b => hashS (nodeB a b)) n l = rootG leafI nodeI n l := by
  induction n with
  | zero => intro l _; simp only [rootG]
  | succ n ih =>
    intro l h
    unfold rootG
    split
    · rfl
    · rename_i e
      exact leaf_eq e (by have := h e (by simp); omega)
    · rename_i l' _ _
      rw [ih _ (h.take _), ih _ (h.drop _)]
      have h1 := rootG_range n (List.take (splitS l.length) l)
      have h2 := rootG_range n (List.drop (splitS l.length) l)
      exact node_eq h1.1 h1.2 h2.1 h2.2
theorem root_same (l : List Entry) (h : small l) : rootR l = rootI l := rootG_same _ l h

theorem ok_small {e : Entry} (h : e.ok = true) : e.body.length ≤ 2400 := by
  unfold Entry.ok at h
  simp only [Bool.not_eq_true', Bool.or_eq_false_iff, decide_eq_false_iff_not] at h
  omega
theorem all_small {l : List Entry} (h : l.all Entry.ok = true) : small l := fun e he => by
  have := ok_small (List.all_eq_true.1 h e he); omega

theorem checkList_loop (cl : Bool) (l : List Entry) (hlen : l.length < 2 ^ 63) : ∀ (n i : Nat) (j1 j3 j4 j5 j6 j7 j8 j12 j13 j14 j15 j16 j17 j18 j19 j20 : AVal), i + n = l.length →
    Goes (execT env (Try.f81.at [1, 1, 0, 1, 0]) ⟨[.lit cl 3 (l.map Entry.enc), j1, .int .i64 0, j3, j4, j5, j6, j7, j8, .lit cl 3 (l.map Entry.enc), .int .i64 l.length, .int .i64 i, j12, j13, j14, j15, j16, j17, j18, j19, j20], [], [], 0, []⟩) fun e s =>
      if (l.drop i).all Entry.ok then e = .exit 0 ∧ ∃ j0 j1 j2 j3 j4 j5 j6 j7 j8 j9 j10 j11 j12 j13 j14 j15 j16 j17 j18 j19 j20, s = ⟨[j0, j1, j2, j3, j4, j5, j6, j7, j8, j9, j10, j11, j12, j13, j14, j15, j16, j17, j18, j19, j20], [], [], 0, []⟩ else e = .ret ∧ ∃ j0 j1 j3 j4 j5 j6 j7 j8 j9 j10 j11 j12 j13 j14 j15 j16 j17 j18 j19 j20, ∃ H', s = ⟨[j0, j1, .int .i64 90, j3, j4, j5, j6, j7, j8, j9, j10, j11, j12, j13, j14, j15, j16, j17, j18, j19, j20], H', [], 0, []⟩ := by
  intro n
  induction n with
  | zero =>
    intro i j1 j3 j4 j5 j6 j7 j8 j12 j13 j14 j15 j16 j17 j18 j19 j20 hi
    have hd : decide ((i : Int) < (l.length : Int)) = false := by simp; omega
    have hdr : l.drop i = [] := List.drop_eq_nil_of_le (by omega)
    simp only [go_sem, Nat.reduceAdd, Nat.reduceSub, Nat.reduceMul, Nat.reduceDiv, Nat.reduceMod, Nat.reducePow, Nat.reduceLeDiff, Nat.reduceLT, Nat.reduceEqDiff, Nat.reduceBEq, Nat.reduceBNe, Int.reduceAdd, Int.reduceSub, Int.reduceMul, Int.reducePow, Int.reduceLE, Int.reduceLT, Int.reduceEq, Int.reduceToNat, Int.reduceNeg, reduceCtorEq, Nat.add_zero, Nat.zero_add, beq_self_eq_true, Try.f81]
    rw [execT_loop]
    simp only [go_sem, Nat.reduceAdd, Nat.reduceSub, Nat.reduceMul, Nat.reduceDiv, Nat.reduceMod, Nat.reducePow, Nat.reduceLeDiff, Nat.reduceLT, Nat.reduceEqDiff, Nat.reduceBEq, Nat.reduceBNe, Int.reduceAdd, Int.reduceSub, Int.reduceMul, Int.reducePow, Int.reduceLE, Int.reduceLT, Int.reduceEq, Int.reduceToNat, Int.reduceNeg, reduceCtorEq, Nat.add_zero, Nat.zero_add, beq_self_eq_true, hd, hdr]
    exact ⟨_, _, _, _, _, _, _, _, _, _, _, _, _, _, _, _, _, _, _, _, _, rfl⟩
  | succ n ih =>
    intro i j1 j3 j4 j5 j6 j7 j8 j12 j13 j14 j15 j16 j17 j18 j19 j20 hi
    have hd : decide ((i : Int) < (l.length : Int)) = true := by simp; omega
    have h0 : (0 : Int) ≤ (i : Int) := by omega
    obtain ⟨b, hb, hdr⟩ := get_drop (show i < l.length by omega)
    have hb' : (l.map Entry.enc)[(i : Int).toNat]? = some b.enc := by simp [hb]
    have ih' := ih (i + 1)
    simp only [go_sem, Nat.reduceAdd, Nat.reduceSub, Nat.reduceMul, Nat.reduceDiv, Nat.reduceMod, Nat.reducePow, Nat.reduceLeDiff, Nat.reduceLT, Nat.reduceEqDiff, Nat.reduceBEq, Nat.reduceBNe, Int.reduceAdd, Int.reduceSub, Int.reduceMul, Int.reducePow, Int.reduceLE, Int.reduceLT, Int.reduceEq, Int.reduceToNat, Int.reduceNeg, reduceCtorEq, Nat.add_zero, Nat.zero_add, beq_self_eq_true, Try.f81] at ih' ⊢
    rw [execT_loop, hdr]
    cases hok : b.ok with
    | true =>
      have he : erS b = 0 := by unfold erS; rw [hok]; rfl
      simp only [go_sem, Nat.reduceAdd, Nat.reduceSub, Nat.reduceMul, Nat.reduceDiv, Nat.reduceMod, Nat.reducePow, Nat.reduceLeDiff, Nat.reduceLT, Nat.reduceEqDiff, Nat.reduceBEq, Nat.reduceBNe, Int.reduceAdd, Int.reduceSub, Int.reduceMul, Int.reducePow, Int.reduceLE, Int.reduceLT, Int.reduceEq, Int.reduceToNat, Int.reduceNeg, reduceCtorEq, Nat.add_zero, Nat.zero_add, beq_self_eq_true, hd, h0, hb', he, check_call, hok, wrap_succ (show i < 2 ^ 63 - 1 by omega), trunc, scrub]
      exact ih' _ _ _ _ _ _ _ _ _ _ _ _ _ _ _ _ (by omega)
    | false =>
      have he : erS b = 90 := by unfold erS; rw [hok]; rfl
      simp only [go_sem, Nat.reduceAdd, Nat.reduceSub, Nat.reduceMul, Nat.reduceDiv, Nat.reduceMod, Nat.reducePow, Nat.reduceLeDiff, Nat.reduceLT, Nat.reduceEqDiff, Nat.reduceBEq, Nat.reduceBNe, Int.reduceAdd, Int.reduceSub, Int.reduceMul, Int.reducePow, Int.reduceLE, Int.reduceLT, Int.reduceEq, Int.reduceToNat, Int.reduceNeg, reduceCtorEq, Nat.add_zero, Nat.zero_add, beq_self_eq_true, hd, h0, hb', he, check_call, hok]
      exact ⟨_, _, _, _, _, _, _, _, _, _, _, _, _, _, _, _, _, _, _, _, _, rfl⟩

theorem checkList_call (cl : Bool) (l : List Entry) (hlen : l.length < 2 ^ 63) (ro : Nat) (H : Heap) (nx : Nat) : callT env 81 [.lit cl 3 (l.map Entry.enc)] ro H nx = some (.ret (.int .i64 (chkS l)), .ups []) := by
  have : ∃ H', runT env 81 [.lit cl 3 (l.map Entry.enc)] [] 0 = some (.ret (.int .i64 (chkS l)), H') := by
    rw [run_unfold fn81 rfl]
    unfold chkS
    by_cases h : 512 < l.length
    · have hd : decide (512 < (l.length : Int)) = true := by simp; omega
      simp only [go_sem, Nat.reduceAdd, Nat.reduceSub, Nat.reduceMul, Nat.reduceDiv, Nat.reduceMod, Nat.reducePow, Nat.reduceLeDiff, Nat.reduceLT, Nat.reduceEqDiff, Nat.reduceBEq, Nat.reduceBNe, Int.reduceAdd, Int.reduceSub, Int.reduceMul, Int.reducePow, Int.reduceLE, Int.reduceLT, Int.reduceEq, Int.reduceToNat, Int.reduceNeg, reduceCtorEq, Nat.add_zero, Nat.zero_add, beq_self_eq_true, Try.f81, List.length_map, hd, h, unwind, modeEx, resultsOf, one]
      exact ⟨_, rfl⟩
    · have hd : decide (512 < (l.length : Int)) = false := by simp; omega
      obtain ⟨e, s, hx, hp⟩ := checkList_loop cl l hlen l.length 0 _ _ _ _ _ _ _ _ _ _ _ _ _ _ _ _ (by omega)
      rw [List.drop_zero] at hp
      simp only [go_sem, Nat.reduceAdd, Nat.reduceSub, Nat.reduceMul, Nat.reduceDiv, Nat.reduceMod, Nat.reducePow, Nat.reduceLeDiff, Nat.reduceLT, Nat.reduceEqDiff, Nat.reduceBEq, Nat.reduceBNe, Int.reduceAdd, Int.reduceSub, Int.reduceMul, Int.reducePow, Int.reduceLE, Int.reduceLT, Int.reduceEq, Int.reduceToNat, Int.reduceNeg, reduceCtorEq, Nat.add_zero, Nat.zero_add, beq_self_eq_true, Try.f81, Int.ofNat_zero, Int.natCast_zero] at hx
      simp only [go_sem, Nat.reduceAdd, Nat.reduceSub, Nat.reduceMul, Nat.reduceDiv, Nat.reduceMod, Nat.reducePow, Nat.reduceLeDiff, Nat.reduceLT, Nat.reduceEqDiff, Nat.reduceBEq, Nat.reduceBNe, Int.reduceAdd, Int.reduceSub, Int.reduceMul, Int.reducePow, Int.reduceLE, Int.reduceLT, Int.reduceEq, Int.reduceToNat, Int.reduceNeg, reduceCtorEq, Nat.add_zero, Nat.zero_add, beq_self_eq_true, Try.f81, List.length_map, hd, h]
      rw [hx]
      cases ha : l.all Entry.ok with
      | true =>
        rw [ha] at hp
        obtain ⟨rfl, j0, j1, j2, j3, j4, j5, j6, j7, j8, j9, j10, j11, j12, j13, j14, j15, j16, j17, j18, j19, j20, rfl⟩ := hp
        simp only [go_sem, Nat.reduceAdd, Nat.reduceSub, Nat.reduceMul, Nat.reduceDiv, Nat.reduceMod, Nat.reducePow, Nat.reduceLeDiff, Nat.reduceLT, Nat.reduceEqDiff, Nat.reduceBEq, Nat.reduceBNe, Int.reduceAdd, Int.reduceSub, Int.reduceMul, Int.reducePow, Int.reduceLE, Int.reduceLT, Int.reduceEq, Int.reduceToNat, Int.reduceNeg, reduceCtorEq, Nat.add_zero, Nat.zero_add, beq_self_eq_true, unwind, modeEx, resultsOf, one]
        exact ⟨_, rfl⟩
      | false =>
        rw [ha] at hp
        obtain ⟨rfl, j0, j1, j3, j4, j5, j6, j7, j8, j9, j10, j11, j12, j13, j14, j15, j16, j17, j18, j19, j20, H', rfl⟩ := hp
        simp only [go_sem, Nat.reduceAdd, Nat.reduceSub, Nat.reduceMul, Nat.reduceDiv, Nat.reduceMod, Nat.reducePow, Nat.reduceLeDiff, Nat.reduceLT, Nat.reduceEqDiff, Nat.reduceBEq, Nat.reduceBNe, Int.reduceAdd, Int.reduceSub, Int.reduceMul, Int.reducePow, Int.reduceLE, Int.reduceLT, Int.reduceEq, Int.reduceToNat, Int.reduceNeg, reduceCtorEq, Nat.add_zero, Nat.zero_add, beq_self_eq_true, unwind, modeEx, resultsOf, one]
        exact ⟨_, rfl⟩
  obtain ⟨H', h⟩ := this
  exact call_pure rfl rfl rfl rfl h rfl ro H nx

theorem rcheckList_loop (cl : Bool) (l : List Entry) (hlen : l.length < 2 ^ 63) : ∀ (n i : Nat) (j1 j4 j5 j6 j7 j8 j9 j10 j11 j12 j13 j14 j15 j16 j17 j18 j19 j20 j21 : AVal), i + n = l.length →
    Goes (execT env (Try.f83.at [1, 1, 0, 1, 0]) ⟨[.lit cl 3 (l.map Entry.enc), j1, .int .i64 0, .int .i64 i, j4, j5, j6, j7, j8, j9, j10, j11, j12, j13, j14, j15, j16, j17, j18, j19, j20, j21], [], [], 0, []⟩) fun e s =>
      if (l.drop i).all Entry.ok then e = .exit 0 ∧ ∃ j0 j1 j2 j3 j4 j5 j6 j7 j8 j9 j10 j11 j12 j13 j14 j15 j16 j17 j18 j19 j20 j21, s = ⟨[j0, j1, j2, j3, j4, j5, j6, j7, j8, j9, j10, j11, j12, j13, j14, j15, j16, j17, j18, j19, j20, j21], [], [], 0, []⟩ else e = .ret ∧ ∃ j0 j1 j3 j4 j5 j6 j7 j8 j9 j10 j11 j12 j13 j14 j15 j16 j17 j18 j19 j20 j21, ∃ H', s = ⟨[j0, j1, .int .i64 90, j3, j4, j5, j6, j7, j8, j9, j10, j11, j12, j13, j14, j15, j16, j17, j18, j19, j20, j21], H', [], 0, []⟩ := by
  intro n
  induction n with
  | zero =>
    intro i j1 j4 j5 j6 j7 j8 j9 j10 j11 j12 j13 j14 j15 j16 j17 j18 j19 j20 j21 hi
    have hd : decide ((i : Int) < (l.length : Int)) = false := by simp; omega
    have hdr : l.drop i = [] := List.drop_eq_nil_of_le (by omega)
    simp only [go_sem, Nat.reduceAdd, Nat.reduceSub, Nat.reduceMul, Nat.reduceDiv, Nat.reduceMod, Nat.reducePow, Nat.reduceLeDiff, Nat.reduceLT, Nat.reduceEqDiff, Nat.reduceBEq, Nat.reduceBNe, Int.reduceAdd, Int.reduceSub, Int.reduceMul, Int.reducePow, Int.reduceLE, Int.reduceLT, Int.reduceEq, Int.reduceToNat, Int.reduceNeg, reduceCtorEq, Nat.add_zero, Nat.zero_add, beq_self_eq_true, Try.f83]
    rw [execT_loop]
    simp only [go_sem, Nat.reduceAdd, Nat.reduceSub, Nat.reduceMul, Nat.reduceDiv, Nat.reduceMod, Nat.reducePow, Nat.reduceLeDiff, Nat.reduceLT, Nat.reduceEqDiff, Nat.reduceBEq, Nat.reduceBNe, Int.reduceAdd, Int.reduceSub, Int.reduceMul, Int.reducePow, Int.reduceLE, Int.reduceLT, Int.reduceEq, Int.reduceToNat, Int.reduceNeg, reduceCtorEq, Nat.add_zero, Nat.zero_add, beq_self_eq_true, List.length_map, hd, hdr]
    exact ⟨_, _, _, _, _, _, _, _, _, _, _, _, _, _, _, _, _, _, _, _, _, _, rfl⟩
  | succ n ih =>
    intro i j1 j4 j5 j6 j7 j8 j9 j10 j11 j12 j13 j14 j15 j16 j17 j18 j19 j20 j21 hi
    have hd : decide ((i : Int) < (l.length : Int)) = true := by simp; omega
    have h0 : (0 : Int) ≤ (i : Int) := by omega
    obtain ⟨b, hb, hdr⟩ := get_drop (show i < l.length by omega)
    have hb' : (l.map Entry.enc)[(i : Int).toNat]? = some b.enc := by simp [hb]
    have ih' := ih (i + 1)
    simp only [go_sem, Nat.reduceAdd, Nat.reduceSub, Nat.reduceMul, Nat.reduceDiv, Nat.reduceMod, Nat.reducePow, Nat.reduceLeDiff, Nat.reduceLT, Nat.reduceEqDiff, Nat.reduceBEq, Nat.reduceBNe, Int.reduceAdd, Int.reduceSub, Int.reduceMul, Int.reducePow, Int.reduceLE, Int.reduceLT, Int.reduceEq, Int.reduceToNat, Int.reduceNeg, reduceCtorEq, Nat.add_zero, Nat.zero_add, beq_self_eq_true, Try.f83] at ih' ⊢
    rw [execT_loop, hdr]
    cases hok : b.ok with
    | true =>
      have he : erS b = 0 := by unfold erS; rw [hok]; rfl
      simp only [go_sem, Nat.reduceAdd, Nat.reduceSub, Nat.reduceMul, Nat.reduceDiv, Nat.reduceMod, Nat.reducePow, Nat.reduceLeDiff, Nat.reduceLT, Nat.reduceEqDiff, Nat.reduceBEq, Nat.reduceBNe, Int.reduceAdd, Int.reduceSub, Int.reduceMul, Int.reducePow, Int.reduceLE, Int.reduceLT, Int.reduceEq, Int.reduceToNat, Int.reduceNeg, reduceCtorEq, Nat.add_zero, Nat.zero_add, beq_self_eq_true, List.length_map, hd, h0, hb', he, rcheck_call, hok, wrap_succ (show i < 2 ^ 63 - 1 by omega)]
      exact ih' _ _ _ _ _ _ _ _ _ _ _ _ _ _ _ _ _ _ _ (by omega)
    | false =>
      have he : erS b = 90 := by unfold erS; rw [hok]; rfl
      simp only [go_sem, Nat.reduceAdd, Nat.reduceSub, Nat.reduceMul, Nat.reduceDiv, Nat.reduceMod, Nat.reducePow, Nat.reduceLeDiff, Nat.reduceLT, Nat.reduceEqDiff, Nat.reduceBEq, Nat.reduceBNe, Int.reduceAdd, Int.reduceSub, Int.reduceMul, Int.reducePow, Int.reduceLE, Int.reduceLT, Int.reduceEq, Int.reduceToNat, Int.reduceNeg, reduceCtorEq, Nat.add_zero, Nat.zero_add, beq_self_eq_true, List.length_map, hd, h0, hb', he, rcheck_call, hok]
      exact ⟨_, _, _, _, _, _, _, _, _, _, _, _, _, _, _, _, _, _, _, _, _, _, rfl⟩

theorem rcheckList_call (cl : Bool) (l : List Entry) (hlen : l.length < 2 ^ 63) (ro : Nat) (H : Heap) (nx : Nat) : callT env 83 [.lit cl 3 (l.map Entry.enc)] ro H nx = some (.ret (.int .i64 (chkS l)), .ups []) := by
  have : ∃ H', runT env 83 [.lit cl 3 (l.map Entry.enc)] [] 0 = some (.ret (.int .i64 (chkS l)), H') := by
    rw [run_unfold fn83 rfl]
    unfold chkS
    by_cases h : 512 < l.length
    · have hd : decide (512 < (l.length : Int)) = true := by simp; omega
      simp only [go_sem, Nat.reduceAdd, Nat.reduceSub, Nat.reduceMul, Nat.reduceDiv, Nat.reduceMod, Nat.reducePow, Nat.reduceLeDiff, Nat.reduceLT, Nat.reduceEqDiff, Nat.reduceBEq, Nat.reduceBNe, Int.reduceAdd, Int.reduceSub, Int.reduceMul, Int.reducePow, Int.reduceLE, Int.reduceLT, Int.reduceEq, Int.reduceToNat, Int.reduceNeg, reduceCtorEq, Nat.add_zero, Nat.zero_add, beq_self_eq_true, Try.f83, List.length_map, hd, h, unwind, modeEx, resultsOf, one]
      exact ⟨_, rfl⟩
    · have hd : decide (512 < (l.length : Int)) = false := by simp; omega
      obtain ⟨e, s, hx, hp⟩ := rcheckList_loop cl l hlen l.length 0 _ _ _ _ _ _ _ _ _ _ _ _ _ _ _ _ _ _ _ (by omega)
      rw [List.drop_zero] at hp
      simp only [go_sem, Nat.reduceAdd, Nat.reduceSub, Nat.reduceMul, Nat.reduceDiv, Nat.reduceMod, Nat.reducePow, Nat.reduceLeDiff, Nat.reduceLT, Nat.reduceEqDiff, Nat.reduceBEq, Nat.reduceBNe, Int.reduceAdd, Int.reduceSub, Int.reduceMul, Int.reducePow, Int.reduceLE, Int.reduceLT, Int.reduceEq, Int.reduceToNat, Int.reduceNeg, reduceCtorEq, Nat.add_zero, Nat.zero_add, beq_self_eq_true, Try.f83, Int.ofNat_zero, Int.natCast_zero] at hx
      simp only [go_sem, Nat.reduceAdd, Nat.reduceSub, Nat.reduceMul, Nat.reduceDiv, Nat.reduceMod, Nat.reducePow, Nat.reduceLeDiff, Nat.reduceLT, Nat.reduceEqDiff, Nat.reduceBEq, Nat.reduceBNe, Int.reduceAdd, Int.reduceSub, Int.reduceMul, Int.reducePow, Int.reduceLE, Int.reduceLT, Int.reduceEq, Int.reduceToNat, Int.reduceNeg, reduceCtorEq, Nat.add_zero, Nat.zero_add, beq_self_eq_true, Try.f83, List.length_map, hd, h]
      rw [hx]
      cases ha : l.all Entry.ok with
      | true =>
        rw [ha] at hp
        obtain ⟨rfl, j0, j1, j2, j3, j4, j5, j6, j7, j8, j9, j10, j11, j12, j13, j14, j15, j16, j17, j18, j19, j20, j21, rfl⟩ := hp
        simp only [go_sem, Nat.reduceAdd, Nat.reduceSub, Nat.reduceMul, Nat.reduceDiv, Nat.reduceMod, Nat.reducePow, Nat.reduceLeDiff, Nat.reduceLT, Nat.reduceEqDiff, Nat.reduceBEq, Nat.reduceBNe, Int.reduceAdd, Int.reduceSub, Int.reduceMul, Int.reducePow, Int.reduceLE, Int.reduceLT, Int.reduceEq, Int.reduceToNat, Int.reduceNeg, reduceCtorEq, Nat.add_zero, Nat.zero_add, beq_self_eq_true, unwind, modeEx, resultsOf, one]
        exact ⟨_, rfl⟩
      | false =>
        rw [ha] at hp
        obtain ⟨rfl, j0, j1, j3, j4, j5, j6, j7, j8, j9, j10, j11, j12, j13, j14, j15, j16, j17, j18, j19, j20, j21, H', rfl⟩ := hp
        simp only [go_sem, Nat.reduceAdd, Nat.reduceSub, Nat.reduceMul, Nat.reduceDiv, Nat.reduceMod, Nat.reducePow, Nat.reduceLeDiff, Nat.reduceLT, Nat.reduceEqDiff, Nat.reduceBEq, Nat.reduceBNe, Int.reduceAdd, Int.reduceSub, Int.reduceMul, Int.reducePow, Int.reduceLE, Int.reduceLT, Int.reduceEq, Int.reduceToNat, Int.reduceNeg, reduceCtorEq, Nat.add_zero, Nat.zero_add, beq_self_eq_true, unwind, modeEx, resultsOf, one]
        exact ⟨_, rfl⟩
  obtain ⟨H', h⟩ := this
  exact call_pure rfl rfl rfl rfl h rfl ro H nx

theorem chk_zero {l : List Entry} (h : chkS l = 0) : l.length ≤ 512 ∧ l.all Entry.ok = true := by
  unfold chkS at h
  split at h
  · omega
  · split at h
    · exact ⟨by omega, by assumption⟩
    · omega
end Go.Proofs.Ytamcncpgfhfheaa.Tidy

/-
  Trees: roots and leaves told; which lists are few.
-/
namespace Go.Proofs.Ytamcncpgfhfheaa.Tidy
open Go Go.IntWalk
set_option maxRecDepth 10000
set_option linter.unusedSimpArgs false

def leafT (e : Entry) : AVal := .tuple [.int .u64 (if e.ok then leafI e else 0), .int .i64 (erS e)]
def rootT (l : List Entry) : AVal := .tuple [.int .u64 (if chkS l = 0 then rootI l else 0), .int .i64 (chkS l)]

theorem noRef_leafT (e : Entry) : noRef (leafT e) = true := rfl
theorem noRef_rootT (l : List Entry) : noRef (rootT l) = true := rfl

theorem leafT_call (e : Entry) (ro : Nat) (H : Heap) (nx : Nat) : callT env 16 [e.enc] ro H nx = some (.ret (leafT e), .ups []) := by
  have : ∃ H', runT env 16 [e.enc] [] 0 = some (.ret (leafT e), H') := by
    rw [run_unfold fn16 rfl]
    unfold leafT
    cases h : e.ok with
    | true =>
      have he : erS e = 0 := by unfold erS; rw [h]; rfl
      simp only [go_sem, Nat.reduceAdd, Nat.reduceSub, Nat.reduceMul, Nat.reduceDiv, Nat.reduceMod, Nat.reducePow, Nat.reduceLeDiff, Nat.reduceLT, Nat.reduceEqDiff, Nat.reduceBEq, Nat.reduceBNe, Int.reduceAdd, Int.reduceSub, Int.reduceMul, Int.reducePow, Int.reduceLE, Int.reduceLT, Int.reduceEq, Int.reduceToNat, Int.reduceNeg, reduceCtorEq, Nat.add_zero, Nat.zero_add, beq_self_eq_true, Try.f16, check_call, he, leaf_call e (by have := ok_small h; omega), unwind, modeEx, resultsOf, one]
      exact ⟨_, rfl⟩
    | false =>
      have he : erS e = 90 := by unfold erS; rw [h]; rfl
      simp only [go_sem, Nat.reduceAdd, Nat.reduceSub, Nat.reduceMul, Nat.reduceDiv, Nat.reduceMod, Nat.reducePow, Nat.reduceLeDiff, Nat.reduceLT, Nat.reduceEqDiff, Nat.reduceBEq, Nat.reduceBNe, Int.reduceAdd, Int.reduceSub, Int.reduceMul, Int.reducePow, Int.reduceLE, Int.reduceLT, Int.reduceEq, Int.reduceToNat, Int.reduceNeg, reduceCtorEq, Nat.add_zero, Nat.zero_add, beq_self_eq_true, Try.f16, check_call, he, unwind, modeEx, resultsOf, one]
      exact ⟨_, rfl⟩
  obtain ⟨H', h⟩ := this
  exact call_pure rfl rfl rfl rfl h (noRef_leafT e) ro H nx

theorem rleafT_call (e : Entry) (ro : Nat) (H : Heap) (nx : Nat) : callT env 17 [e.enc] ro H nx = some (.ret (leafT e), .ups []) := by
  have : ∃ H', runT env 17 [e.enc] [] 0 = some (.ret (leafT e), H') := by
    rw [run_unfold fn17 rfl]
    unfold leafT
    cases h : e.ok with
    | true =>
      have hb := ok_small h
      have he : erS e = 0 := by unfold erS; rw [h]; rfl
      simp only [go_sem, Nat.reduceAdd, Nat.reduceSub, Nat.reduceMul, Nat.reduceDiv, Nat.reduceMod, Nat.reducePow, Nat.reduceLeDiff, Nat.reduceLT, Nat.reduceEqDiff, Nat.reduceBEq, Nat.reduceBNe, Int.reduceAdd, Int.reduceSub, Int.reduceMul, Int.reducePow, Int.reduceLE, Int.reduceLT, Int.reduceEq, Int.reduceToNat, Int.reduceNeg, reduceCtorEq, Nat.add_zero, Nat.zero_add, beq_self_eq_true, Try.f17, rcheck_call, he, rleaf_call e (by omega), leaf_eq e (by omega), unwind, modeEx, resultsOf, one]
      exact ⟨_, rfl⟩
    | false =>
      have he : erS e = 90 := by unfold erS; rw [h]; rfl
      simp only [go_sem, Nat.reduceAdd, Nat.reduceSub, Nat.reduceMul, Nat.reduceDiv, Nat.reduceMod, Nat.reducePow, Nat.reduceLeDiff, Nat.reduceLT, Nat.reduceEqDiff, Nat.reduceBEq, Nat.reduceBNe, Int.reduceAdd, Int.reduceSub, Int.reduceMul, Int.reducePow, Int.reduceLE, Int.reduceLT, Int.reduceEq, Int.reduceToNat, Int.reduceNeg, reduceCtorEq, Nat.add_zero, Nat.zero_add, beq_self_eq_true, Try.f17, rcheck_call, he, unwind, modeEx, resultsOf, one]
      exact ⟨_, rfl⟩
  obtain ⟨H', h⟩ := this
  exact call_pure rfl rfl rfl rfl h (noRef_leafT e) ro H nx

theorem rootT_call (cl : Bool) (l : List Entry) (hlen : l.length < 2 ^ 63) (ro : Nat) (H : Heap) (nx : Nat) : callT env 18 [.lit cl 3 (l.map Entry.enc)] ro H nx = some (.ret (rootT l), .ups []) := by
  have : ∃ H', runT env 18 [.lit cl 3 (l.map Entry.enc)] [] 0 = some (.ret (rootT l), H') := by
    rw [run_unfold fn18 rfl]
    unfold rootT
    by_cases h : chkS l = 0
    · obtain ⟨h1, h2⟩ := chk_zero h
      simp only [go_sem, Nat.reduceAdd, Nat.reduceSub, Nat.reduceMul, Nat.reduceDiv, Nat.reduceMod, Nat.reducePow, Nat.reduceLeDiff, Nat.reduceLT, Nat.reduceEqDiff, Nat.reduceBEq, Nat.reduceBNe, Int.reduceAdd, Int.reduceSub, Int.reduceMul, Int.reducePow, Int.reduceLE, Int.reduceLT, Int.reduceEq, Int.reduceToNat, Int.reduceNeg, reduceCtorEq, Nat.add_zero, Nat.zero_add, beq_self_eq_true, Try.f18, checkList_call cl l hlen, h, root_call cl l h1 (all_small h2), unwind, modeEx, resultsOf, one]
      exact ⟨_, rfl⟩
    · have hd : decide (chkS l = 0) = false := by simpa using h
      simp only [go_sem, Nat.reduceAdd, Nat.reduceSub, Nat.reduceMul, Nat.reduceDiv, Nat.reduceMod, Nat.reducePow, Nat.reduceLeDiff, Nat.reduceLT, Nat.reduceEqDiff, Nat.reduceBEq, Nat.reduceBNe, Int.reduceAdd, Int.reduceSub, Int.reduceMul, Int.reducePow, Int.reduceLE, Int.reduceLT, Int.reduceEq, Int.reduceToNat, Int.reduceNeg, reduceCtorEq, Nat.add_zero, Nat.zero_add, beq_self_eq_true, Try.f18, checkList_call cl l hlen, hd, h, unwind, modeEx, resultsOf, one]
      exact ⟨_, rfl⟩
  obtain ⟨H', h⟩ := this
  exact call_pure rfl rfl rfl rfl h (noRef_rootT l) ro H nx

theorem rrootT_call (cl : Bool) (l : List Entry) (hlen : l.length < 2 ^ 63) (ro : Nat) (H : Heap) (nx : Nat) : callT env 19 [.lit cl 3 (l.map Entry.enc)] ro H nx = some (.ret (rootT l), .ups []) := by
  have : ∃ H', runT env 19 [.lit cl 3 (l.map Entry.enc)] [] 0 = some (.ret (rootT l), H') := by
    rw [run_unfold fn19 rfl]
    unfold rootT
    by_cases h : chkS l = 0
    · obtain ⟨h1, h2⟩ := chk_zero h
      simp only [go_sem, Nat.reduceAdd, Nat.reduceSub, Nat.reduceMul, Nat.reduceDiv, Nat.reduceMod, Nat.reducePow, Nat.reduceLeDiff, Nat.reduceLT, Nat.reduceEqDiff, Nat.reduceBEq, Nat.reduceBNe, Int.reduceAdd, Int.reduceSub, Int.reduceMul, Int.reducePow, Int.reduceLE, Int.reduceLT, Int.reduceEq, Int.reduceToNat, Int.reduceNeg, reduceCtorEq, Nat.add_zero, Nat.zero_add, beq_self_eq_true, Try.f19, rcheckList_call cl l hlen, h, rroot_call cl l h1 (all_small h2), root_same l (all_small h2), unwind, modeEx, resultsOf, one]
      exact ⟨_, rfl⟩
    · have hd : decide (chkS l = 0) = false := by simpa using h
      simp only [go_sem, Nat.reduceAdd, Nat.reduceSub, Nat.reduceMul, Nat.reduceDiv, Nat.reduceMod, Nat.reducePow, Nat.reduceLeDiff, Nat.reduceLT, Nat.reduceEqDiff, Nat.reduceBEq, Nat.reduceBNe, Int.reduceAdd, Int.reduceSub, Int.reduceMul, Int.reducePow, Int.reduceLE, Int.reduceLT, Int.reduceEq, Int.reduceToNat, Int.reduceNeg, reduceCtorEq, Nat.add_zero, Nat.zero_add, beq_self_eq_true, Try.f19, rcheckList_call cl l hlen, hd, h, unwind, modeEx, resultsOf, one]
      exact ⟨_, rfl⟩
  obtain ⟨H', h⟩ := this
  exact call_pure rfl rfl rfl rfl h (noRef_rootT l) ro H nx

def Entry.big (e : Entry) : Bool := decide (2500 < (e.body.length : Int))

@[go_sem] theorem big_call (e : Entry) (ro : Nat) (H : Heap) (nx : Nat) : callT env 78 [e.enc] ro H nx = some (.ret (.bool e.big), .ups []) := by
  have : ∃ H', runT env 78 [e.enc] [] 0 = some (.ret (.bool e.big), H') := by
    rw [run_unfold fn78 rfl]
    simp only [go_sem, Nat.reduceAdd, Nat.reduceSub, Nat.reduceMul, Nat.reduceDiv, Nat.reduceMod, Nat.reducePow, Nat.reduceLeDiff, Nat.reduceLT, Nat.reduceEqDiff, Nat.reduceBEq, Nat.reduceBNe, Int.reduceAdd, Int.reduceSub, Int.reduceMul, Int.reducePow, Int.reduceLE, Int.reduceLT, Int.reduceEq, Int.reduceToNat, Int.reduceNeg, reduceCtorEq, Nat.add_zero, Nat.zero_add, beq_self_eq_true, Try.f78, unwind, modeEx, resultsOf, one]
    exact ⟨_, rfl⟩
  obtain ⟨H', h⟩ := this
  exact call_pure rfl rfl rfl rfl h rfl ro H nx

theorem index_loop (cl : Bool) (l : List Entry) (hlen : l.length < 2 ^ 63) : ∀ (n i : Nat) (j2 j3 j4 j5 j9 j10 j11 j12 j13 j14 j15 j16 j17 j18 : AVal), i + n = l.length →
    Goes (execT env (Try.f119.at [1, 0, 1, 0]) ⟨[.lit cl 3 (l.map Entry.enc), .func 78 [] [], j2, j3, j4, j5, .lit cl 3 (l.map Entry.enc), .int .i64 l.length, .int .i64 i, j9, j10, j11, j12, j13, j14, j15, j16, j17, j18], [], [], 0, []⟩) fun e s =>
      if (l.drop i).any Entry.big then e = .ret ∧ ∃ j0 j1 j2 j3 j5 j6 j7 j8 j9 j10 j11 j12 j13 j14 j15 j16 j17 j18, ∃ k : Nat, s = ⟨[j0, j1, j2, j3, .int .i64 k, j5, j6, j7, j8, j9, j10, j11, j12, j13, j14, j15, j16, j17, j18], [], [], 0, []⟩ else e = .exit 0 ∧ ∃ j0 j1 j2 j3 j4 j5 j6 j7 j8 j9 j10 j11 j12 j13 j14 j15 j16 j17 j18, s = ⟨[j0, j1, j2, j3, j4, j5, j6, j7, j8, j9, j10, j11, j12, j13, j14, j15, j16, j17, j18], [], [], 0, []⟩ := by
  intro n
  induction n with
  | zero =>
    intro i j2 j3 j4 j5 j9 j10 j11 j12 j13 j14 j15 j16 j17 j18 hi
    have hd : decide ((i : Int) < (l.length : Int)) = false := by simp; omega
    have hdr : l.drop i = [] := List.drop_eq_nil_of_le (by omega)
    simp only [go_sem, Nat.reduceAdd, Nat.reduceSub, Nat.reduceMul, Nat.reduceDiv, Nat.reduceMod, Nat.reducePow, Nat.reduceLeDiff, Nat.reduceLT, Nat.reduceEqDiff, Nat.reduceBEq, Nat.reduceBNe, Int.reduceAdd, Int.reduceSub, Int.reduceMul, Int.reducePow, Int.reduceLE, Int.reduceLT, Int.reduceEq, Int.reduceToNat, Int.reduceNeg, reduceCtorEq, Nat.add_zero, Nat.zero_add, beq_self_eq_true, Try.f119]
    rw [execT_loop]
    simp only [go_sem, Nat.reduceAdd, Nat.reduceSub, Nat.reduceMul, Nat.reduceDiv, Nat.reduceMod, Nat.reducePow, Nat.reduceLeDiff, Nat.reduceLT, Nat.reduceEqDiff, Nat.reduceBEq, Nat.reduceBNe, Int.reduceAdd, Int.reduceSub, Int.reduceMul, Int.reducePow, Int.reduceLE, Int.reduceLT, Int.reduceEq, Int.reduceToNat, Int.reduceNeg, reduceCtorEq, Nat.add_zero, Nat.zero_add, beq_self_eq_true, hd, hdr, List.any_nil]
    exact ⟨_, _, _, _, _, _, _, _, _, _, _, _, _, _, _, _, _, _, _, rfl⟩
  | succ n ih =>
    intro i j2 j3 j4 j5 j9 j10 j11 j12 j13 j14 j15 j16 j17 j18 hi
    have hd : decide ((i : Int) < (l.length : Int)) = true := by simp; omega
    have h0 : (0 : Int) ≤ (i : Int) := by omega
    obtain ⟨b, hb, hdr⟩ := get_drop (show i < l.length by omega)
    have hb' : (l.map Entry.enc)[(i : Int).toNat]? = some b.enc := by simp [hb]
    have ih' := ih (i + 1)
    simp only [go_sem, Nat.reduceAdd, Nat.reduceSub, Nat.reduceMul, Nat.reduceDiv, Nat.reduceMod, Nat.reducePow, Nat.reduceLeDiff, Nat.reduceLT, Nat.reduceEqDiff, Nat.reduceBEq, Nat.reduceBNe, Int.reduceAdd, Int.reduceSub, Int.reduceMul, Int.reducePow, Int.reduceLE, Int.reduceLT, Int.reduceEq, Int.reduceToNat, Int.reduceNeg, reduceCtorEq, Nat.add_zero, Nat.zero_add, beq_self_eq_true, Try.f119] at ih' ⊢
    rw [execT_loop, hdr]
    cases hok : b.big with
    | false =>
      simp only [go_sem, Nat.reduceAdd, Nat.reduceSub, Nat.reduceMul, Nat.reduceDiv, Nat.reduceMod, Nat.reducePow, Nat.reduceLeDiff, Nat.reduceLT, Nat.reduceEqDiff, Nat.reduceBEq, Nat.reduceBNe, Int.reduceAdd, Int.reduceSub, Int.reduceMul, Int.reducePow, Int.reduceLE, Int.reduceLT, Int.reduceEq, Int.reduceToNat, Int.reduceNeg, reduceCtorEq, Nat.add_zero, Nat.zero_add, beq_self_eq_true, hd, h0, hb', hok, List.any_cons, wrap_succ (show i < 2 ^ 63 - 1 by omega)]
      exact ih' _ _ _ _ _ _ _ _ _ _ _ _ _ _ (by omega)
    | true =>
      simp only [go_sem, Nat.reduceAdd, Nat.reduceSub, Nat.reduceMul, Nat.reduceDiv, Nat.reduceMod, Nat.reducePow, Nat.reduceLeDiff, Nat.reduceLT, Nat.reduceEqDiff, Nat.reduceBEq, Nat.reduceBNe, Int.reduceAdd, Int.reduceSub, Int.reduceMul, Int.reducePow, Int.reduceLE, Int.reduceLT, Int.reduceEq, Int.reduceToNat, Int.reduceNeg, reduceCtorEq, Nat.add_zero, Nat.zero_add, beq_self_eq_true, hd, h0, hb', hok, List.any_cons]
      exact ⟨_, _, _, _, _, _, _, _, _, _, _, _, _, _, _, _, _, _, i, rfl⟩

theorem contains_call (cl : Bool) (l : List Entry) (hlen : l.length < 2 ^ 63) (ro : Nat) (H : Heap) (nx : Nat) : callT env 72 [.lit cl 3 (l.map Entry.enc), .func 78 [] []] ro H nx = some (.ret (.bool (l.any Entry.big)), .ups []) := by
  have hi : ∃ k : Int, (0 ≤ k ↔ l.any Entry.big = true) ∧ ∀ ro H nx, callT env 119 [.lit cl 3 (l.map Entry.enc), .func 78 [] []] ro H nx = some (.ret (.int .i64 k), .ups []) := by
    obtain ⟨e, s, hx, hp⟩ := index_loop cl l hlen l.length 0 _ _ _ _ _ _ _ _ _ _ _ _ _ _ (by omega)
    rw [List.drop_zero] at hp
    simp only [go_sem, Nat.reduceAdd, Nat.reduceSub, Nat.reduceMul, Nat.reduceDiv, Nat.reduceMod, Nat.reducePow, Nat.reduceLeDiff, Nat.reduceLT, Nat.reduceEqDiff, Nat.reduceBEq, Nat.reduceBNe, Int.reduceAdd, Int.reduceSub, Int.reduceMul, Int.reducePow, Int.reduceLE, Int.reduceLT, Int.reduceEq, Int.reduceToNat, Int.reduceNeg, reduceCtorEq, Nat.add_zero, Nat.zero_add, beq_self_eq_true, Try.f119, Int.ofNat_zero, Int.natCast_zero] at hx
    cases ha : l.any Entry.big with
    | true =>
      rw [ha] at hp
      obtain ⟨rfl, j0, j1, j2, j3, j5, j6, j7, j8, j9, j10, j11, j12, j13, j14, j15, j16, j17, j18, k, rfl⟩ := hp
      refine ⟨k, by simp, fun ro H nx => ?_⟩
      refine call_pure (H' := []) rfl rfl rfl rfl ?_ rfl ro H nx
      rw [run_unfold fn119 rfl]
      simp only [go_sem, Nat.reduceAdd, Nat.reduceSub, Nat.reduceMul, Nat.reduceDiv, Nat.reduceMod, Nat.reducePow, Nat.reduceLeDiff, Nat.reduceLT, Nat.reduceEqDiff, Nat.reduceBEq, Nat.reduceBNe, Int.reduceAdd, Int.reduceSub, Int.reduceMul, Int.reducePow, Int.reduceLE, Int.reduceLT, Int.reduceEq, Int.reduceToNat, Int.reduceNeg, reduceCtorEq, Nat.add_zero, Nat.zero_add, beq_self_eq_true, Try.f119, List.length_map]
      rw [hx]
      simp only [go_sem, Nat.reduceAdd, Nat.reduceSub, Nat.reduceMul, Nat.reduceDiv, Nat.reduceMod, Nat.reducePow, Nat.reduceLeDiff, Nat.reduceLT, Nat.reduceEqDiff, Nat.reduceBEq, Nat.reduceBNe, Int.reduceAdd, Int.reduceSub, Int.reduceMul, Int.reducePow, Int.reduceLE, Int.reduceLT, Int.reduceEq, Int.reduceToNat, Int.reduceNeg, reduceCtorEq, Nat.add_zero, Nat.zero_add, beq_self_eq_true, unwind, modeEx, resultsOf, one]
    | false =>
      rw [ha] at hp
      obtain ⟨rfl, j0, j1, j2, j3, j4, j5, j6, j7, j8, j9, j10, j11, j12, j13, j14, j15, j16, j17, j18, rfl⟩ := hp
      refine ⟨-1, by simp, fun ro H nx => ?_⟩
      refine call_pure (H' := []) rfl rfl rfl rfl ?_ rfl ro H nx
      rw [run_unfold fn119 rfl]
      simp only [go_sem, Nat.reduceAdd, Nat.reduceSub, Nat.reduceMul, Nat.reduceDiv, Nat.reduceMod, Nat.reducePow, Nat.reduceLeDiff, Nat.reduceLT, Nat.reduceEqDiff, Nat.reduceBEq, Nat.reduceBNe, Int.reduceAdd, Int.reduceSub, Int.reduceMul, Int.reducePow, Int.reduceLE, Int.reduceLT, Int.reduceEq, Int.reduceToNat, Int.reduceNeg, reduceCtorEq, Nat.add_zero, Nat.zero_add, beq_self_eq_true, Try.f119, List.length_map]
      rw [hx]
      simp only [go_sem, Nat.reduceAdd, Nat.reduceSub, Nat.reduceMul, Nat.reduceDiv, Nat.reduceMod, Nat.reducePow, Nat.reduceLeDiff, Nat.reduceLT, Nat.reduceEqDiff, Nat.reduceBEq, Nat.reduceBNe, Int.reduceAdd, Int.reduceSub, Int.reduceMul, Int.reducePow, Int.reduceLE, Int.reduceLT, Int.reduceEq, Int.reduceToNat, Int.reduceNeg, reduceCtorEq, Nat.add_zero, Nat.zero_add, beq_self_eq_true, unwind, modeEx, resultsOf, one]
  obtain ⟨k, hk, hc⟩ := hi
  refine call_pure (H' := []) rfl rfl rfl rfl ?_ rfl ro H nx
  have hd : decide (0 ≤ k) = l.any Entry.big := by rw [Bool.eq_iff_iff]; simpa using hk
  rw [run_unfold fn72 rfl]
  simp only [go_sem, Nat.reduceAdd, Nat.reduceSub, Nat.reduceMul, Nat.reduceDiv, Nat.reduceMod, Nat.reducePow, Nat.reduceLeDiff, Nat.reduceLT, Nat.reduceEqDiff, Nat.reduceBEq, Nat.reduceBNe, Int.reduceAdd, Int.reduceSub, Int.reduceMul, Int.reducePow, Int.reduceLE, Int.reduceLT, Int.reduceEq, Int.reduceToNat, Int.reduceNeg, reduceCtorEq, Nat.add_zero, Nat.zero_add, beq_self_eq_true, Try.f72, hc, hd, unwind, modeEx, resultsOf, one]

def fewS (l : List Entry) : Bool := (decide ((l.length : Int) ≤ 40) || (decide (512 < (l.length : Int)) && decide ((l.length : Int) ≤ 520))) && !l.any Entry.big

theorem few_call (cl : Bool) (l : List Entry) (hlen : l.length < 2 ^ 63) (ro : Nat) (H : Heap) (nx : Nat) : callT env 15 [.lit cl 3 (l.map Entry.enc)] ro H nx = some (.ret (.bool (fewS l)), .ups []) := by
  refine call_pure (H' := []) rfl rfl rfl rfl ?_ rfl ro H nx
  rw [run_unfold fn15 rfl]
  unfold fewS
  cases h1 : decide ((l.length : Int) ≤ 40) with
  | true => simp only [go_sem, Nat.reduceAdd, Nat.reduceSub, Nat.reduceMul, Nat.reduceDiv, Nat.reduceMod, Nat.reducePow, Nat.reduceLeDiff, Nat.reduceLT, Nat.reduceEqDiff, Nat.reduceBEq, Nat.reduceBNe, Int.reduceAdd, Int.reduceSub, Int.reduceMul, Int.reducePow, Int.reduceLE, Int.reduceLT, Int.reduceEq, Int.reduceToNat, Int.reduceNeg, reduceCtorEq, Nat.add_zero, Nat.zero_add, beq_self_eq_true, Try.f15, List.length_map, h1, contains_call cl l hlen, unwind, modeEx, resultsOf, one]
  | false =>
    cases h2 : decide (512 < (l.length : Int)) with
    | false => simp only [go_sem, Nat.reduceAdd, Nat.reduceSub, Nat.reduceMul, Nat.reduceDiv, Nat.reduceMod, Nat.reducePow, Nat.reduceLeDiff, Nat.reduceLT, Nat.reduceEqDiff, Nat.reduceBEq, Nat.reduceBNe, Int.reduceAdd, Int.reduceSub, Int.reduceMul, Int.reducePow, Int.reduceLE, Int.reduceLT, Int.reduceEq, Int.reduceToNat, Int.reduceNeg, reduceCtorEq, Nat.add_zero, Nat.zero_add, beq_self_eq_true, Try.f15, List.length_map, h1, h2, unwind, modeEx, resultsOf, one]
    | true =>
      cases h3 : decide ((l.length : Int) ≤ 520) with
      | false => simp only [go_sem, Nat.reduceAdd, Nat.reduceSub, Nat.reduceMul, Nat.reduceDiv, Nat.reduceMod, Nat.reducePow, Nat.reduceLeDiff, Nat.reduceLT, Nat.reduceEqDiff, Nat.reduceBEq, Nat.reduceBNe, Int.reduceAdd, Int.reduceSub, Int.reduceMul, Int.reducePow, Int.reduceLE, Int.reduceLT, Int.reduceEq, Int.reduceToNat, Int.reduceNeg, reduceCtorEq, Nat.add_zero, Nat.zero_add, beq_self_eq_true, Try.f15, List.length_map, h1, h2, h3, unwind, modeEx, resultsOf, one]
      | true => simp only [go_sem, Nat.reduceAdd, Nat.reduceSub, Nat.reduceMul, Nat.reduceDiv, Nat.reduceMod, Nat.reducePow, Nat.reduceLeDiff, Nat.reduceLT, Nat.reduceEqDiff, Nat.reduceBEq, Nat.reduceBNe, Int.reduceAdd, Int.reduceSub, Int.reduceMul, Int.reducePow, Int.reduceLE, Int.reduceLT, Int.reduceEq, Int.reduceToNat, Int.reduceNeg, reduceCtorEq, Nat.add_zero, Nat.zero_add, beq_self_eq_true, Try.f15, List.length_map, h1, h2, h3, contains_call cl l hlen, unwind, modeEx, resultsOf, one]

end Go.Proofs.Ytamcncpgfhfheaa.Tidy

/-
  A disk: reading and writing a sector.
-/
namespace Go.Proofs.Ytamcncpgfhfheaa.Tidy
open Go Go.IntWalk
set_option maxRecDepth 10000
set_option linter.unusedSimpArgs false

theorem cellsB_length (s : Sec) : (cellsB s).length = s.length := by simp [cellsB]
theorem toBytes_cells : ∀ s : Sec, toBytes (cellsB s) = some s
  | [] => rfl
  | b :: s => by
    have := toBytes_cells s
    simp only [cellsB, List.map_cons, toBytes] at this ⊢
    rw [this]
    simp
@[go_sem] theorem cellsOf_sec (s : Sec) : (secV s).cellsOf = cellsB s := rfl
@[go_sem] theorem isTuple_sec (s : Sec) : (secV s).isTuple = false := rfl
theorem under_cellsB (s : Sec) (m : Nat) : underL m (cellsB s) = true := by
  induction s with
  | nil => rfl
  | cons b s ih => simpa [cellsB, underL, AVal.under] using ih
theorem noRef_sec (s : Sec) : noRef (secV s) = true := by simp [noRef, secV, AVal.under, under_cellsB]
theorem noRef_wr (w : Nat × Sec) : noRef (wrV w) = true := by simp [noRef, wrV, AVal.under, underL, under_cellsB]

theorem putList_all : ∀ (vs l : List AVal), l.length = vs.length → putList l 0 vs = vs := by
  intro vs l h
  have := putList_append [] vs l (by omega)
  simp only [List.nil_append, List.length_nil] at this
  rw [this, List.drop_eq_nil_of_le (by omega), List.append_nil]

def readD (d : DiskS) (pos : Int) : Sec × Int := if checkD d pos = 0 then (d.now.getD pos.toNat [], 0) else ([], checkD d pos)

theorem checkD_zero {d : DiskS} {pos : Int} (h : checkD d pos = 0) : d.down = false ∧ 0 ≤ pos ∧ pos < d.now.length := by
  unfold checkD at h
  split at h
  · cases h
  · split at h
    · cases h
    · rename_i h1 h2
      exact ⟨by simpa using h1, by omega⟩

theorem read_can (d : DiskS) (hn : ∀ s ∈ d.now, s.length = 64) (pos : Int) : ∀ C, IsCan C d → ∃ H', runT env 40 [.ptr 0 0 0 0, .int .i64 pos] C C.length = some (.ret (.tuple [.str (readD d pos).1, .int .i64 (readD d pos).2]), H') := by
  intro C h
  have hck := fun ro nx => can_look (f := 98) (args := [.int .i64 pos]) (d := d) rfl rfl rfl rfl rfl rfl rfl (check_can d pos) h ro nx
  rw [run_unfold fn40 rfl]
  unfold readD
  by_cases h0 : checkD d pos = 0
  · have d0 : decide (checkD d pos = 0) = true := by simpa using h0
    rw [if_pos h0]
    obtain ⟨hdn, hp0, hpl⟩ := checkD_zero h0
    obtain ⟨q, rfl⟩ : ∃ q : Nat, pos = q := ⟨pos.toNat, by omega⟩
    have hq : q < d.now.length := by omega
    obtain ⟨s, hs, _⟩ := get_drop hq
    have hsl := hn s (List.mem_of_getElem? hs)
    have hgd : d.now.getD q [] = s := by rw [List.getD_eq_getElem?_getD, hs]; rfl
    have dl : decide ((q : Int) < (d.now.length : Int)) = true := by simp only [decide_eq_true_eq]; omega
    have g0 : (0 : Int) ≤ (q : Int) := by omega
    have hgm : (d.now.map secV)[q]? = some (.agg (cellsB s)) := get_map hs
    have hcl : (cellsB s).length = 64 := by rw [cellsB_length]; exact hsl
    have htk : List.take 64 (cellsB s) = cellsB s := List.take_of_length_le (by omega)
    rcases h with ⟨hw, ga, gb, rfl⟩ | ⟨hw, ga, gb, gc, rfl⟩
    · simp only [canD, diskB] at hck
      simp only [go_sem, Nat.reduceAdd, Nat.reduceSub, Nat.reduceMul, Nat.reduceDiv, Nat.reduceMod, Nat.reducePow, Nat.reduceLeDiff, Nat.reduceLT, Nat.reduceEqDiff, Nat.reduceBEq, Nat.reduceBNe, Int.reduceAdd, Int.reduceSub, Int.reduceMul, Int.reducePow, Int.reduceLE, Int.reduceLT, Int.reduceEq, Int.reduceToNat, Int.reduceNeg, reduceCtorEq, Nat.add_zero, Nat.zero_add, beq_self_eq_true, Try.f40, canD, diskB, hck, d0, dl, g0, Int.toNat_natCast, hgd, List.length_cons, List.length_nil, sliceOp, hgm, hcl, htk, toBytes_cells, unwind, modeEx, resultsOf, one]
      exact ⟨_, rfl⟩
    · simp only [canW, diskB] at hck
      simp only [go_sem, Nat.reduceAdd, Nat.reduceSub, Nat.reduceMul, Nat.reduceDiv, Nat.reduceMod, Nat.reducePow, Nat.reduceLeDiff, Nat.reduceLT, Nat.reduceEqDiff, Nat.reduceBEq, Nat.reduceBNe, Int.reduceAdd, Int.reduceSub, Int.reduceMul, Int.reducePow, Int.reduceLE, Int.reduceLT, Int.reduceEq, Int.reduceToNat, Int.reduceNeg, reduceCtorEq, Nat.add_zero, Nat.zero_add, beq_self_eq_true, Try.f40, canW, diskB, hck, d0, dl, g0, Int.toNat_natCast, hgd, List.length_cons, List.length_nil, sliceOp, hgm, hcl, htk, toBytes_cells, unwind, modeEx, resultsOf, one]
      exact ⟨_, rfl⟩
  · have d0 : decide (checkD d pos = 0) = false := by simpa using h0
    rw [if_neg h0]
    rcases h with ⟨hw, ga, gb, rfl⟩ | ⟨hw, ga, gb, gc, rfl⟩
    · simp only [canD, diskB] at hck
      simp only [go_sem, Nat.reduceAdd, Nat.reduceSub, Nat.reduceMul, Nat.reduceDiv, Nat.reduceMod, Nat.reducePow, Nat.reduceLeDiff, Nat.reduceLT, Nat.reduceEqDiff, Nat.reduceBEq, Nat.reduceBNe, Int.reduceAdd, Int.reduceSub, Int.reduceMul, Int.reducePow, Int.reduceLE, Int.reduceLT, Int.reduceEq, Int.reduceToNat, Int.reduceNeg, reduceCtorEq, Nat.add_zero, Nat.zero_add, beq_self_eq_true, Try.f40, canD, diskB, hck, d0, unwind, modeEx, resultsOf, one]
      exact ⟨_, rfl⟩
    · simp only [canW, diskB] at hck
      simp only [go_sem, Nat.reduceAdd, Nat.reduceSub, Nat.reduceMul, Nat.reduceDiv, Nat.reduceMod, Nat.reducePow, Nat.reduceLeDiff, Nat.reduceLT, Nat.reduceEqDiff, Nat.reduceBEq, Nat.reduceBNe, Int.reduceAdd, Int.reduceSub, Int.reduceMul, Int.reducePow, Int.reduceLE, Int.reduceLT, Int.reduceEq, Int.reduceToNat, Int.reduceNeg, reduceCtorEq, Nat.add_zero, Nat.zero_add, beq_self_eq_true, Try.f40, canW, diskB, hck, d0, unwind, modeEx, resultsOf, one]
      exact ⟨_, rfl⟩

theorem build138 (n : Nat) (s : Sec) (hs : s.length = 64) {ti : TI} (ht : env.ti 138 = some ti) : build env ti [(0, .int .i64 n), (1, secV s)] = some (wrV (n, s)) := by
  rw [ti138] at ht
  cases ht
  have hcl : (cellsB s).length = 64 := by rw [cellsB_length]; exact hs
  have hb : ∀ z : List AVal, z.length = 65 → putList (z.set 0 (.int .i64 n)) 1 (cellsB s) = .int .i64 n :: cellsB s := by
    intro z hz
    cases z with
    | nil => simp at hz
    | cons y z =>
      have := putList_append [AVal.int .i64 n] (cellsB s) z (by simp at hz; omega)
      simp only [List.length_singleton, List.singleton_append] at this
      simp only [List.set_cons_zero]
      rw [this, List.drop_eq_nil_of_le (by simp at hz; omega), List.append_nil]
  simp only [build]
  simp only [List.all_cons, List.all_nil, ti3, ti136, Option.isSome_some, Bool.and_true, if_true]
  simp only [fill, places, List.getElem?_cons_zero, List.getElem?_cons_succ, ti3, ti136, Option.map_some, cells_int, tup_int, List.length_cons, List.length_nil, Bool.not_false, decide_true, Bool.and_true, Bool.true_and, Nat.zero_add, cellsOf_sec, isTuple_sec, hcl]
  simp only [putList]
  rw [hb _ rfl]
  rfl

def wroteD (d : DiskS) (q : Nat) (s : Sec) : DiskS := { d with now := d.now.set q s, wr := d.wr ++ [(q, s)] }

def writeD (d : DiskS) (pos : Int) (s : Sec) : DiskS × Int :=
  if checkD d pos = 0 then (if s.length = 64 then ((failsD (wroteD d pos.toNat s)).1, if (failsD (wroteD d pos.toNat s)).2 then 91 else 0) else (d, 1)) else (d, checkD d pos)

theorem ti138' : ∃ te, env.ti 138 = some te ∧ te.sz = 65 ∧ te.bytes = 72 ∧ te.zero.cellsOf.length = 65 ∧ te.zero.isTuple = false := ⟨_, ti138, rfl, rfl, rfl, rfl⟩

theorem append127 {gc nx : Nat} {wr : List (Nat × Sec)} {w : Nat × Sec} {H : Heap} {id : Nat} (hne : wr ≠ []) (hl : wr.length ≤ 100000) (hH : H[id]? = some (.cells gc 65 true (wr.map wrV))) :
    appendOp env 0 nx 127 (.ref id gc 0 wr.length false) (.lit true 65 [wrV w]) H = some (.ref id (gc + 1) 0 (wr.length + 1) false, [(id, .cells (gc + 1) 65 true ((wr ++ [w]).map wrV))]) := by
  obtain ⟨te, ht, h1, h2, h3, h4⟩ := ti138'
  have hb : (wr.length + 1) * (te.bytes + 1) ≤ maxBytes := by rw [h2]; unfold maxBytes; omega
  have := append_ref (E := env) (ro := 0) (nx := nx) (H := H) (id := id) (g := gc) (fl := true) (x := .lit true 65 [wrV w]) (bs := wr.map wrV) (len := wr.length) (new := [wrV w]) ti127 ht rfl ⟨by omega, by omega, h4⟩ h1.symm (by simp) (by rw [h1]; exact hH) (by simp) (List.length_pos_iff.2 hne) (Nat.zero_le _) (by simpa using hb) (fun _ => by simp [noRef_wr])
  rw [h1] at this
  simpa using this

theorem append127n {nx : Nat} {w : Nat × Sec} {H : Heap} : appendOp env 0 nx 127 (.lit true 0 []) (.lit true 65 [wrV w]) H = some (.ref nx 0 0 1 false, [(nx, .cells 0 65 true [wrV w])]) := by
  obtain ⟨te, ht, h1, h2, h3, h4⟩ := ti138'
  have := append_lit (E := env) (ro := 0) (nx := nx) (H := H) (x := .lit true 65 [wrV w]) (sz := 0) (es := []) (new := [wrV w]) ti127 ht rfl ⟨by omega, by omega, h4⟩ h1.symm (by simp) (.inl rfl) (by simp [h2, maxBytes]) (fun _ => by simp [noRef_wr])
  rw [h1] at this
  simpa [newBlk, show flatTy env 8 138 = true from rfl] using this

@[go_sem] theorem under_wr (w : Nat × Sec) (m : Nat) : (wrV w).under m = true := by simp [wrV, AVal.under, underL, under_cellsB]
@[go_sem] theorem cellsOf_wr (w : Nat × Sec) : (wrV w).cellsOf = .int .i64 w.1 :: cellsB w.2 := rfl
@[go_sem] theorem isTuple_wr (w : Nat × Sec) : (wrV w).isTuple = false := rfl
theorem oneC_cellsB (s : Sec) : (cellsB s).all AVal.oneC = true := by simp [cellsB, AVal.oneC]
theorem noRef_cellsB (s : Sec) : (cellsB s).all noRef = true := by simp [cellsB, noRef, AVal.under]

set_option maxHeartbeats 1000000 in
theorem write_can (d : DiskS) (hn : ∀ s ∈ d.now, s.length = 64) (hwl : d.wr.length ≤ 100000) (pos : Int) (s : Sec) {C : Heap} (h : IsCan C d) : ∃ H', runT env 35 [.ptr 0 0 0 0, .int .i64 pos, .str s] C 0 = some (.ret (.int .i64 (writeD d pos s).2), H') ∧ IsCan H' (writeD d pos s).1 ∧ C.length ≤ H'.length := by
  have hck := fun ro nx => can_look (f := 98) (args := [.int .i64 pos]) (d := d) rfl rfl rfl rfl rfl rfl rfl (check_can d pos) h ro nx
  rw [run_unfold fn35 rfl]
  unfold writeD
  by_cases h0 : checkD d pos = 0
  · have d0 : decide (checkD d pos = 0) = true := by simpa using h0
    rw [if_pos h0]
    by_cases h64 : s.length = 64
    · have d64 : decide ((s.length : Int) = 64) = true := by simp only [decide_eq_true_eq]; omega
      rw [if_pos h64]
      obtain ⟨hdn, hp0, hpl⟩ := checkD_zero h0
      obtain ⟨q, rfl⟩ : ∃ q : Nat, pos = q := ⟨pos.toNat, by omega⟩
      rw [Int.toNat_natCast]
      have hq : q < d.now.length := by omega
      obtain ⟨s0, hs0, _⟩ := get_drop hq
      have hsl := hn s0 (List.mem_of_getElem? hs0)
      have dl : decide ((q : Int) < (d.now.length : Int)) = true := by simp only [decide_eq_true_eq]; omega
      have g0 : (0 : Int) ≤ (q : Int) := by omega
      have hgm : (d.now.map secV)[q]? = some (.agg (cellsB s0)) := get_map hs0
      have hcl0 : (cellsB s0).length = 64 := by rw [cellsB_length]; exact hsl
      have hcl : (cellsB s).length = 64 := by rw [cellsB_length]; exact h64
      have htk : List.take 64 (cellsB s) = cellsB s := List.take_of_length_le (by omega)
      have hcb : (List.map (fun b : UInt8 => AVal.int .u8 b.toNat) s) = cellsB s := rfl
      have hpa := putList_all (cellsB s) (cellsB s0) (by omega)
      have hset : (d.now.map secV).set q (.agg (cellsB s)) = (d.now.set q s).map secV := by rw [List.map_set]; rfl
      have hgm2 : ((d.now.set q s).map secV)[q]? = some (.agg (cellsB s)) := get_map (by rw [List.getElem?_set_self hq])
      have hbuild := build138 q s h64 ti138
      simp only [secV] at hbuild
      have ho := oneC_cellsB s
      have hr := noRef_cellsB s
      rcases h with ⟨hw, ga, gb, rfl⟩ | ⟨hw, ga, gb, gc, rfl⟩
      · simp only [canD, diskB] at hck
        simp only [go_sem, Nat.reduceAdd, Nat.reduceSub, Nat.reduceMul, Nat.reduceDiv, Nat.reduceMod, Nat.reducePow, Nat.reduceLeDiff, Nat.reduceLT, Nat.reduceEqDiff, Nat.reduceBEq, Nat.reduceBNe, Int.reduceAdd, Int.reduceSub, Int.reduceMul, Int.reducePow, Int.reduceLE, Int.reduceLT, Int.reduceEq, Int.reduceToNat, Int.reduceNeg, reduceCtorEq, Nat.add_zero, Nat.zero_add, beq_self_eq_true, Try.f35, canD, diskB, hck, d0, d64, dl, g0, Int.toNat_natCast, List.length_cons, List.length_nil, sliceOp, hgm, hcl0, hcl, htk, hcb, hpa, hset, hgm2, hbuild, ho, hr, append127n]
        have hC : IsCan (canW (wroteD d q s) ga gb 0) (wroteD d q s) := .inr ⟨by simp [wroteD], ga, gb, 0, rfl⟩
        obtain ⟨us, H', hc, hp, hd, hl⟩ := can_obj (f := 99) (args := []) rfl rfl rfl rfl rfl rfl hC (fails_can hC)
        simp only [canW, diskB, wroteD, hw, List.length_set, List.nil_append, List.length_cons, List.length_nil, List.map_cons, List.map_nil, Nat.reduceAdd, Nat.zero_add] at hc hp
        rw [apart_ok]
        · simp only [go_sem, Nat.reduceAdd, Nat.reduceSub, Nat.reduceMul, Nat.reduceDiv, Nat.reduceMod, Nat.reducePow, Nat.reduceLeDiff, Nat.reduceLT, Nat.reduceEqDiff, Nat.reduceBEq, Nat.reduceBNe, Int.reduceAdd, Int.reduceSub, Int.reduceMul, Int.reducePow, Int.reduceLE, Int.reduceLT, Int.reduceEq, Int.reduceToNat, Int.reduceNeg, reduceCtorEq, Nat.add_zero, Nat.zero_add, beq_self_eq_true, hc, hp]
          cases hf : (failsD (wroteD d q s)).2 with
          | true =>
            simp only [wroteD, hw, List.nil_append] at hf hd ⊢
            simp only [go_sem, Nat.reduceAdd, Nat.reduceSub, Nat.reduceMul, Nat.reduceDiv, Nat.reduceMod, Nat.reducePow, Nat.reduceLeDiff, Nat.reduceLT, Nat.reduceEqDiff, Nat.reduceBEq, Nat.reduceBNe, Int.reduceAdd, Int.reduceSub, Int.reduceMul, Int.reducePow, Int.reduceLE, Int.reduceLT, Int.reduceEq, Int.reduceToNat, Int.reduceNeg, reduceCtorEq, Nat.add_zero, Nat.zero_add, beq_self_eq_true, hf, unwind, modeEx, resultsOf, one]
            exact ⟨_, rfl, hd, Nat.le_trans (Nat.le_succ 3) hl⟩
          | false =>
            simp only [wroteD, hw, List.nil_append] at hf hd ⊢
            simp only [go_sem, Nat.reduceAdd, Nat.reduceSub, Nat.reduceMul, Nat.reduceDiv, Nat.reduceMod, Nat.reducePow, Nat.reduceLeDiff, Nat.reduceLT, Nat.reduceEqDiff, Nat.reduceBEq, Nat.reduceBNe, Int.reduceAdd, Int.reduceSub, Int.reduceMul, Int.reducePow, Int.reduceLE, Int.reduceLT, Int.reduceEq, Int.reduceToNat, Int.reduceNeg, reduceCtorEq, Nat.add_zero, Nat.zero_add, beq_self_eq_true, hf, unwind, modeEx, resultsOf, one]
            exact ⟨_, rfl, hd, Nat.le_trans (Nat.le_succ 3) hl⟩
        · kernel_rfl
      · simp only [canW, diskB] at hck
        have ha := fun nx => append127 (nx := nx) (w := (q, s)) (id := 3) (gc := gc) (H := [diskB d (.ref 1 ga 0 d.safe.length false) (.ref 2 gb 0 d.now.length false) (.ref 3 gc 0 d.wr.length false), .cells ga 64 true (d.safe.map secV), .cells gb 64 true ((d.now.set q s).map secV), .cells gc 65 true (d.wr.map wrV)]) hw hwl rfl
        simp only [diskB] at ha
        simp only [go_sem, Nat.reduceAdd, Nat.reduceSub, Nat.reduceMul, Nat.reduceDiv, Nat.reduceMod, Nat.reducePow, Nat.reduceLeDiff, Nat.reduceLT, Nat.reduceEqDiff, Nat.reduceBEq, Nat.reduceBNe, Int.reduceAdd, Int.reduceSub, Int.reduceMul, Int.reducePow, Int.reduceLE, Int.reduceLT, Int.reduceEq, Int.reduceToNat, Int.reduceNeg, reduceCtorEq, Nat.add_zero, Nat.zero_add, beq_self_eq_true, Try.f35, canW, diskB, hck, d0, d64, dl, g0, Int.toNat_natCast, List.length_cons, List.length_nil, sliceOp, hgm, hcl0, hcl, htk, hcb, hpa, hset, hgm2, hbuild, ho, hr, ha]
        have hC : IsCan (canW (wroteD d q s) ga gb (gc + 1)) (wroteD d q s) := .inr ⟨by simp [wroteD], ga, gb, gc + 1, rfl⟩
        obtain ⟨us, H', hc, hp, hd, hl⟩ := can_obj (f := 99) (args := []) rfl rfl rfl rfl rfl rfl hC (fails_can hC)
        simp only [canW, diskB, wroteD, List.length_set, List.length_append, List.length_cons, List.length_nil, List.map_cons, List.map_nil, Nat.reduceAdd, Nat.zero_add] at hc hp
        rw [apart_ok]
        · simp only [go_sem, Nat.reduceAdd, Nat.reduceSub, Nat.reduceMul, Nat.reduceDiv, Nat.reduceMod, Nat.reducePow, Nat.reduceLeDiff, Nat.reduceLT, Nat.reduceEqDiff, Nat.reduceBEq, Nat.reduceBNe, Int.reduceAdd, Int.reduceSub, Int.reduceMul, Int.reducePow, Int.reduceLE, Int.reduceLT, Int.reduceEq, Int.reduceToNat, Int.reduceNeg, reduceCtorEq, Nat.add_zero, Nat.zero_add, beq_self_eq_true, hc, hp]
          cases hf : (failsD (wroteD d q s)).2 with
          | true =>
            simp only [wroteD] at hf hd ⊢
            simp only [go_sem, Nat.reduceAdd, Nat.reduceSub, Nat.reduceMul, Nat.reduceDiv, Nat.reduceMod, Nat.reducePow, Nat.reduceLeDiff, Nat.reduceLT, Nat.reduceEqDiff, Nat.reduceBEq, Nat.reduceBNe, Int.reduceAdd, Int.reduceSub, Int.reduceMul, Int.reducePow, Int.reduceLE, Int.reduceLT, Int.reduceEq, Int.reduceToNat, Int.reduceNeg, reduceCtorEq, Nat.add_zero, Nat.zero_add, beq_self_eq_true, hf, unwind, modeEx, resultsOf, one]
            exact ⟨_, rfl, hd, hl⟩
          | false =>
            simp only [wroteD] at hf hd ⊢
            simp only [go_sem, Nat.reduceAdd, Nat.reduceSub, Nat.reduceMul, Nat.reduceDiv, Nat.reduceMod, Nat.reducePow, Nat.reduceLeDiff, Nat.reduceLT, Nat.reduceEqDiff, Nat.reduceBEq, Nat.reduceBNe, Int.reduceAdd, Int.reduceSub, Int.reduceMul, Int.reducePow, Int.reduceLE, Int.reduceLT, Int.reduceEq, Int.reduceToNat, Int.reduceNeg, reduceCtorEq, Nat.add_zero, Nat.zero_add, beq_self_eq_true, hf, unwind, modeEx, resultsOf, one]
            exact ⟨_, rfl, hd, hl⟩
        · kernel_rfl
    · have d64 : decide ((s.length : Int) = 64) = false := by simp only [decide_eq_false_iff_not]; omega
      rw [if_neg h64]
      rcases h with ⟨hw, ga, gb, rfl⟩ | ⟨hw, ga, gb, gc, rfl⟩
      · simp only [canD, diskB] at hck
        simp only [go_sem, Nat.reduceAdd, Nat.reduceSub, Nat.reduceMul, Nat.reduceDiv, Nat.reduceMod, Nat.reducePow, Nat.reduceLeDiff, Nat.reduceLT, Nat.reduceEqDiff, Nat.reduceBEq, Nat.reduceBNe, Int.reduceAdd, Int.reduceSub, Int.reduceMul, Int.reducePow, Int.reduceLE, Int.reduceLT, Int.reduceEq, Int.reduceToNat, Int.reduceNeg, reduceCtorEq, Nat.add_zero, Nat.zero_add, beq_self_eq_true, Try.f35, canD, diskB, hck, d0, d64, unwind, modeEx, resultsOf, one]
        exact ⟨_, rfl, .inl ⟨hw, ga, gb, rfl⟩, Nat.le_refl _⟩
      · simp only [canW, diskB] at hck
        simp only [go_sem, Nat.reduceAdd, Nat.reduceSub, Nat.reduceMul, Nat.reduceDiv, Nat.reduceMod, Nat.reducePow, Nat.reduceLeDiff, Nat.reduceLT, Nat.reduceEqDiff, Nat.reduceBEq, Nat.reduceBNe, Int.reduceAdd, Int.reduceSub, Int.reduceMul, Int.reducePow, Int.reduceLE, Int.reduceLT, Int.reduceEq, Int.reduceToNat, Int.reduceNeg, reduceCtorEq, Nat.add_zero, Nat.zero_add, beq_self_eq_true, Try.f35, canW, diskB, hck, d0, d64, unwind, modeEx, resultsOf, one]
        exact ⟨_, rfl, .inr ⟨hw, ga, gb, gc, rfl⟩, Nat.le_refl _⟩
  · have d0 : decide (checkD d pos = 0) = false := by simpa using h0
    rw [if_neg h0]
    rcases h with ⟨hw, ga, gb, rfl⟩ | ⟨hw, ga, gb, gc, rfl⟩
    · simp only [canD, diskB] at hck
      simp only [go_sem, Nat.reduceAdd, Nat.reduceSub, Nat.reduceMul, Nat.reduceDiv, Nat.reduceMod, Nat.reducePow, Nat.reduceLeDiff, Nat.reduceLT, Nat.reduceEqDiff, Nat.reduceBEq, Nat.reduceBNe, Int.reduceAdd, Int.reduceSub, Int.reduceMul, Int.reducePow, Int.reduceLE, Int.reduceLT, Int.reduceEq, Int.reduceToNat, Int.reduceNeg, reduceCtorEq, Nat.add_zero, Nat.zero_add, beq_self_eq_true, Try.f35, canD, diskB, hck, d0, unwind, modeEx, resultsOf, one]
      exact ⟨_, rfl, .inl ⟨hw, ga, gb, rfl⟩, Nat.le_refl _⟩
    · simp only [canW, diskB] at hck
      simp only [go_sem, Nat.reduceAdd, Nat.reduceSub, Nat.reduceMul, Nat.reduceDiv, Nat.reduceMod, Nat.reducePow, Nat.reduceLeDiff, Nat.reduceLT, Nat.reduceEqDiff, Nat.reduceBEq, Nat.reduceBNe, Int.reduceAdd, Int.reduceSub, Int.reduceMul, Int.reducePow, Int.reduceLE, Int.reduceLT, Int.reduceEq, Int.reduceToNat, Int.reduceNeg, reduceCtorEq, Nat.add_zero, Nat.zero_add, beq_self_eq_true, Try.f35, canW, diskB, hck, d0, unwind, modeEx, resultsOf, one]
      exact ⟨_, rfl, .inr ⟨hw, ga, gb, gc, rfl⟩, Nat.le_refl _⟩
end Go.Proofs.Ytamcncpgfhfheaa.Tidy

/-
  A disk: new, and made safe.
-/
namespace Go.Proofs.Ytamcncpgfhfheaa.Tidy
open Go Go.IntWalk
set_option maxRecDepth 10000
set_option linter.unusedSimpArgs false

@[go_sem] theorem bin_slnil {tn e n m sz : Nat} {z x : AVal} {cl : Bool} {xs : List AVal} : binOp env .eql tn ⟨.slice e, n, m, z⟩ (.lit cl sz (x :: xs)) (.lit true 0 []) = some (.bool false) := by cases cl <;> cases sz <;> rfl

theorem ti136' : ∃ te, env.ti 136 = some te ∧ te.sz = 64 ∧ te.bytes = 64 ∧ te.zero.cellsOf.length = 64 ∧ te.zero.isTuple = false ∧ te.zero.under 0 = true ∧ te.zero = secV (List.replicate 64 0) := ⟨_, ti136, rfl, rfl, rfl, rfl, rfl, rfl⟩

theorem noLit_secs (l : List Sec) : noLitL (l.map secV) = true := by
  have h : ∀ s : Sec, noLitL (cellsB s) = true := by
    intro s
    induction s with
    | nil => rfl
    | cons b s ih => simpa [cellsB, noLitL, AVal.noLit] using ih
  induction l with
  | nil => rfl
  | cons s l ih => simp [noLitL, secV, AVal.noLit, h, ih]

theorem clone_run (cl : Bool) (l : List Sec) (hne : l ≠ []) (hl : l.length ≤ 4096) : runT env 101 [.lit cl 64 (l.map secV)] [] 0 = some (.ret (.ref 0 0 0 l.length false), [.cells 0 64 true (l.map secV)]) := by
  obtain ⟨te, ht, h1, h2, h3, h4, _⟩ := ti136'
  have ha : ∀ nx, appendOp env 0 nx 126 (.lit true 64 []) (.lit cl 64 (l.map secV)) [] = some (.ref nx 0 0 l.length false, [(nx, .cells 0 64 true (l.map secV))]) := by
    intro nx
    have := append_lit (E := env) (ro := 0) (nx := nx) (H := []) (x := .lit cl 64 (l.map secV)) (sz := 64) (es := []) (new := l.map secV) ti126 ht rfl ⟨by omega, by omega, h4⟩ h1.symm (by simpa using hne) (.inl rfl) (by simp [h2, maxBytes]; omega) (fun _ => by simp [noRef_sec])
    rw [h1] at this
    simpa [newBlk, show flatTy env 8 136 = true from rfl] using this
  rw [run_unfold fn101 rfl]
  obtain ⟨x, xs, hx⟩ : ∃ x xs, l.map secV = x :: xs := by
    cases l with
    | nil => exact absurd rfl hne
    | cons a l => exact ⟨_, _, rfl⟩
  rw [hx] at ha ⊢
  simp only [go_sem, Nat.reduceAdd, Nat.reduceSub, Nat.reduceMul, Nat.reduceDiv, Nat.reduceMod, Nat.reducePow, Nat.reduceLeDiff, Nat.reduceLT, Nat.reduceEqDiff, Nat.reduceBEq, Nat.reduceBNe, Int.reduceAdd, Int.reduceSub, Int.reduceMul, Int.reducePow, Int.reduceLE, Int.reduceLT, Int.reduceEq, Int.reduceToNat, Int.reduceNeg, reduceCtorEq, Nat.add_zero, Nat.zero_add, beq_self_eq_true, Try.f101, ha, unwind, modeEx, resultsOf, one]

theorem clone_call {l : List Sec} (hne : l ≠ []) (hl : l.length ≤ 4096) {H : Heap} {b gb : Nat} (hH : H[b]? = some (.cells gb 64 true (l.map secV))) (ro nx : Nat) :
    callT env 101 [.ref b gb 0 l.length false] ro H nx = some (.ret (.ref nx 0 0 l.length false), .ups [(nx, .cells 0 64 true (l.map secV))]) := by
  have htk : List.take l.length (l.map secV) = l.map secV := List.take_of_length_le (by simp)
  have hreach : reach H fuel0 (AVal.ref b gb 0 l.length false).refs [] = some [b] := by
    unfold fuel0
    simp [reach, AVal.refs, hH]
  rw [call_lent1 (E := env) (f := 101) (u := .lit false 64 (l.map secV)) (ids := [b]) rfl rfl rfl ?_ hreach (clone_run false l hne hl)]
  · have h1 : uniq (List.filter (fun j => decide (List.length ([] : List Nat) ≤ j) && decide (j < List.length [Blk.cells 0 64 true (l.map secV)])) [0]) = [0] := rfl
    simp only [callBack, hint101, keepOf, Bool.false_eq_true, if_false, h1]
    simp [getAll, handBack, callUpd, backF, idx, renB, numbered, AVal.ren, AVal.noLit, litFree, noLit_secs]
  · simp [toLit, noRef, AVal.under, hH, htk]

def syncD (d : DiskS) : DiskS × Int :=
  if d.down then (d, 91) else if (failsD d).2 then ((failsD d).1, 91) else ({ (failsD d).1 with safe := (failsD d).1.now, wr := [] }, 0)

theorem failsD_same (d : DiskS) : (failsD d).1.safe = d.safe ∧ (failsD d).1.now = d.now ∧ (failsD d).1.wr = d.wr := by
  unfold failsD offD
  split
  · exact ⟨rfl, rfl, rfl⟩
  · split <;> exact ⟨rfl, rfl, rfl⟩

theorem sync_run (d : DiskS) (hne : d.now ≠ []) (hl : d.now.length ≤ 4096) : ∀ C, IsCan C d → ∃ H' F', runT env 38 [.ptr 0 0 0 0] C 0 = some (.ret (.int .i64 (syncD d).2), H') ∧ DiskAt H' 0 (syncD d).1 F' ∧ C.length ≤ H'.length := by
  intro C h
  rw [run_unfold fn38 rfl]
  unfold syncD
  cases hdn : d.down with
  | true =>
    simp only [if_true]
    rcases h with ⟨hw, ga, gb, rfl⟩ | ⟨hw, ga, gb, gc, rfl⟩
    · simp only [go_sem, Nat.reduceAdd, Nat.reduceSub, Nat.reduceMul, Nat.reduceDiv, Nat.reduceMod, Nat.reducePow, Nat.reduceLeDiff, Nat.reduceLT, Nat.reduceEqDiff, Nat.reduceBEq, Nat.reduceBNe, Int.reduceAdd, Int.reduceSub, Int.reduceMul, Int.reducePow, Int.reduceLE, Int.reduceLT, Int.reduceEq, Int.reduceToNat, Int.reduceNeg, reduceCtorEq, Nat.add_zero, Nat.zero_add, beq_self_eq_true, Try.f38, canD, diskB, hdn, unwind, modeEx, resultsOf, one]
      have hat := can_reach (show IsCan (canD d ga gb) d from .inl ⟨hw, ga, gb, rfl⟩)
      simp only [canD, diskB, hdn] at hat
      exact ⟨_, _, rfl, hat, Nat.le_refl _⟩
    · simp only [go_sem, Nat.reduceAdd, Nat.reduceSub, Nat.reduceMul, Nat.reduceDiv, Nat.reduceMod, Nat.reducePow, Nat.reduceLeDiff, Nat.reduceLT, Nat.reduceEqDiff, Nat.reduceBEq, Nat.reduceBNe, Int.reduceAdd, Int.reduceSub, Int.reduceMul, Int.reducePow, Int.reduceLE, Int.reduceLT, Int.reduceEq, Int.reduceToNat, Int.reduceNeg, reduceCtorEq, Nat.add_zero, Nat.zero_add, beq_self_eq_true, Try.f38, canW, diskB, hdn, unwind, modeEx, resultsOf, one]
      have hat := can_reach (show IsCan (canW d ga gb gc) d from .inr ⟨hw, ga, gb, gc, rfl⟩)
      simp only [canW, diskB, hdn] at hat
      exact ⟨_, _, rfl, hat, Nat.le_refl _⟩
  | false =>
    simp only [Bool.false_eq_true, if_false]
    obtain ⟨f1, f2, f3⟩ := failsD_same d
    obtain ⟨us, C1, hc, hp, hd, hl1⟩ := can_obj (f := 99) (args := []) rfl rfl rfl rfl rfl rfl h (fails_can h)
    cases hf : (failsD d).2 with
    | true =>
      simp only [if_true]
      rw [hf] at hc
      rcases h with ⟨hw, ga, gb, rfl⟩ | ⟨hw, ga, gb, gc, rfl⟩
      · simp only [canD, diskB, List.length_cons, List.length_nil, Nat.reduceAdd, Nat.zero_add, hdn] at hc hp
        simp only [go_sem, Nat.reduceAdd, Nat.reduceSub, Nat.reduceMul, Nat.reduceDiv, Nat.reduceMod, Nat.reducePow, Nat.reduceLeDiff, Nat.reduceLT, Nat.reduceEqDiff, Nat.reduceBEq, Nat.reduceBNe, Int.reduceAdd, Int.reduceSub, Int.reduceMul, Int.reducePow, Int.reduceLE, Int.reduceLT, Int.reduceEq, Int.reduceToNat, Int.reduceNeg, reduceCtorEq, Nat.add_zero, Nat.zero_add, beq_self_eq_true, Try.f38, canD, diskB, hdn, hc, hp, unwind, modeEx, resultsOf, one]
        exact ⟨_, _, rfl, can_reach hd, hl1⟩
      · simp only [canW, diskB, List.length_cons, List.length_nil, Nat.reduceAdd, Nat.zero_add, hdn] at hc hp
        simp only [go_sem, Nat.reduceAdd, Nat.reduceSub, Nat.reduceMul, Nat.reduceDiv, Nat.reduceMod, Nat.reducePow, Nat.reduceLeDiff, Nat.reduceLT, Nat.reduceEqDiff, Nat.reduceBEq, Nat.reduceBNe, Int.reduceAdd, Int.reduceSub, Int.reduceMul, Int.reducePow, Int.reduceLE, Int.reduceLT, Int.reduceEq, Int.reduceToNat, Int.reduceNeg, reduceCtorEq, Nat.add_zero, Nat.zero_add, beq_self_eq_true, Try.f38, canW, diskB, hdn, hc, hp, unwind, modeEx, resultsOf, one]
        exact ⟨_, _, rfl, can_reach hd, hl1⟩
    | false =>
      simp only [Bool.false_eq_true, if_false]
      rw [hf] at hc
      generalize failsD d = D at *
      obtain ⟨d1, b⟩ := D
      simp only at hf f1 f2 f3 hd ⊢
      rcases hd with ⟨hw1, ga1, gb1, rfl⟩ | ⟨hw1, ga1, gb1, gc1, rfl⟩
      · have hcl := fun ro nx => clone_call (l := d1.now) (by rw [f2]; exact hne) (by rw [f2]; exact hl) (H := canD d1 ga1 gb1) (b := 2) (gb := gb1) rfl ro nx
        rcases h with ⟨hw, ga, gb, rfl⟩ | ⟨hw, ga, gb, gc, rfl⟩
        · simp only [canD, diskB, List.length_cons, List.length_nil, Nat.reduceAdd, Nat.zero_add, hdn] at hc hp hcl
          simp only [go_sem, Nat.reduceAdd, Nat.reduceSub, Nat.reduceMul, Nat.reduceDiv, Nat.reduceMod, Nat.reducePow, Nat.reduceLeDiff, Nat.reduceLT, Nat.reduceEqDiff, Nat.reduceBEq, Nat.reduceBNe, Int.reduceAdd, Int.reduceSub, Int.reduceMul, Int.reducePow, Int.reduceLE, Int.reduceLT, Int.reduceEq, Int.reduceToNat, Int.reduceNeg, reduceCtorEq, Nat.add_zero, Nat.zero_add, beq_self_eq_true, Try.f38, canD, diskB, hdn, hc, hp, hcl, unwind, modeEx, resultsOf, one]
          exact ⟨_, [0, 3, 2], rfl, ⟨3, 0, 2, gb1, _, rfl, rfl, rfl, .inl ⟨rfl, rfl, rfl⟩, by decide⟩, Nat.le_succ 3⟩
        · exact absurd (f3.symm.trans hw1) hw
      · have hcl := fun ro nx => clone_call (l := d1.now) (by rw [f2]; exact hne) (by rw [f2]; exact hl) (H := canW d1 ga1 gb1 gc1) (b := 2) (gb := gb1) rfl ro nx
        rcases h with ⟨hw, ga, gb, rfl⟩ | ⟨hw, ga, gb, gc, rfl⟩
        · exact absurd (f3.trans hw) hw1
        · simp only [canW, diskB, List.length_cons, List.length_nil, Nat.reduceAdd, Nat.zero_add, hdn] at hc hp hcl
          simp only [go_sem, Nat.reduceAdd, Nat.reduceSub, Nat.reduceMul, Nat.reduceDiv, Nat.reduceMod, Nat.reducePow, Nat.reduceLeDiff, Nat.reduceLT, Nat.reduceEqDiff, Nat.reduceBEq, Nat.reduceBNe, Int.reduceAdd, Int.reduceSub, Int.reduceMul, Int.reducePow, Int.reduceLE, Int.reduceLT, Int.reduceEq, Int.reduceToNat, Int.reduceNeg, reduceCtorEq, Nat.add_zero, Nat.zero_add, beq_self_eq_true, Try.f38, canW, diskB, hdn, hc, hp, hcl, unwind, modeEx, resultsOf, one]
          exact ⟨_, [0, 4, 2], rfl, ⟨4, 0, 2, gb1, _, rfl, rfl, rfl, .inl ⟨rfl, rfl, rfl⟩, by decide⟩, Nat.le_succ 4⟩

/-- a disk of zeros -/
def newD (n : Nat) : DiskS := { safe := List.replicate n (List.replicate 64 0), now := List.replicate n (List.replicate 64 0), wr := [], armed := 0, down := false, falls := 0 }
end Go.Proofs.Ytamcncpgfhfheaa.Tidy
