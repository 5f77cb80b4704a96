/-
  What the functions that LedgerGoesOn reaches compute; the law, run.
-/
import Derived.Test.YtamcncpgfhfheaaMc
import Derived.Test.YtamcncpgfhfheaaMt
import Derived.IntWalk
import Derived.KernelRfl
import Derived.Test.YtamcncpgfhfheaaMe
set_option linter.all false
/-
  Calls that hand back a list of numbers.
-/
namespace Go.Proofs.Ytamcncpgfhfheaa.Tidy
open Go
section
variable {E : Env}

theorem call_of_run {f : Nat} {args : List AVal} {r : CRes} {H' : Heap} (hw : (E.hint f).whole = false) (ha : underL 0 args = true) (hr : runT E f args [] 0 = some (r, H')) (ro : Nat) (H : Heap) (nx : Nat) :
    callT E f args ro H nx = callBack (E.hint f) ro nx [] [] (r, H') := by
  unfold callT
  rw [callF_small hw, lend_noRef H _ args 0 ha]
  simp only [refs_noRef.2 args ha, reach, getAll, List.all_nil, Bool.not_true, Bool.or_false, Bool.and_false, Bool.false_eq_true, if_false, List.map_nil, List.length_nil]
  rw [(ren_noRef (idx [])).2 args ha]
  have h0 : (if (E.hint f).ro = true then (0 : Nat) else 0) = 0 := by split <;> rfl
  rw [h0, hr]
  rfl

/-- a list of numbers, made here: by value, or a block of its own -/
def VecR (k : IntKind) (v : AVal) (H : Heap) (xs : List Int) : Prop :=
  (∃ sz, v = .lit true sz (xs.map (.int k)) ∧ H = [] ∧ (xs = [] ∨ sz = 1)) ∨ (∃ g, v = .ref 0 g 0 xs.length false ∧ H = [.cells g 1 true (xs.map (.int k))] ∧ xs ≠ [])

/-- the same, handed back behind the blocks of the caller -/
def VecC (k : IntKind) (nx : Nat) (v : AVal) (us : Ups) (xs : List Int) : Prop :=
  (∃ sz, v = .lit true sz (xs.map (.int k)) ∧ us = [] ∧ (xs = [] ∨ sz = 1)) ∨ (∃ g, v = .ref nx g 0 xs.length false ∧ us = [(nx, .cells g 1 true (xs.map (.int k)))] ∧ xs ≠ [])

theorem under_ints (k : IntKind) (xs : List Int) (m : Nat) : underL m (xs.map (AVal.int k)) = true := by
  induction xs with
  | nil => rfl
  | cons x xs ih => simp [underL, AVal.under, ih]

theorem call_vec {f : Nat} {args : List AVal} {k : IntKind} {v : AVal} {H' : Heap} {xs : List Int} (hw : (E.hint f).whole = false) (hk : (E.hint f).keepAll = false) (hr0 : (E.hint f).ro = false) (hkeep : (E.hint f).keep = [0]) (ha : underL 0 args = true) (hr : runT E f args [] 0 = some (.ret v, H')) (hv : VecR k v H' xs) (ro : Nat) (H : Heap) (nx : Nat) :
    ∃ u us, callT E f args ro H nx = some (.ret u, .ups us) ∧ VecC k nx u us xs := by
  rw [call_of_run hw ha hr]
  rcases hv with ⟨sz, rfl, rfl, hsz⟩ | ⟨g, rfl, rfl, hne⟩
  · refine ⟨.lit true sz (xs.map (.int k)), [], ?_, .inl ⟨sz, rfl, rfl, hsz⟩⟩
    simp only [callBack, keepOf, hk, hkeep, Bool.false_eq_true, if_false]
    rw [show uniq (List.filter (fun j => decide (List.length ([] : List Nat) ≤ j) && decide (j < List.length ([] : Heap))) [0]) = [] from rfl]
    simp only [getAll, handBack]
    simp only [List.isEmpty_nil, Bool.true_or, if_true, AVal.ren, callUpd, hr0, Bool.false_eq_true, if_false, List.map_nil, numbered, List.append_nil]
    rfl
  · refine ⟨.ref nx g 0 xs.length false, [(nx, .cells g 1 true (xs.map (.int k)))], ?_, .inr ⟨g, rfl, rfl, hne⟩⟩
    simp only [callBack, keepOf, hk, hkeep, Bool.false_eq_true, if_false]
    rw [show uniq (List.filter (fun j => decide (List.length ([] : List Nat) ≤ j) && decide (j < List.length [Blk.cells g 1 true (xs.map (AVal.int k))])) [0]) = [0] from rfl]
    simp [getAll, handBack, callUpd, hr0, backF, idx, renB, numbered, AVal.ren]

/-- a call that hands back lists of numbers by value -/
theorem toLit_vec {k : IntKind} {v : AVal} {H' : Heap} {xs : List Int} (hv : VecR k v H' xs) (n : Nat) : ∃ cl sz, (xs = [] ∨ sz = 1) ∧ handBack H' 0 [] (n + 1) v = some (.lit cl sz (xs.map (.int k))) := by
  rcases hv with ⟨sz, rfl, rfl, hsz⟩ | ⟨g, rfl, rfl, hne⟩
  · exact ⟨true, sz, hsz, rfl⟩
  · refine ⟨false, 1, .inr rfl, ?_⟩
    simp only [handBack, Nat.not_lt_zero, decide_false, List.contains_nil, Bool.or_self, Bool.false_eq_true, if_false]
    have h1 : List.take xs.length (List.map (AVal.int k) xs) = List.map (AVal.int k) xs := List.take_of_length_le (by simp)
    simp [toLit, noRef, AVal.under, h1]

theorem handBack_tuple (H : Heap) (k : Nat) (keep : List Nat) (n : Nat) (cs : List AVal) : handBack H k keep (n + 1) (.tuple cs) = (mapO (handBack H k keep n) cs).map .tuple := rfl

/-- a call that hands back a list, and a number -/
theorem call_lit2 {f : Nat} {args : List AVal} {k : IntKind} {v w : AVal} {H' : Heap} {xs : List Int} (hw : (E.hint f).whole = false) (hk : (E.hint f).keepAll = false) (hr0 : (E.hint f).ro = false) (hkeep : (E.hint f).keep = []) (ha : underL 0 args = true) (hr : runT E f args [] 0 = some (.ret (.tuple [v, w]), H')) (hv : VecR k v H' xs) (hn : noRef w = true) :
    ∃ cl sz, (xs = [] ∨ sz = 1) ∧ ∀ ro H nx, callT E f args ro H nx = some (.ret (.tuple [.lit cl sz (xs.map (.int k)), w]), .ups []) := by
  obtain ⟨cl, sz, h1, h2⟩ := toLit_vec hv 2
  refine ⟨cl, sz, h1, fun ro H nx => ?_⟩
  rw [call_of_run hw ha hr]
  simp only [callBack, keepOf, hk, hkeep, Bool.false_eq_true, if_false, List.filter_nil, uniq, getAll, List.length_nil]
  rw [show handBack H' 0 [] 4 (.tuple [v, w]) = some (.tuple [.lit cl sz (xs.map (.int k)), w]) from by
    rw [handBack_tuple, mapO, mapO, mapO, h2, handBack_noRef _ _ _ _ _ hn]; rfl]
  simp only [List.isEmpty_nil, Bool.true_or, if_true]
  rw [(ren_noRef _).1]
  · simp [callUpd, numbered, hr0]
  · simp only [AVal.under, underL, Bool.true_and, Bool.and_true]
    exact hn

theorem call_lit1 {f : Nat} {args : List AVal} {k : IntKind} {v : AVal} {H' : Heap} {xs : List Int} (hw : (E.hint f).whole = false) (hk : (E.hint f).keepAll = false) (hr0 : (E.hint f).ro = false) (hkeep : (E.hint f).keep = []) (ha : underL 0 args = true) (hr : runT E f args [] 0 = some (.ret v, H')) (hv : VecR k v H' xs) :
    ∃ cl sz, (xs = [] ∨ sz = 1) ∧ ∀ ro H nx, callT E f args ro H nx = some (.ret (.lit cl sz (xs.map (.int k))), .ups []) := by
  obtain ⟨cl, sz, h1, h2⟩ := toLit_vec hv 3
  refine ⟨cl, sz, h1, fun ro H nx => ?_⟩
  rw [call_of_run hw ha hr]
  simp only [callBack, keepOf, hk, hkeep, Bool.false_eq_true, if_false, List.filter_nil, uniq, getAll, List.length_nil, h2]
  simp [callUpd, numbered, hr0, AVal.ren]

/-- a region whose operations may go in any order that is left open -/
theorem apart_ok {bf : Array Nat} {l : List Foot} {x : Option (Ex × St)} (h : apart bf l = true) : (if apart bf l = true then x else none) = x := if_pos h

theorem append_lit {t e n m sz nsz nx ro : Nat} {z x : AVal} {te : TI} {H : Heap} {es new : List AVal} (ht : E.ti t = some ⟨.slice e, n, m, z⟩) (he : E.ti e = some te) (hx : elems H x = some (nsz, new)) (hz : 0 < te.sz ∧ te.zero.cellsOf.length = te.sz ∧ te.zero.isTuple = false) (hn : nsz = te.sz) (hne : new ≠ [])
    (hs : es = [] ∨ sz = te.sz) (hb : (es.length + new.length) * (te.bytes + 1) ≤ maxBytes) (hf : flatTy E 8 e = true → new.all noRef = true) :
    appendOp E ro nx t (.lit true sz es) x H = some (.ref nx 0 0 (es.length + new.length) false, [(nx, newBlk E e te.sz (es ++ new))]) := by
  have h1 : new.isEmpty = false := by cases new <;> simp_all
  have h2 : (es.isEmpty || sz == te.sz) = true := by rcases hs with rfl | rfl <;> simp
  have h3 : (!flatTy E 8 e || new.all noRef) = true := by
    cases h : flatTy E 8 e with
    | false => rfl
    | true => simp only [hf h]; rfl
  simp only [appendOp, ht, he, hx, hn, hz.1, hz.2.1, hz.2.2, h1, h3, hb, h2, beq_self_eq_true, Bool.or_true, Bool.true_and, decide_true, Bool.not_false, Bool.and_true, if_true]

theorem append_ref {t e n m nsz nx ro id g len : Nat} {z x : AVal} {te : TI} {H : Heap} {fl : Bool} {bs new : List AVal} (ht : E.ti t = some ⟨.slice e, n, m, z⟩) (he : E.ti e = some te) (hx : elems H x = some (nsz, new)) (hz : 0 < te.sz ∧ te.zero.cellsOf.length = te.sz ∧ te.zero.isTuple = false) (hn : nsz = te.sz) (hne : new ≠ [])
    (hH : H[id]? = some (.cells g te.sz fl bs)) (hl : bs.length = len) (h0 : 0 < len) (hro : ro ≤ id) (hb : (len + new.length) * (te.bytes + 1) ≤ maxBytes) (hf : fl = true → new.all noRef = true) :
    appendOp E ro nx t (.ref id g 0 len false) x H = some (.ref id (g + 1) 0 (len + new.length) false, [(id, .cells (g + 1) te.sz fl (bs ++ new))]) := by
  have h1 : new.isEmpty = false := by cases new <;> simp_all
  have h4 : bs.isEmpty = false := by cases bs <;> simp_all
  have h5 : 0 < new.length := List.length_pos_iff.2 hne
  have h3 : (fl && !new.all noRef) = false := by
    cases h : fl with
    | false => rfl
    | true => simp only [hf h]; rfl
  subst hl
  have h6 : ¬ (bs.length + new.length ≤ bs.length) := by omega
  simp only [appendOp, ht, he, hx, hn, hz.1, hz.2.1, hz.2.2, h1, hH, hro, hb, beq_self_eq_true, Bool.or_true, Bool.true_or, Bool.true_and, decide_true, Bool.not_false, Bool.and_true, if_true, h4, h3, Bool.false_eq_true, List.drop_zero, Nat.zero_add, Nat.le_refl, h6, if_false]
end
end Go.Proofs.Ytamcncpgfhfheaa.Tidy

/-
  Calls that hand back a list.
-/
namespace Go.Proofs.Ytamcncpgfhfheaa.Tidy
open Go
attribute [go_sem] List.contains_cons
section
variable {E : Env}

/-- a list, made here: by value, or a block of its own -/
def VecA (sz : Nat) (v : AVal) (H : Heap) (es : List AVal) : Prop :=
  (∃ s, v = .lit true s es ∧ H = [] ∧ (es = [] ∨ s = sz)) ∨ (∃ g, v = .ref 0 g 0 es.length false ∧ H = [.cells g sz true es] ∧ es ≠ [])

/-- the same, handed back behind the blocks of the caller -/
def VecB (sz nx : Nat) (v : AVal) (us : Ups) (es : List AVal) : Prop :=
  (∃ s, v = .lit true s es ∧ us = [] ∧ (es = [] ∨ s = sz)) ∨ (∃ g, v = .ref nx g 0 es.length false ∧ us = [(nx, .cells g sz true es)] ∧ es ≠ [])

theorem call_vecA {f : Nat} {args : List AVal} {sz : Nat} {v : AVal} {H' : Heap} {es : List AVal} (hw : (E.hint f).whole = false) (hk : (E.hint f).keepAll = false) (hr0 : (E.hint f).ro = false) (hkeep : (E.hint f).keep = [0]) (ha : underL 0 args = true) (hr : runT E f args [] 0 = some (.ret v, H')) (hv : VecA sz v H' es) (ro : Nat) (H : Heap) (nx : Nat) :
    ∃ u us, callT E f args ro H nx = some (.ret u, .ups us) ∧ VecB sz nx u us es := by
  rw [call_of_run hw ha hr]
  rcases hv with ⟨s, rfl, rfl, hsz⟩ | ⟨g, rfl, rfl, hne⟩
  · refine ⟨.lit true s es, [], ?_, .inl ⟨s, rfl, rfl, hsz⟩⟩
    simp only [callBack, keepOf, hk, hkeep, Bool.false_eq_true, if_false]
    rw [show uniq (List.filter (fun j => decide (List.length ([] : List Nat) ≤ j) && decide (j < List.length ([] : Heap))) [0]) = [] from rfl]
    simp only [getAll, handBack]
    simp only [List.isEmpty_nil, Bool.true_or, if_true, AVal.ren, callUpd, hr0, Bool.false_eq_true, if_false, List.map_nil, numbered, List.append_nil]
    rfl
  · refine ⟨.ref nx g 0 es.length false, [(nx, .cells g sz true es)], ?_, .inr ⟨g, rfl, rfl, hne⟩⟩
    simp only [callBack, keepOf, hk, hkeep, Bool.false_eq_true, if_false]
    rw [show uniq (List.filter (fun j => decide (List.length ([] : List Nat) ≤ j) && decide (j < List.length [Blk.cells g sz true es])) [0]) = [0] from rfl]
    simp [getAll, handBack, callUpd, hr0, backF, idx, renB, numbered, AVal.ren]

theorem toLit_vecA {sz : Nat} {v : AVal} {H' : Heap} {es : List AVal} (hv : VecA sz v H' es) (n : Nat) : ∃ cl s, (es = [] ∨ s = sz) ∧ handBack H' 0 [] (n + 1) v = some (.lit cl s es) := by
  rcases hv with ⟨s, rfl, rfl, hsz⟩ | ⟨g, rfl, rfl, hne⟩
  · exact ⟨true, s, hsz, rfl⟩
  · refine ⟨false, sz, .inr rfl, ?_⟩
    simp only [handBack, Nat.not_lt_zero, decide_false, List.contains_nil, Bool.or_self, Bool.false_eq_true, if_false]
    simp [toLit, noRef, AVal.under]

theorem call_litA {f : Nat} {args : List AVal} {sz : Nat} {v : AVal} {H' : Heap} {es : List AVal} (hw : (E.hint f).whole = false) (hk : (E.hint f).keepAll = false) (hr0 : (E.hint f).ro = false) (hkeep : (E.hint f).keep = []) (ha : underL 0 args = true) (hr : runT E f args [] 0 = some (.ret v, H')) (hv : VecA sz v H' es) :
    ∃ cl s, (es = [] ∨ s = sz) ∧ ∀ ro H nx, callT E f args ro H nx = some (.ret (.lit cl s es), .ups []) := by
  obtain ⟨cl, s, h1, h2⟩ := toLit_vecA hv 3
  refine ⟨cl, s, h1, fun ro H nx => ?_⟩
  rw [call_of_run hw ha hr]
  simp only [callBack, keepOf, hk, hkeep, Bool.false_eq_true, if_false, List.filter_nil, uniq, getAll, List.length_nil, h2]
  simp [callUpd, numbered, hr0, AVal.ren]

/-- a call that takes its one argument by value: what is lent to it goes -/
theorem call_lent1 {f : Nat} {v u : AVal} {ids : List Nat} {r : CRes} {H H' : Heap} (hw : (E.hint f).whole = false) (hl : (E.hint f).lits = [0]) (hv : noRef v = false) (ht : toLit (fun _ => true) H 8 v = some u) (hi : reach H fuel0 v.refs [] = some ids) (hr : runT E f [u] [] 0 = some (r, H')) (ro nx : Nat) :
    callT E f [v] ro H nx = callBack (E.hint f) ro nx [] ids (r, H') := by
  have hu : noRef u = true := toLit_under 8 v u ht
  have hu' : underL 0 [u] = true := by
    have : u.under 0 = true := hu
    simp [underL, this]
  unfold callT
  rw [callF_small hw]
  simp only [lend, hl, hv, ht, hi, List.contains_cons, List.contains_nil, beq_self_eq_true, Bool.true_or, Bool.not_false, Bool.and_true, if_true, List.append_nil]
  simp only [refs_noRef.2 [u] hu', reach, getAll, List.contains_nil, Bool.not_false, List.all_nil, Bool.not_true, Bool.or_false, Bool.and_false, Bool.false_eq_true, if_false, List.map_nil, List.length_nil]
  rw [(ren_noRef (idx [])).2 [u] hu']
  have h0 : (if (E.hint f).ro = true then (0 : Nat) else 0) = 0 := by split <;> rfl
  have h1 : (ids.all fun _ => true) = true := by simp
  simp only [h0, hr, h1, Bool.not_true, Bool.false_eq_true, if_false]
  rfl

/-- append, where the room is there -/
theorem append_in {t e n m nsz nx ro id g len : Nat} {z x : AVal} {te : TI} {H : Heap} {fl : Bool} {bs new : List AVal} (ht : E.ti t = some ⟨.slice e, n, m, z⟩) (he : E.ti e = some te) (hx : elems H x = some (nsz, new)) (hz : 0 < te.sz ∧ te.zero.cellsOf.length = te.sz ∧ te.zero.isTuple = false) (hn : new = [] ∨ nsz = te.sz)
    (hH : H[id]? = some (.cells g te.sz fl bs)) (hl : len + new.length ≤ bs.length) (hro : ro ≤ id) (hb : (len + new.length) * (te.bytes + 1) ≤ maxBytes) (hf : fl = true → new.all noRef = true) :
    appendOp E ro nx t (.ref id g 0 len false) x H = some (.ref id g 0 (len + new.length) false, [(id, .cells g te.sz fl (putList bs len new))]) := by
  have h1 : (new.isEmpty || nsz == te.sz) = true := by rcases hn with rfl | rfl <;> simp
  have h3 : (fl && !new.all noRef) = false := by
    cases h : fl with
    | false => rfl
    | true => simp only [hf h]; rfl
  have h4 : len ≤ bs.length := by omega
  simp only [appendOp, ht, he, hx, hz.1, hz.2.1, hz.2.2, h1, hH, hro, hb, beq_self_eq_true, Bool.true_or, Bool.true_and, decide_true, Bool.not_false, Bool.and_true, if_true, h3, Bool.false_eq_true, Nat.zero_add, h4, hl, if_false]

theorem putList_append (a : List AVal) : ∀ (new b : List AVal), new.length ≤ b.length → putList (a ++ b) a.length new = a ++ (new ++ b.drop new.length) := by
  intro new
  induction new generalizing a with
  | nil => intro b _; simp [putList]
  | cons x new ih =>
    intro b hb
    cases b with
    | nil => simp at hb
    | cons y b =>
      simp only [putList]
      have h1 : (a ++ y :: b).set a.length x = (a ++ [x]) ++ b := by simp
      rw [h1]
      have := ih (a ++ [x]) b (by simpa using hb)
      rw [List.length_append, List.length_singleton] at this
      rw [this]
      simp
end
end Go.Proofs.Ytamcncpgfhfheaa.Tidy

/-
  Trees: hashes, of the program and of the reference.
-/
namespace Go.Proofs.Ytamcncpgfhfheaa.Tidy
open Go Go.IntWalk
set_option maxRecDepth 10000
set_option linter.unusedSimpArgs false

/-- one byte more -/
def hstep (h : Int) (b : Int) : Int := IntKind.u64.wrap (IntKind.u64.wrap ((BitVec.ofInt IntKind.u64.bits h ^^^ BitVec.ofInt IntKind.u64.bits (IntKind.u64.wrap b)).toNat) * 1099511628211)

def h0 : Int := 14695981039346656037
def i8 (n : Int) : AVal := .int .u8 n
def sB (s : List UInt8) : List Int := s.map fun b => (b.toNat : Int)

theorem sB_append (a b : List UInt8) : sB (a ++ b) = sB a ++ sB b := by simp [sB]

theorem wrap_succ {i : Nat} (h : i < 2 ^ 63 - 1) : IntKind.i64.wrap ((i : Int) + 1) = ((i + 1 : Nat) : Int) := by
  rw [i64_in _ (by omega)]; rfl

theorem get_drop {α : Type} {l : List α} {i : Nat} (h : i < l.length) : ∃ b, l[i]? = some b ∧ l.drop i = b :: l.drop (i + 1) :=
  ⟨l[i], List.getElem?_eq_getElem h, List.drop_eq_getElem_cons h⟩

theorem add_loop (cl : Bool) (l : List Int) (H : Heap) (ro : Nat) (hlen : l.length < 2 ^ 63) : ∀ (n i : Nat) (h : Int) (j2 j3 j4 j5 j6 j10 j11 j12 j13 j14 j15 j16 j17 j18 j19 : AVal), i + n = l.length →
    Goes (execT env (Try.f85.at [1, 0, 1, 0]) ⟨[.int .u64 h, .lit cl 1 (l.map i8), j2, j3, j4, j5, j6, .lit cl 1 (l.map i8), .int .i64 l.length, .int .i64 i, j10, j11, j12, j13, j14, j15, j16, j17, j18, j19], H, [], ro, []⟩) fun e s => e = .exit 0 ∧
      ∃ j1 j2 j3 j4 j5 j6 j7 j8 j9 j10 j11 j12 j13 j14 j15 j16 j17 j18 j19, s = ⟨[.int .u64 ((l.drop i).foldl hstep h), j1, j2, j3, j4, j5, j6, j7, j8, j9, j10, j11, j12, j13, j14, j15, j16, j17, j18, j19], H, [], ro, []⟩ := by
  intro n
  induction n with
  | zero =>
    intro i h j2 j3 j4 j5 j6 j10 j11 j12 j13 j14 j15 j16 j17 j18 j19 hi
    have hd : decide ((i : Int) < (l.length : Int)) = false := by simp; omega
    have hdr : l.drop i = [] := List.drop_eq_nil_of_le (by omega)
    simp only [go_sem, Nat.reduceAdd, Nat.reduceSub, Nat.reduceMul, Nat.reduceDiv, Nat.reduceMod, Nat.reducePow, Nat.reduceLeDiff, Nat.reduceLT, Nat.reduceEqDiff, Nat.reduceBEq, Nat.reduceBNe, Int.reduceAdd, Int.reduceSub, Int.reduceMul, Int.reducePow, Int.reduceLE, Int.reduceLT, Int.reduceEq, Int.reduceToNat, Int.reduceNeg, reduceCtorEq, Nat.add_zero, Nat.zero_add, beq_self_eq_true, Try.f85, ti3]
    rw [execT_loop]
    simp only [go_sem, Nat.reduceAdd, Nat.reduceSub, Nat.reduceMul, Nat.reduceDiv, Nat.reduceMod, Nat.reducePow, Nat.reduceLeDiff, Nat.reduceLT, Nat.reduceEqDiff, Nat.reduceBEq, Nat.reduceBNe, Int.reduceAdd, Int.reduceSub, Int.reduceMul, Int.reducePow, Int.reduceLE, Int.reduceLT, Int.reduceEq, Int.reduceToNat, Int.reduceNeg, reduceCtorEq, Nat.add_zero, Nat.zero_add, beq_self_eq_true, ti3, hd, hdr, List.foldl_nil]
    exact ⟨_, _, _, _, _, _, _, _, _, _, _, _, _, _, _, _, _, _, _, rfl⟩
  | succ n ih =>
    intro i h j2 j3 j4 j5 j6 j10 j11 j12 j13 j14 j15 j16 j17 j18 j19 hi
    have hd : decide ((i : Int) < (l.length : Int)) = true := by simp; omega
    have h0 : (0 : Int) ≤ (i : Int) := by omega
    obtain ⟨b, hb, hdr⟩ := get_drop (show i < l.length by omega)
    have hb' : (l.map i8)[(i : Int).toNat]? = some (.int .u8 b) := by simp [hb, i8]
    have ih' := ih (i + 1) (hstep h b)
    simp only [go_sem, Nat.reduceAdd, Nat.reduceSub, Nat.reduceMul, Nat.reduceDiv, Nat.reduceMod, Nat.reducePow, Nat.reduceLeDiff, Nat.reduceLT, Nat.reduceEqDiff, Nat.reduceBEq, Nat.reduceBNe, Int.reduceAdd, Int.reduceSub, Int.reduceMul, Int.reducePow, Int.reduceLE, Int.reduceLT, Int.reduceEq, Int.reduceToNat, Int.reduceNeg, reduceCtorEq, Nat.add_zero, Nat.zero_add, beq_self_eq_true, Try.f85] at ih' ⊢
    rw [execT_loop, hdr]
    simp only [go_sem, Nat.reduceAdd, Nat.reduceSub, Nat.reduceMul, Nat.reduceDiv, Nat.reduceMod, Nat.reducePow, Nat.reduceLeDiff, Nat.reduceLT, Nat.reduceEqDiff, Nat.reduceBEq, Nat.reduceBNe, Int.reduceAdd, Int.reduceSub, Int.reduceMul, Int.reducePow, Int.reduceLE, Int.reduceLT, Int.reduceEq, Int.reduceToNat, Int.reduceNeg, reduceCtorEq, Nat.add_zero, Nat.zero_add, beq_self_eq_true, ti3, ti5, ti111, ti115, hd, h0, hb', wrap_succ (show i < 2 ^ 63 - 1 by omega), List.foldl_cons]
    exact ih' _ _ _ _ _ _ _ _ _ _ _ _ _ _ _ (by omega)

theorem add_run (h : Int) (cl : Bool) (l : List Int) (hlen : l.length < 2 ^ 63) : runT env 85 [.int .u64 h, .lit cl 1 (l.map i8)] [] 0 = some (.ret (.int .u64 (l.foldl hstep h)), []) := by
  obtain ⟨e, s, hx, rfl, j1, j2, j3, j4, j5, j6, j7, j8, j9, j10, j11, j12, j13, j14, j15, j16, j17, j18, j19, rfl⟩ := add_loop cl l [] 0 hlen l.length 0 h _ _ _ _ _ _ _ _ _ _ _ _ _ _ _ (by omega)
  simp only [go_sem, Nat.reduceAdd, Nat.reduceSub, Nat.reduceMul, Nat.reduceDiv, Nat.reduceMod, Nat.reducePow, Nat.reduceLeDiff, Nat.reduceLT, Nat.reduceEqDiff, Nat.reduceBEq, Nat.reduceBNe, Int.reduceAdd, Int.reduceSub, Int.reduceMul, Int.reducePow, Int.reduceLE, Int.reduceLT, Int.reduceEq, Int.reduceToNat, Int.reduceNeg, reduceCtorEq, Nat.add_zero, Nat.zero_add, beq_self_eq_true, Try.f85, List.drop_zero, Int.ofNat_zero, Int.natCast_zero] at hx
  rw [run_unfold fn85 rfl]
  simp only [go_sem, Nat.reduceAdd, Nat.reduceSub, Nat.reduceMul, Nat.reduceDiv, Nat.reduceMod, Nat.reducePow, Nat.reduceLeDiff, Nat.reduceLT, Nat.reduceEqDiff, Nat.reduceBEq, Nat.reduceBNe, Int.reduceAdd, Int.reduceSub, Int.reduceMul, Int.reducePow, Int.reduceLE, Int.reduceLT, Int.reduceEq, Int.reduceToNat, Int.reduceNeg, reduceCtorEq, Nat.add_zero, Nat.zero_add, beq_self_eq_true, hint85, Try.f85, ti111, List.length_map]
  rw [hx]
  simp only [go_sem, Nat.reduceAdd, Nat.reduceSub, Nat.reduceMul, Nat.reduceDiv, Nat.reduceMod, Nat.reducePow, Nat.reduceLeDiff, Nat.reduceLT, Nat.reduceEqDiff, Nat.reduceBEq, Nat.reduceBNe, Int.reduceAdd, Int.reduceSub, Int.reduceMul, Int.reducePow, Int.reduceLE, Int.reduceLT, Int.reduceEq, Int.reduceToNat, Int.reduceNeg, reduceCtorEq, Nat.add_zero, Nat.zero_add, beq_self_eq_true, unwind, modeEx, resultsOf, one]
theorem add_call (h : Int) (cl : Bool) (l : List Int) (hlen : l.length < 2 ^ 63) (ro : Nat) (H : Heap) (nx : Nat) : callT env 85 [.int .u64 h, .lit cl 1 (l.map i8)] ro H nx = some (.ret (.int .u64 (l.foldl hstep h)), .ups []) :=
  call_pure rfl rfl rfl rfl (add_run h cl l hlen) rfl ro H nx
@[go_sem] theorem add_call1 (h a : Int) (cl : Bool) (ro : Nat) (H : Heap) (nx : Nat) : callT env 85 [.int .u64 h, .lit cl 1 [.int .u8 a]] ro H nx = some (.ret (.int .u64 (hstep h a)), .ups []) :=
  add_call h cl [a] (by simp) ro H nx
@[go_sem] theorem add_call5 (h a b c d e : Int) (cl : Bool) (ro : Nat) (H : Heap) (nx : Nat) : callT env 85 [.int .u64 h, .lit cl 1 [.int .u8 a, .int .u8 b, .int .u8 c, .int .u8 d, .int .u8 e]] ro H nx = some (.ret (.int .u64 ([a, b, c, d, e].foldl hstep h)), .ups []) :=
  add_call h cl [a, b, c, d, e] (by simp) ro H nx

/-- the bytes of a number, the lowest one first -/
def num : Nat → Int → Int → Int
  | 0, h, _ => h
  | k + 1, h, n => num k (hstep h (IntKind.u8.wrap n)) (n.fdiv 256)

theorem number_loop (H : Heap) (ro : Nat) : ∀ (n i : Nat) (h m : Int) (j2 j3 j4 j6 j7 j8 j9 j10 j11 j12 j13 j14 j15 : AVal), i + n = 8 →
    Goes (execT env (Try.f86.at [1, 0, 1, 0]) ⟨[.int .u64 h, .int .u64 m, j2, j3, j4, .int .i64 i, j6, j7, j8, j9, j10, j11, j12, j13, j14, j15], H, [], ro, []⟩) fun e s => e = .exit 0 ∧
      ∃ j1 j2 j3 j4 j5 j6 j7 j8 j9 j10 j11 j12 j13 j14 j15, s = ⟨[.int .u64 (num n h m), j1, j2, j3, j4, j5, j6, j7, j8, j9, j10, j11, j12, j13, j14, j15], H, [], ro, []⟩ := by
  intro n
  induction n with
  | zero =>
    intro i h m j2 j3 j4 j6 j7 j8 j9 j10 j11 j12 j13 j14 j15 hi
    have hd : decide ((i : Int) < 8) = false := by simp; omega
    simp only [go_sem, Nat.reduceAdd, Nat.reduceSub, Nat.reduceMul, Nat.reduceDiv, Nat.reduceMod, Nat.reducePow, Nat.reduceLeDiff, Nat.reduceLT, Nat.reduceEqDiff, Nat.reduceBEq, Nat.reduceBNe, Int.reduceAdd, Int.reduceSub, Int.reduceMul, Int.reducePow, Int.reduceLE, Int.reduceLT, Int.reduceEq, Int.reduceToNat, Int.reduceNeg, reduceCtorEq, Nat.add_zero, Nat.zero_add, beq_self_eq_true, Try.f86, ti3]
    rw [execT_loop]
    simp only [go_sem, Nat.reduceAdd, Nat.reduceSub, Nat.reduceMul, Nat.reduceDiv, Nat.reduceMod, Nat.reducePow, Nat.reduceLeDiff, Nat.reduceLT, Nat.reduceEqDiff, Nat.reduceBEq, Nat.reduceBNe, Int.reduceAdd, Int.reduceSub, Int.reduceMul, Int.reducePow, Int.reduceLE, Int.reduceLT, Int.reduceEq, Int.reduceToNat, Int.reduceNeg, reduceCtorEq, Nat.add_zero, Nat.zero_add, beq_self_eq_true, ti3, hd, num]
    exact ⟨_, _, _, _, _, _, _, _, _, _, _, _, _, _, _, rfl⟩
  | succ n ih =>
    intro i h m j2 j3 j4 j6 j7 j8 j9 j10 j11 j12 j13 j14 j15 hi
    have hd : decide ((i : Int) < 8) = true := by simp; omega
    have h0 : (0 : Int) ≤ (i : Int) := by omega
    have hp : ((2 : Int) ^ (min (8 : Int).toNat IntKind.u64.bits)) = 256 := by decide
    have ih' := ih (i + 1) (hstep h (IntKind.u8.wrap m)) (m.fdiv 256)
    simp only [go_sem, Nat.reduceAdd, Nat.reduceSub, Nat.reduceMul, Nat.reduceDiv, Nat.reduceMod, Nat.reducePow, Nat.reduceLeDiff, Nat.reduceLT, Nat.reduceEqDiff, Nat.reduceBEq, Nat.reduceBNe, Int.reduceAdd, Int.reduceSub, Int.reduceMul, Int.reducePow, Int.reduceLE, Int.reduceLT, Int.reduceEq, Int.reduceToNat, Int.reduceNeg, reduceCtorEq, Nat.add_zero, Nat.zero_add, beq_self_eq_true, Try.f86] at ih' ⊢
    rw [execT_loop]
    simp only [go_sem, Nat.reduceAdd, Nat.reduceSub, Nat.reduceMul, Nat.reduceDiv, Nat.reduceMod, Nat.reducePow, Nat.reduceLeDiff, Nat.reduceLT, Nat.reduceEqDiff, Nat.reduceBEq, Nat.reduceBNe, Int.reduceAdd, Int.reduceSub, Int.reduceMul, Int.reducePow, Int.reduceLE, Int.reduceLT, Int.reduceEq, Int.reduceToNat, Int.reduceNeg, reduceCtorEq, Nat.add_zero, Nat.zero_add, beq_self_eq_true, ti3, ti5, ti25, ti111, ti115, hint86, hd, h0, hp, wrap_succ (show i < 2 ^ 63 - 1 by omega), num]
    exact ih' _ _ _ _ _ _ _ _ _ _ _ _ _ (by omega)

theorem number_run (h m : Int) : runT env 86 [.int .u64 h, .int .u64 m] [] 0 = some (.ret (.int .u64 (num 8 h m)), []) := by
  obtain ⟨e, s, hx, rfl, j1, j2, j3, j4, j5, j6, j7, j8, j9, j10, j11, j12, j13, j14, j15, rfl⟩ := number_loop [] 0 8 0 h m _ _ _ _ _ _ _ _ _ _ _ _ _ (by omega)
  simp only [go_sem, Nat.reduceAdd, Nat.reduceSub, Nat.reduceMul, Nat.reduceDiv, Nat.reduceMod, Nat.reducePow, Nat.reduceLeDiff, Nat.reduceLT, Nat.reduceEqDiff, Nat.reduceBEq, Nat.reduceBNe, Int.reduceAdd, Int.reduceSub, Int.reduceMul, Int.reducePow, Int.reduceLE, Int.reduceLT, Int.reduceEq, Int.reduceToNat, Int.reduceNeg, reduceCtorEq, Nat.add_zero, Nat.zero_add, beq_self_eq_true, Try.f86, Int.ofNat_zero, Int.natCast_zero] at hx
  rw [run_unfold fn86 rfl]
  simp only [go_sem, Nat.reduceAdd, Nat.reduceSub, Nat.reduceMul, Nat.reduceDiv, Nat.reduceMod, Nat.reducePow, Nat.reduceLeDiff, Nat.reduceLT, Nat.reduceEqDiff, Nat.reduceBEq, Nat.reduceBNe, Int.reduceAdd, Int.reduceSub, Int.reduceMul, Int.reducePow, Int.reduceLE, Int.reduceLT, Int.reduceEq, Int.reduceToNat, Int.reduceNeg, reduceCtorEq, Nat.add_zero, Nat.zero_add, beq_self_eq_true, Try.f86]
  rw [hx]
  simp only [go_sem, Nat.reduceAdd, Nat.reduceSub, Nat.reduceMul, Nat.reduceDiv, Nat.reduceMod, Nat.reducePow, Nat.reduceLeDiff, Nat.reduceLT, Nat.reduceEqDiff, Nat.reduceBEq, Nat.reduceBNe, Int.reduceAdd, Int.reduceSub, Int.reduceMul, Int.reducePow, Int.reduceLE, Int.reduceLT, Int.reduceEq, Int.reduceToNat, Int.reduceNeg, reduceCtorEq, Nat.add_zero, Nat.zero_add, beq_self_eq_true, unwind, modeEx, resultsOf, one]
@[go_sem] theorem number_call (h m : Int) (ro : Nat) (H : Heap) (nx : Nat) : callT env 86 [.int .u64 h, .int .u64 m] ro H nx = some (.ret (.int .u64 (num 8 h m)), .ups []) :=
  call_pure rfl rfl rfl rfl (number_run h m) rfl ro H nx

def nodeI (a b : Int) : Int := num 8 (num 8 (hstep h0 1) a) b

theorem node_call (a b : Int) (ro : Nat) (H : Heap) (nx : Nat) : callT env 22 [.int .u64 a, .int .u64 b] ro H nx = some (.ret (.int .u64 (nodeI a b)), .ups []) := by
  refine call_pure (H' := []) rfl rfl rfl rfl ?_ rfl ro H nx
  rw [run_unfold fn22 rfl]
  simp only [go_sem, Nat.reduceAdd, Nat.reduceSub, Nat.reduceMul, Nat.reduceDiv, Nat.reduceMod, Nat.reducePow, Nat.reduceLeDiff, Nat.reduceLT, Nat.reduceEqDiff, Nat.reduceBEq, Nat.reduceBNe, Int.reduceAdd, Int.reduceSub, Int.reduceMul, Int.reducePow, Int.reduceLE, Int.reduceLT, Int.reduceEq, Int.reduceToNat, Int.reduceNeg, reduceCtorEq, Nat.add_zero, Nat.zero_add, beq_self_eq_true, Try.f22, unwind, modeEx, resultsOf, one]
  rfl

structure Entry where
  office : Int
  no : Int
  body : List UInt8
  deriving DecidableEq

def Entry.enc (e : Entry) : AVal := .agg [.int .i64 e.office, .int .i64 e.no, .str e.body]
def Entry.ok (e : Entry) : Bool := !(decide (e.office < 0) || decide (8 ≤ e.office) || decide (e.no < 0) || decide (64 ≤ e.no) || decide (2400 < (e.body.length : Int)))

def erS (e : Entry) : Int := if e.ok then 0 else 90

theorem enc_lit (e : Entry) : e.enc = .agg [.int .i64 e.office, .int .i64 e.no, .str e.body] := rfl

theorem check_run (e : Entry) : ∃ H', runT env 20 [e.enc] [] 0 = some (.ret (.int .i64 (erS e)), H') := by
  rw [run_unfold fn20 rfl]
  unfold erS Entry.ok
  cases h1 : decide (e.office < 0)
  · cases h2 : decide (8 ≤ e.office)
    · cases h3 : decide (e.no < 0)
      · cases h4 : decide (64 ≤ e.no)
        · cases h5 : decide (2400 < (e.body.length : Int)) <;>
          (simp only [go_sem, Nat.reduceAdd, Nat.reduceSub, Nat.reduceMul, Nat.reduceDiv, Nat.reduceMod, Nat.reducePow, Nat.reduceLeDiff, Nat.reduceLT, Nat.reduceEqDiff, Nat.reduceBEq, Nat.reduceBNe, Int.reduceAdd, Int.reduceSub, Int.reduceMul, Int.reducePow, Int.reduceLE, Int.reduceLT, Int.reduceEq, Int.reduceToNat, Int.reduceNeg, reduceCtorEq, Nat.add_zero, Nat.zero_add, beq_self_eq_true, Try.f20, enc_lit, h1, h2, h3, h4, h5, unwind, modeEx, resultsOf, one]; exact ⟨_, rfl⟩)
        · simp only [go_sem, Nat.reduceAdd, Nat.reduceSub, Nat.reduceMul, Nat.reduceDiv, Nat.reduceMod, Nat.reducePow, Nat.reduceLeDiff, Nat.reduceLT, Nat.reduceEqDiff, Nat.reduceBEq, Nat.reduceBNe, Int.reduceAdd, Int.reduceSub, Int.reduceMul, Int.reducePow, Int.reduceLE, Int.reduceLT, Int.reduceEq, Int.reduceToNat, Int.reduceNeg, reduceCtorEq, Nat.add_zero, Nat.zero_add, beq_self_eq_true, Try.f20, enc_lit, h1, h2, h3, h4, unwind, modeEx, resultsOf, one]; exact ⟨_, rfl⟩
      · simp only [go_sem, Nat.reduceAdd, Nat.reduceSub, Nat.reduceMul, Nat.reduceDiv, Nat.reduceMod, Nat.reducePow, Nat.reduceLeDiff, Nat.reduceLT, Nat.reduceEqDiff, Nat.reduceBEq, Nat.reduceBNe, Int.reduceAdd, Int.reduceSub, Int.reduceMul, Int.reducePow, Int.reduceLE, Int.reduceLT, Int.reduceEq, Int.reduceToNat, Int.reduceNeg, reduceCtorEq, Nat.add_zero, Nat.zero_add, beq_self_eq_true, Try.f20, enc_lit, h1, h2, h3, unwind, modeEx, resultsOf, one]; exact ⟨_, rfl⟩
    · simp only [go_sem, Nat.reduceAdd, Nat.reduceSub, Nat.reduceMul, Nat.reduceDiv, Nat.reduceMod, Nat.reducePow, Nat.reduceLeDiff, Nat.reduceLT, Nat.reduceEqDiff, Nat.reduceBEq, Nat.reduceBNe, Int.reduceAdd, Int.reduceSub, Int.reduceMul, Int.reducePow, Int.reduceLE, Int.reduceLT, Int.reduceEq, Int.reduceToNat, Int.reduceNeg, reduceCtorEq, Nat.add_zero, Nat.zero_add, beq_self_eq_true, Try.f20, enc_lit, h1, h2, unwind, modeEx, resultsOf, one]; exact ⟨_, rfl⟩
  · simp only [go_sem, Nat.reduceAdd, Nat.reduceSub, Nat.reduceMul, Nat.reduceDiv, Nat.reduceMod, Nat.reducePow, Nat.reduceLeDiff, Nat.reduceLT, Nat.reduceEqDiff, Nat.reduceBEq, Nat.reduceBNe, Int.reduceAdd, Int.reduceSub, Int.reduceMul, Int.reducePow, Int.reduceLE, Int.reduceLT, Int.reduceEq, Int.reduceToNat, Int.reduceNeg, reduceCtorEq, Nat.add_zero, Nat.zero_add, beq_self_eq_true, Try.f20, enc_lit, h1, unwind, modeEx, resultsOf, one]; exact ⟨_, rfl⟩

theorem check_call (e : Entry) (ro : Nat) (H : Heap) (nx : Nat) : callT env 20 [e.enc] ro H nx = some (.ret (.int .i64 (erS e)), .ups []) := by
  obtain ⟨H', h⟩ := check_run e
  exact call_pure rfl rfl rfl rfl h rfl ro H nx

theorem rcheck_run (e : Entry) : ∃ H', runT env 21 [e.enc] [] 0 = some (.ret (.int .i64 (erS e)), H') := by
  rw [run_unfold fn21 rfl]
  unfold erS Entry.ok
  cases h1 : decide (e.office < 0)
  · cases h2 : decide (8 ≤ e.office)
    · cases h3 : decide (e.no < 0)
      · cases h4 : decide (64 ≤ e.no)
        · cases h5 : decide (2400 < (e.body.length : Int)) <;>
          (simp only [go_sem, Nat.reduceAdd, Nat.reduceSub, Nat.reduceMul, Nat.reduceDiv, Nat.reduceMod, Nat.reducePow, Nat.reduceLeDiff, Nat.reduceLT, Nat.reduceEqDiff, Nat.reduceBEq, Nat.reduceBNe, Int.reduceAdd, Int.reduceSub, Int.reduceMul, Int.reducePow, Int.reduceLE, Int.reduceLT, Int.reduceEq, Int.reduceToNat, Int.reduceNeg, reduceCtorEq, Nat.add_zero, Nat.zero_add, beq_self_eq_true, Try.f21, enc_lit, h1, h2, h3, h4, h5, unwind, modeEx, resultsOf, one]; exact ⟨_, rfl⟩)
        · simp only [go_sem, Nat.reduceAdd, Nat.reduceSub, Nat.reduceMul, Nat.reduceDiv, Nat.reduceMod, Nat.reducePow, Nat.reduceLeDiff, Nat.reduceLT, Nat.reduceEqDiff, Nat.reduceBEq, Nat.reduceBNe, Int.reduceAdd, Int.reduceSub, Int.reduceMul, Int.reducePow, Int.reduceLE, Int.reduceLT, Int.reduceEq, Int.reduceToNat, Int.reduceNeg, reduceCtorEq, Nat.add_zero, Nat.zero_add, beq_self_eq_true, Try.f21, enc_lit, h1, h2, h3, h4, unwind, modeEx, resultsOf, one]; exact ⟨_, rfl⟩
      · simp only [go_sem, Nat.reduceAdd, Nat.reduceSub, Nat.reduceMul, Nat.reduceDiv, Nat.reduceMod, Nat.reducePow, Nat.reduceLeDiff, Nat.reduceLT, Nat.reduceEqDiff, Nat.reduceBEq, Nat.reduceBNe, Int.reduceAdd, Int.reduceSub, Int.reduceMul, Int.reducePow, Int.reduceLE, Int.reduceLT, Int.reduceEq, Int.reduceToNat, Int.reduceNeg, reduceCtorEq, Nat.add_zero, Nat.zero_add, beq_self_eq_true, Try.f21, enc_lit, h1, h2, h3, unwind, modeEx, resultsOf, one]; exact ⟨_, rfl⟩
    · simp only [go_sem, Nat.reduceAdd, Nat.reduceSub, Nat.reduceMul, Nat.reduceDiv, Nat.reduceMod, Nat.reducePow, Nat.reduceLeDiff, Nat.reduceLT, Nat.reduceEqDiff, Nat.reduceBEq, Nat.reduceBNe, Int.reduceAdd, Int.reduceSub, Int.reduceMul, Int.reducePow, Int.reduceLE, Int.reduceLT, Int.reduceEq, Int.reduceToNat, Int.reduceNeg, reduceCtorEq, Nat.add_zero, Nat.zero_add, beq_self_eq_true, Try.f21, enc_lit, h1, h2, unwind, modeEx, resultsOf, one]; exact ⟨_, rfl⟩
  · simp only [go_sem, Nat.reduceAdd, Nat.reduceSub, Nat.reduceMul, Nat.reduceDiv, Nat.reduceMod, Nat.reducePow, Nat.reduceLeDiff, Nat.reduceLT, Nat.reduceEqDiff, Nat.reduceBEq, Nat.reduceBNe, Int.reduceAdd, Int.reduceSub, Int.reduceMul, Int.reducePow, Int.reduceLE, Int.reduceLT, Int.reduceEq, Int.reduceToNat, Int.reduceNeg, reduceCtorEq, Nat.add_zero, Nat.zero_add, beq_self_eq_true, Try.f21, enc_lit, h1, unwind, modeEx, resultsOf, one]; exact ⟨_, rfl⟩
theorem rcheck_call (e : Entry) (ro : Nat) (H : Heap) (nx : Nat) : callT env 21 [e.enc] ro H nx = some (.ret (.int .i64 (erS e)), .ups []) := by
  obtain ⟨H', h⟩ := rcheck_run e
  exact call_pure rfl rfl rfl rfl h rfl ro H nx

theorem bytes_map (l : List UInt8) : l.map (fun b => AVal.int .u8 b.toNat) = (sB l).map i8 := by simp [sB, i8]
theorem sB_length (l : List UInt8) : (sB l).length = l.length := by simp [sB]

/-- the leaf of an entry -/
def leafI (e : Entry) : Int := (sB e.body).foldl hstep ([0, IntKind.u8.wrap e.office, IntKind.u8.wrap e.no, IntKind.u8.wrap e.body.length, IntKind.u8.wrap ((e.body.length : Int).fdiv 256)].foldl hstep h0)

theorem leaf_run (e : Entry) (hb : e.body.length ≤ 2 ^ 44) : ∃ H', runT env 79 [e.enc] [] 0 = some (.ret (.int .u64 (leafI e)), H') := by
  have hp : ((2 : Int) ^ (min (8 : Int).toNat IntKind.i64.bits)) = 256 := by decide
  have h1 : e.body.length ≤ maxBytes := by unfold maxBytes; omega
  have h2 : (sB e.body).length < 2 ^ 63 := by rw [sB_length]; omega
  rw [run_unfold fn79 rfl]
  simp only [go_sem, Nat.reduceAdd, Nat.reduceSub, Nat.reduceMul, Nat.reduceDiv, Nat.reduceMod, Nat.reducePow, Nat.reduceLeDiff, Nat.reduceLT, Nat.reduceEqDiff, Nat.reduceBEq, Nat.reduceBNe, Int.reduceAdd, Int.reduceSub, Int.reduceMul, Int.reducePow, Int.reduceLE, Int.reduceLT, Int.reduceEq, Int.reduceToNat, Int.reduceNeg, reduceCtorEq, Nat.add_zero, Nat.zero_add, beq_self_eq_true, Try.f79, enc_lit, hp, h1, h2, bytes_map, add_call, unwind, modeEx, resultsOf, one]
  exact ⟨_, rfl⟩
theorem leaf_call (e : Entry) (hb : e.body.length ≤ 2 ^ 44) (ro : Nat) (H : Heap) (nx : Nat) : callT env 79 [e.enc] ro H nx = some (.ret (.int .u64 (leafI e)), .ups []) := by
  obtain ⟨H', h⟩ := leaf_run e hb
  exact call_pure rfl rfl rfl rfl h rfl ro H nx

/-- the string of a byte -/
def bO (n : Int) : UInt8 := UInt8.ofNat (IntKind.u8.wrap (n.tmod 256)).toNat

@[go_sem] theorem byteOf_call (n : Int) (ro : Nat) (H : Heap) (nx : Nat) : callT env 105 [.int .u64 n] ro H nx = some (.ret (.str [bO n]), .ups []) := by
  refine call_pure (H' := []) rfl rfl rfl rfl ?_ rfl ro H nx
  rw [run_unfold fn105 rfl]
  simp only [go_sem, Nat.reduceAdd, Nat.reduceSub, Nat.reduceMul, Nat.reduceDiv, Nat.reduceMod, Nat.reducePow, Nat.reduceLeDiff, Nat.reduceLT, Nat.reduceEqDiff, Nat.reduceBEq, Nat.reduceBNe, Int.reduceAdd, Int.reduceSub, Int.reduceMul, Int.reducePow, Int.reduceLE, Int.reduceLT, Int.reduceEq, Int.reduceToNat, Int.reduceNeg, reduceCtorEq, Nat.add_zero, Nat.zero_add, beq_self_eq_true, Try.f105, unwind, modeEx, resultsOf, one]
  rfl

def eightL : Nat → Int → List UInt8
  | 0, _ => []
  | k + 1, n => bO n :: eightL k (IntKind.u64.wrap (n.tdiv 256))

theorem eightL_length : ∀ (k : Nat) (n : Int), (eightL k n).length = k
  | 0, _ => rfl
  | k + 1, n => by simp [eightL, eightL_length k]

theorem eight_loop (H : Heap) (ro : Nat) : ∀ (n i : Nat) (a : List UInt8) (m : Int) (j1 j2 j5 j6 j7 j8 j9 j10 j11 j12 j13 j14 j15 : AVal), i + n = 8 → a.length = i →
    Goes (execT env (Try.f124.at [1, 1, 0, 1, 0]) ⟨[.int .u64 m, j1, j2, .str a, .int .i64 i, j5, j6, j7, j8, j9, j10, j11, j12, j13, j14, j15], H, [], ro, []⟩) fun e s => e = .exit 0 ∧
      ∃ j0 j1 j2 j4 j5 j6 j7 j8 j9 j10 j11 j12 j13 j14 j15, s = ⟨[j0, j1, j2, .str (a ++ eightL n m), j4, j5, j6, j7, j8, j9, j10, j11, j12, j13, j14, j15], H, [], ro, []⟩ := by
  intro n
  induction n with
  | zero =>
    intro i a m j1 j2 j5 j6 j7 j8 j9 j10 j11 j12 j13 j14 j15 hi ha
    have hd : decide ((i : Int) < 8) = false := by simp; omega
    simp only [go_sem, Nat.reduceAdd, Nat.reduceSub, Nat.reduceMul, Nat.reduceDiv, Nat.reduceMod, Nat.reducePow, Nat.reduceLeDiff, Nat.reduceLT, Nat.reduceEqDiff, Nat.reduceBEq, Nat.reduceBNe, Int.reduceAdd, Int.reduceSub, Int.reduceMul, Int.reducePow, Int.reduceLE, Int.reduceLT, Int.reduceEq, Int.reduceToNat, Int.reduceNeg, reduceCtorEq, Nat.add_zero, Nat.zero_add, beq_self_eq_true, Try.f124]
    rw [execT_loop]
    simp only [go_sem, Nat.reduceAdd, Nat.reduceSub, Nat.reduceMul, Nat.reduceDiv, Nat.reduceMod, Nat.reducePow, Nat.reduceLeDiff, Nat.reduceLT, Nat.reduceEqDiff, Nat.reduceBEq, Nat.reduceBNe, Int.reduceAdd, Int.reduceSub, Int.reduceMul, Int.reducePow, Int.reduceLE, Int.reduceLT, Int.reduceEq, Int.reduceToNat, Int.reduceNeg, reduceCtorEq, Nat.add_zero, Nat.zero_add, beq_self_eq_true, hd, eightL]
    exact ⟨_, _, _, _, _, _, _, _, _, _, _, _, _, _, _, rfl⟩
  | succ n ih =>
    intro i a m j1 j2 j5 j6 j7 j8 j9 j10 j11 j12 j13 j14 j15 hi ha
    have hd : decide ((i : Int) < 8) = true := by simp; omega
    have hm : a.length + 1 ≤ maxBytes := by unfold maxBytes; omega
    have ih' := ih (i + 1) (a ++ [bO m]) (IntKind.u64.wrap (m.tdiv 256))
    simp only [go_sem, Nat.reduceAdd, Nat.reduceSub, Nat.reduceMul, Nat.reduceDiv, Nat.reduceMod, Nat.reducePow, Nat.reduceLeDiff, Nat.reduceLT, Nat.reduceEqDiff, Nat.reduceBEq, Nat.reduceBNe, Int.reduceAdd, Int.reduceSub, Int.reduceMul, Int.reducePow, Int.reduceLE, Int.reduceLT, Int.reduceEq, Int.reduceToNat, Int.reduceNeg, reduceCtorEq, Nat.add_zero, Nat.zero_add, beq_self_eq_true, Try.f124] at ih' ⊢
    rw [execT_loop]
    simp only [go_sem, Nat.reduceAdd, Nat.reduceSub, Nat.reduceMul, Nat.reduceDiv, Nat.reduceMod, Nat.reducePow, Nat.reduceLeDiff, Nat.reduceLT, Nat.reduceEqDiff, Nat.reduceBEq, Nat.reduceBNe, Int.reduceAdd, Int.reduceSub, Int.reduceMul, Int.reducePow, Int.reduceLE, Int.reduceLT, Int.reduceEq, Int.reduceToNat, Int.reduceNeg, reduceCtorEq, Nat.add_zero, Nat.zero_add, beq_self_eq_true, hd, hm, wrap_succ (show i < 2 ^ 63 - 1 by omega), eightL]
    have e1 : a ++ bO m :: eightL n (IntKind.u64.wrap (m.tdiv 256)) = a ++ [bO m] ++ eightL n (IntKind.u64.wrap (m.tdiv 256)) := by simp
    rw [e1]
    exact ih' _ _ _ _ _ _ _ _ _ _ _ _ _ (by omega) (by simp [ha])

@[go_sem] theorem eight_call (m : Int) (ro : Nat) (H : Heap) (nx : Nat) : callT env 124 [.int .u64 m] ro H nx = some (.ret (.str (eightL 8 m)), .ups []) := by
  refine call_pure (H' := []) rfl rfl rfl rfl ?_ rfl ro H nx
  obtain ⟨e, s, hx, rfl, j0, j1, j2, j4, j5, j6, j7, j8, j9, j10, j11, j12, j13, j14, j15, rfl⟩ := eight_loop [] 0 8 0 [] m _ _ _ _ _ _ _ _ _ _ _ _ _ (by omega) rfl
  simp only [go_sem, Nat.reduceAdd, Nat.reduceSub, Nat.reduceMul, Nat.reduceDiv, Nat.reduceMod, Nat.reducePow, Nat.reduceLeDiff, Nat.reduceLT, Nat.reduceEqDiff, Nat.reduceBEq, Nat.reduceBNe, Int.reduceAdd, Int.reduceSub, Int.reduceMul, Int.reducePow, Int.reduceLE, Int.reduceLT, Int.reduceEq, Int.reduceToNat, Int.reduceNeg, reduceCtorEq, Nat.add_zero, Nat.zero_add, beq_self_eq_true, Try.f124, Int.ofNat_zero, Int.natCast_zero] at hx
  rw [run_unfold fn124 rfl]
  simp only [go_sem, Nat.reduceAdd, Nat.reduceSub, Nat.reduceMul, Nat.reduceDiv, Nat.reduceMod, Nat.reducePow, Nat.reduceLeDiff, Nat.reduceLT, Nat.reduceEqDiff, Nat.reduceBEq, Nat.reduceBNe, Int.reduceAdd, Int.reduceSub, Int.reduceMul, Int.reducePow, Int.reduceLE, Int.reduceLT, Int.reduceEq, Int.reduceToNat, Int.reduceNeg, reduceCtorEq, Nat.add_zero, Nat.zero_add, beq_self_eq_true, Try.f124]
  rw [hx]
  simp only [go_sem, Nat.reduceAdd, Nat.reduceSub, Nat.reduceMul, Nat.reduceDiv, Nat.reduceMod, Nat.reducePow, Nat.reduceLeDiff, Nat.reduceLT, Nat.reduceEqDiff, Nat.reduceBEq, Nat.reduceBNe, Int.reduceAdd, Int.reduceSub, Int.reduceMul, Int.reducePow, Int.reduceLE, Int.reduceLT, Int.reduceEq, Int.reduceToNat, Int.reduceNeg, reduceCtorEq, Nat.add_zero, Nat.zero_add, beq_self_eq_true, unwind, modeEx, resultsOf, one]

def nodeB (a b : Int) : List UInt8 := [bO 1] ++ eightL 8 a ++ eightL 8 b

@[go_sem] theorem nodeBytes_call (a b : Int) (ro : Nat) (H : Heap) (nx : Nat) : callT env 88 [.int .u64 a, .int .u64 b] ro H nx = some (.ret (.str (nodeB a b)), .ups []) := by
  refine call_pure (H' := []) rfl rfl rfl rfl ?_ rfl ro H nx
  rw [run_unfold fn88 rfl]
  simp only [go_sem, Nat.reduceAdd, Nat.reduceSub, Nat.reduceMul, Nat.reduceDiv, Nat.reduceMod, Nat.reducePow, Nat.reduceLeDiff, Nat.reduceLT, Nat.reduceEqDiff, Nat.reduceBEq, Nat.reduceBNe, Int.reduceAdd, Int.reduceSub, Int.reduceMul, Int.reducePow, Int.reduceLE, Int.reduceLT, Int.reduceEq, Int.reduceToNat, Int.reduceNeg, reduceCtorEq, Nat.add_zero, Nat.zero_add, beq_self_eq_true, Try.f88, unwind, modeEx, resultsOf, one, eightL_length, List.length_append, maxBytes]
  rfl

def hashS (s : List UInt8) : Int := (sB s).foldl hstep h0

theorem hash_loop (l : List UInt8) (H : Heap) (ro : Nat) (hlen : l.length < 2 ^ 63) : ∀ (n i : Nat) (h : Int) (j1 j2 j5 j6 j7 j8 j9 j10 j11 j12 j13 j14 j15 j16 j17 j18 : AVal), i + n = l.length →
    Goes (execT env (Try.f87.at [1, 1, 0, 1, 0]) ⟨[.str l, j1, j2, .int .u64 h, .int .i64 i, j5, j6, j7, j8, j9, j10, j11, j12, j13, j14, j15, j16, j17, j18], H, [], ro, []⟩) fun e s => e = .exit 0 ∧
      ∃ j0 j1 j2 j4 j5 j6 j7 j8 j9 j10 j11 j12 j13 j14 j15 j16 j17 j18, s = ⟨[j0, j1, j2, .int .u64 ((sB (l.drop i)).foldl hstep h), j4, j5, j6, j7, j8, j9, j10, j11, j12, j13, j14, j15, j16, j17, j18], H, [], ro, []⟩ := by
  intro n
  induction n with
  | zero =>
    intro i h j1 j2 j5 j6 j7 j8 j9 j10 j11 j12 j13 j14 j15 j16 j17 j18 hi
    have hd : decide ((i : Int) < (l.length : Int)) = false := by simp; omega
    have hdr : l.drop i = [] := List.drop_eq_nil_of_le (by omega)
    simp only [go_sem, Nat.reduceAdd, Nat.reduceSub, Nat.reduceMul, Nat.reduceDiv, Nat.reduceMod, Nat.reducePow, Nat.reduceLeDiff, Nat.reduceLT, Nat.reduceEqDiff, Nat.reduceBEq, Nat.reduceBNe, Int.reduceAdd, Int.reduceSub, Int.reduceMul, Int.reducePow, Int.reduceLE, Int.reduceLT, Int.reduceEq, Int.reduceToNat, Int.reduceNeg, reduceCtorEq, Nat.add_zero, Nat.zero_add, beq_self_eq_true, Try.f87]
    rw [execT_loop]
    simp only [go_sem, Nat.reduceAdd, Nat.reduceSub, Nat.reduceMul, Nat.reduceDiv, Nat.reduceMod, Nat.reducePow, Nat.reduceLeDiff, Nat.reduceLT, Nat.reduceEqDiff, Nat.reduceBEq, Nat.reduceBNe, Int.reduceAdd, Int.reduceSub, Int.reduceMul, Int.reducePow, Int.reduceLE, Int.reduceLT, Int.reduceEq, Int.reduceToNat, Int.reduceNeg, reduceCtorEq, Nat.add_zero, Nat.zero_add, beq_self_eq_true, hd, hdr, sB, List.foldl_nil]
    exact ⟨_, _, _, _, _, _, _, _, _, _, _, _, _, _, _, _, _, _, rfl⟩
  | succ n ih =>
    intro i h j1 j2 j5 j6 j7 j8 j9 j10 j11 j12 j13 j14 j15 j16 j17 j18 hi
    have hd : decide ((i : Int) < (l.length : Int)) = true := by simp; omega
    have h0 : (0 : Int) ≤ (i : Int) := by omega
    obtain ⟨b, hb, hdr⟩ := get_drop (show i < l.length by omega)
    have hb' : l[(i : Int).toNat]? = some b := by simpa using hb
    have ih' := ih (i + 1) (hstep h b.toNat)
    simp only [go_sem, Nat.reduceAdd, Nat.reduceSub, Nat.reduceMul, Nat.reduceDiv, Nat.reduceMod, Nat.reducePow, Nat.reduceLeDiff, Nat.reduceLT, Nat.reduceEqDiff, Nat.reduceBEq, Nat.reduceBNe, Int.reduceAdd, Int.reduceSub, Int.reduceMul, Int.reducePow, Int.reduceLE, Int.reduceLT, Int.reduceEq, Int.reduceToNat, Int.reduceNeg, reduceCtorEq, Nat.add_zero, Nat.zero_add, beq_self_eq_true, Try.f87] at ih' ⊢
    rw [execT_loop, hdr]
    simp only [go_sem, Nat.reduceAdd, Nat.reduceSub, Nat.reduceMul, Nat.reduceDiv, Nat.reduceMod, Nat.reducePow, Nat.reduceLeDiff, Nat.reduceLT, Nat.reduceEqDiff, Nat.reduceBEq, Nat.reduceBNe, Int.reduceAdd, Int.reduceSub, Int.reduceMul, Int.reducePow, Int.reduceLE, Int.reduceLT, Int.reduceEq, Int.reduceToNat, Int.reduceNeg, reduceCtorEq, Nat.add_zero, Nat.zero_add, beq_self_eq_true, hd, h0, hb', wrap_succ (show i < 2 ^ 63 - 1 by omega), sB, List.foldl_cons, List.map_cons]
    exact ih' _ _ _ _ _ _ _ _ _ _ _ _ _ _ _ _ (by omega)

theorem hash_call (l : List UInt8) (hlen : l.length < 2 ^ 63) (ro : Nat) (H : Heap) (nx : Nat) : callT env 87 [.str l] ro H nx = some (.ret (.int .u64 (hashS l)), .ups []) := by
  refine call_pure (H' := []) rfl rfl rfl rfl ?_ rfl ro H nx
  obtain ⟨e, s, hx, rfl, j0, j1, j2, j4, j5, j6, j7, j8, j9, j10, j11, j12, j13, j14, j15, j16, j17, j18, rfl⟩ := hash_loop l [] 0 hlen l.length 0 h0 _ _ _ _ _ _ _ _ _ _ _ _ _ _ _ _ (by omega)
  simp only [go_sem, Nat.reduceAdd, Nat.reduceSub, Nat.reduceMul, Nat.reduceDiv, Nat.reduceMod, Nat.reducePow, Nat.reduceLeDiff, Nat.reduceLT, Nat.reduceEqDiff, Nat.reduceBEq, Nat.reduceBNe, Int.reduceAdd, Int.reduceSub, Int.reduceMul, Int.reducePow, Int.reduceLE, Int.reduceLT, Int.reduceEq, Int.reduceToNat, Int.reduceNeg, reduceCtorEq, Nat.add_zero, Nat.zero_add, beq_self_eq_true, Try.f87, List.drop_zero, Int.ofNat_zero, Int.natCast_zero, h0] at hx
  rw [run_unfold fn87 rfl]
  simp only [go_sem, Nat.reduceAdd, Nat.reduceSub, Nat.reduceMul, Nat.reduceDiv, Nat.reduceMod, Nat.reducePow, Nat.reduceLeDiff, Nat.reduceLT, Nat.reduceEqDiff, Nat.reduceBEq, Nat.reduceBNe, Int.reduceAdd, Int.reduceSub, Int.reduceMul, Int.reducePow, Int.reduceLE, Int.reduceLT, Int.reduceEq, Int.reduceToNat, Int.reduceNeg, reduceCtorEq, Nat.add_zero, Nat.zero_add, beq_self_eq_true, Try.f87]
  rw [hx]
  simp only [go_sem, Nat.reduceAdd, Nat.reduceSub, Nat.reduceMul, Nat.reduceDiv, Nat.reduceMod, Nat.reducePow, Nat.reduceLeDiff, Nat.reduceLT, Nat.reduceEqDiff, Nat.reduceBEq, Nat.reduceBNe, Int.reduceAdd, Int.reduceSub, Int.reduceMul, Int.reducePow, Int.reduceLE, Int.reduceLT, Int.reduceEq, Int.reduceToNat, Int.reduceNeg, reduceCtorEq, Nat.add_zero, Nat.zero_add, beq_self_eq_true, unwind, modeEx, resultsOf, one, hashS, h0]

@[go_sem] theorem hash_call0 (ro : Nat) (H : Heap) (nx : Nat) : callT env 87 [.str []] ro H nx = some (.ret (.int .u64 h0), .ups []) := hash_call [] (by simp) ro H nx

theorem nodeB_length (a b : Int) : (nodeB a b).length = 17 := by simp [nodeB, eightL_length]

theorem rnode_call (a b : Int) (ro : Nat) (H : Heap) (nx : Nat) : callT env 23 [.int .u64 a, .int .u64 b] ro H nx = some (.ret (.int .u64 (hashS (nodeB a b))), .ups []) := by
  refine call_pure (H' := []) rfl rfl rfl rfl ?_ rfl ro H nx
  have h1 : (nodeB a b).length < 2 ^ 63 := by rw [nodeB_length]; decide
  rw [run_unfold fn23 rfl]
  simp only [go_sem, Nat.reduceAdd, Nat.reduceSub, Nat.reduceMul, Nat.reduceDiv, Nat.reduceMod, Nat.reducePow, Nat.reduceLeDiff, Nat.reduceLT, Nat.reduceEqDiff, Nat.reduceBEq, Nat.reduceBNe, Int.reduceAdd, Int.reduceSub, Int.reduceMul, Int.reducePow, Int.reduceLE, Int.reduceLT, Int.reduceEq, Int.reduceToNat, Int.reduceNeg, reduceCtorEq, Nat.add_zero, Nat.zero_add, beq_self_eq_true, Try.f23, hash_call, h1, unwind, modeEx, resultsOf, one]

def leafB (e : Entry) : List UInt8 := [bO 0] ++ [bO (IntKind.u64.wrap e.office)] ++ [bO (IntKind.u64.wrap e.no)] ++ [bO (IntKind.u64.wrap e.body.length)] ++ [bO (IntKind.u64.wrap ((IntKind.u64.wrap e.body.length).tdiv 256))] ++ e.body

theorem leafBytes_call (e : Entry) (hb : e.body.length ≤ 2 ^ 44) (ro : Nat) (H : Heap) (nx : Nat) : callT env 55 [e.enc] ro H nx = some (.ret (.str (leafB e)), .ups []) := by
  have h1 : 5 + e.body.length ≤ maxBytes := by unfold maxBytes; omega
  have : ∃ H', runT env 55 [e.enc] [] 0 = some (.ret (.str (leafB e)), H') := by
    rw [run_unfold fn55 rfl]
    simp only [go_sem, Nat.reduceAdd, Nat.reduceSub, Nat.reduceMul, Nat.reduceDiv, Nat.reduceMod, Nat.reducePow, Nat.reduceLeDiff, Nat.reduceLT, Nat.reduceEqDiff, Nat.reduceBEq, Nat.reduceBNe, Int.reduceAdd, Int.reduceSub, Int.reduceMul, Int.reducePow, Int.reduceLE, Int.reduceLT, Int.reduceEq, Int.reduceToNat, Int.reduceNeg, reduceCtorEq, Nat.add_zero, Nat.zero_add, beq_self_eq_true, Try.f55, enc_lit, h1, unwind, modeEx, resultsOf, one, List.length_append, show ∀ n, n ≤ 5 → n ≤ maxBytes from fun n h => by unfold maxBytes; omega]
    exact ⟨_, rfl⟩
  obtain ⟨H', h⟩ := this
  exact call_pure rfl rfl rfl rfl h rfl ro H nx

theorem leafB_length (e : Entry) : (leafB e).length = 5 + e.body.length := by simp [leafB]; omega

theorem rleaf_call (e : Entry) (hb : e.body.length ≤ 2 ^ 44) (ro : Nat) (H : Heap) (nx : Nat) : callT env 80 [e.enc] ro H nx = some (.ret (.int .u64 (hashS (leafB e))), .ups []) := by
  have h1 : (leafB e).length < 2 ^ 63 := by rw [leafB_length]; omega
  have : ∃ H', runT env 80 [e.enc] [] 0 = some (.ret (.int .u64 (hashS (leafB e))), H') := by
    have hx := leafBytes_call e hb
    rw [enc_lit] at hx
    rw [run_unfold fn80 rfl]
    simp only [go_sem, Nat.reduceAdd, Nat.reduceSub, Nat.reduceMul, Nat.reduceDiv, Nat.reduceMod, Nat.reducePow, Nat.reduceLeDiff, Nat.reduceLT, Nat.reduceEqDiff, Nat.reduceBEq, Nat.reduceBNe, Int.reduceAdd, Int.reduceSub, Int.reduceMul, Int.reducePow, Int.reduceLE, Int.reduceLT, Int.reduceEq, Int.reduceToNat, Int.reduceNeg, reduceCtorEq, Nat.add_zero, Nat.zero_add, beq_self_eq_true, Try.f80, enc_lit, hx, h1, hash_call, unwind, modeEx, resultsOf, one]
    exact ⟨_, rfl⟩
  obtain ⟨H', h⟩ := this
  exact call_pure rfl rfl rfl rfl h rfl ro H nx

@[go_sem] theorem fold_enc (e : Entry) : AVal.agg [.int .i64 e.office, .int .i64 e.no, .str e.body] = e.enc := rfl
@[go_sem] theorem cellsOf_enc (e : Entry) : e.enc.cellsOf = [.int .i64 e.office, .int .i64 e.no, .str e.body] := rfl
@[go_sem] theorem isTuple_enc (e : Entry) : e.enc.isTuple = false := rfl
@[go_sem] theorem under_enc (e : Entry) (m : Nat) : e.enc.under m = true := rfl
@[go_sem] theorem refs_enc (e : Entry) : e.enc.refs = [] := rfl
end Go.Proofs.Ytamcncpgfhfheaa.Tidy

/-
  Trees: the roots, of the program and of the reference.
-/
namespace Go.Proofs.Ytamcncpgfhfheaa.Tidy
open Go Go.IntWalk
set_option maxRecDepth 10000
set_option linter.unusedSimpArgs false

/-- where a list is parted -/
def splitS (n : Nat) : Nat := 2 ^ Nat.log2 (n - 1)

theorem splitS_lt {n : Nat} (h : 2 ≤ n) : 1 ≤ splitS n ∧ splitS n < n := by
  unfold splitS
  refine ⟨Nat.one_le_two_pow, ?_⟩
  have := Nat.log2_self_le (n := n - 1) (by omega)
  omega

/-- how many binary digits a byte has -/
abbrev lenTab : List UInt8 := ([0, 1, 2, 2, 3, 3, 3, 3, 4, 4, 4, 4, 4, 4, 4, 4, 5, 5, 5, 5, 5, 5, 5, 5, 5, 5, 5, 5, 5, 5, 5, 5, 6, 6, 6, 6, 6, 6, 6, 6, 6, 6, 6, 6, 6, 6, 6, 6, 6, 6, 6, 6, 6, 6, 6, 6, 6, 6, 6, 6, 6, 6, 6, 6].append [7, 7, 7, 7, 7, 7, 7, 7, 7, 7, 7, 7, 7, 7, 7, 7, 7, 7, 7, 7, 7, 7, 7, 7, 7, 7, 7, 7, 7, 7, 7, 7, 7, 7, 7, 7, 7, 7, 7, 7, 7, 7, 7, 7, 7, 7, 7, 7, 7, 7, 7, 7, 7, 7, 7, 7, 7, 7, 7, 7, 7, 7, 7, 7]).append ([8, 8, 8, 8, 8, 8, 8, 8, 8, 8, 8, 8, 8, 8, 8, 8, 8, 8, 8, 8, 8, 8, 8, 8, 8, 8, 8, 8, 8, 8, 8, 8, 8, 8, 8, 8, 8, 8, 8, 8, 8, 8, 8, 8, 8, 8, 8, 8, 8, 8, 8, 8, 8, 8, 8, 8, 8, 8, 8, 8, 8, 8, 8, 8].append [8, 8, 8, 8, 8, 8, 8, 8, 8, 8, 8, 8, 8, 8, 8, 8, 8, 8, 8, 8, 8, 8, 8, 8, 8, 8, 8, 8, 8, 8, 8, 8, 8, 8, 8, 8, 8, 8, 8, 8, 8, 8, 8, 8, 8, 8, 8, 8, 8, 8, 8, 8, 8, 8, 8, 8, 8, 8, 8, 8, 8, 8, 8, 8])

theorem lenTab_all : ((List.range' 1 255).all fun n => lenTab[n]? == some (UInt8.ofNat (Nat.log2 n + 1))) = true := by kernel_rfl
theorem lenTab_get {n : Nat} (h1 : 1 ≤ n) (h2 : n < 256) : lenTab[n]? = some (UInt8.ofNat (Nat.log2 n + 1)) := by
  have := List.all_eq_true.1 lenTab_all n (by rw [List.mem_range'_1]; omega)
  simpa only [beq_iff_eq] using this

theorem log2_lt8 {n : Nat} (h1 : 1 ≤ n) (h2 : n < 256) : Nat.log2 n < 8 := (Nat.log2_lt (by omega)).2 h2

theorem len64_run (n : Nat) (h1 : 1 ≤ n) (h2 : n < 512) : runT env 132 [.int .u64 n] [] 0 = some (.ret (.int .i64 ((Nat.log2 n + 1 : Nat) : Int)), []) := by
  have c1 : decide ((4294967296 : Int) ≤ (n : Int)) = false := by simp; omega
  have c2 : decide ((65536 : Int) ≤ (n : Int)) = false := by simp; omega
  have c0 : (0 : Int) ≤ (n : Int) := by omega
  rw [run_unfold fn132 rfl]
  by_cases h : n < 256
  · have c3 : decide ((256 : Int) ≤ (n : Int)) = false := by simp; omega
    have c4 : IntKind.u8.wrap (n : Int) = n := u8_in _ (by omega)
    have c5 : ((n : Int)).toNat = n := by simp
    have c6 := log2_lt8 h1 h
    have c7 : (UInt8.ofNat (Nat.log2 n + 1)).toNat = Nat.log2 n + 1 := by simp; omega
    have c8 : IntKind.i64.wrap (((Nat.log2 n + 1 : Nat)) : Int) = ((Nat.log2 n + 1 : Nat) : Int) := i64_in _ (by omega)
    simp only [go_sem, Nat.reduceAdd, Nat.reduceSub, Nat.reduceMul, Nat.reduceDiv, Nat.reduceMod, Nat.reducePow, Nat.reduceLeDiff, Nat.reduceLT, Nat.reduceEqDiff, Nat.reduceBEq, Nat.reduceBNe, Int.reduceAdd, Int.reduceSub, Int.reduceMul, Int.reducePow, Int.reduceLE, Int.reduceLT, Int.reduceEq, Int.reduceToNat, Int.reduceNeg, reduceCtorEq, Nat.add_zero, Nat.zero_add, beq_self_eq_true, Try.f132, unwind, modeEx, resultsOf, one, c0, c1, c2, c3, c4, c5, lenTab_get h1 h, c7, c8, Int.zero_add]
  · have c3 : decide ((256 : Int) ≤ (n : Int)) = true := by simp; omega
    have hp : ((2 : Int) ^ (min 8 64)) = 256 := by decide
    have hf : (n : Int).fdiv 256 = 1 := by
      rw [Int.fdiv_eq_ediv_of_nonneg _ (by omega)]; omega
    have c4 : IntKind.u8.wrap 1 = 1 := by decide
    have c5 : (1 : Int).toNat = 1 := rfl
    have c7 : (UInt8.ofNat (Nat.log2 1 + 1)).toNat = 1 := by decide
    have c8 : IntKind.i64.wrap (1 : Int) = 1 := by decide
    have c9 : IntKind.i64.wrap (8 : Int) = 8 := by decide
    have c10 : IntKind.i64.wrap (9 : Int) = 9 := by decide
    have c11 : Nat.log2 n = 8 := (Nat.log2_eq_iff (by omega)).2 (by omega)
    simp only [go_sem, Nat.reduceAdd, Nat.reduceSub, Nat.reduceMul, Nat.reduceDiv, Nat.reduceMod, Nat.reducePow, Nat.reduceLeDiff, Nat.reduceLT, Nat.reduceEqDiff, Nat.reduceBEq, Nat.reduceBNe, Int.reduceAdd, Int.reduceSub, Int.reduceMul, Int.reducePow, Int.reduceLE, Int.reduceLT, Int.reduceEq, Int.reduceToNat, Int.reduceNeg, reduceCtorEq, Nat.add_zero, Nat.zero_add, beq_self_eq_true, Try.f132, unwind, modeEx, resultsOf, one, c0, c1, c2, c3, hp, hf, c4, c5, lenTab_get (n := 1) (by omega) (by omega), c7, c8, c9, c10, c11, Int.zero_add, Int.natCast_one]
    rfl

theorem len64_call (n : Nat) (h1 : 1 ≤ n) (h2 : n < 512) (ro : Nat) (H : Heap) (nx : Nat) : callT env 132 [.int .u64 n] ro H nx = some (.ret (.int .i64 ((Nat.log2 n + 1 : Nat) : Int)), .ups []) :=
  call_pure rfl rfl rfl rfl (len64_run n h1 h2) rfl ro H nx

theorem len_call (n : Nat) (h1 : 1 ≤ n) (h2 : n < 512) (ro : Nat) (H : Heap) (nx : Nat) : callT env 129 [.int .u64 n] ro H nx = some (.ret (.int .i64 ((Nat.log2 n + 1 : Nat) : Int)), .ups []) := by
  refine call_pure (H' := []) rfl rfl rfl rfl ?_ rfl ro H nx
  rw [run_unfold fn129 rfl]
  simp only [go_sem, Nat.reduceAdd, Nat.reduceSub, Nat.reduceMul, Nat.reduceDiv, Nat.reduceMod, Nat.reducePow, Nat.reduceLeDiff, Nat.reduceLT, Nat.reduceEqDiff, Nat.reduceBEq, Nat.reduceBNe, Int.reduceAdd, Int.reduceSub, Int.reduceMul, Int.reducePow, Int.reduceLE, Int.reduceLT, Int.reduceEq, Int.reduceToNat, Int.reduceNeg, reduceCtorEq, Nat.add_zero, Nat.zero_add, beq_self_eq_true, Try.f129, unwind, modeEx, resultsOf, one, len64_call, h1, h2]

theorem log2_lt9 {n : Nat} (h2 : n < 512) : Nat.log2 n < 9 := by
  rcases Nat.eq_zero_or_pos n with rfl | h
  · decide
  · exact (Nat.log2_lt (by omega)).2 h2

theorem split_call {n : Nat} (h1 : 2 ≤ n) (h2 : n ≤ 512) (ro : Nat) (H : Heap) (nx : Nat) : callT env 123 [.int .i64 n] ro H nx = some (.ret (.int .i64 (splitS n)), .ups []) := by
  refine call_pure (H' := []) rfl rfl rfl rfl ?_ rfl ro H nx
  have e1 : IntKind.i64.wrap ((n : Int) - 1) = ((n - 1 : Nat) : Int) := by rw [i64_in _ (by omega)]; omega
  have e2 : IntKind.u64.wrap ((n - 1 : Nat) : Int) = ((n - 1 : Nat) : Int) := u64_in _ (by omega)
  have hl := log2_lt9 (n := n - 1) (by omega)
  have e3 : IntKind.i64.wrap (((Nat.log2 (n - 1) + 1 : Nat) : Int) - 1) = ((Nat.log2 (n - 1) : Nat) : Int) := by rw [i64_in _ (by omega)]; omega
  have e4 : ¬ (((Nat.log2 (n - 1) : Nat) : Int) < 0) := by omega
  have e5 : min (((Nat.log2 (n - 1) : Nat) : Int)).toNat 64 = Nat.log2 (n - 1) := by simp; omega
  have e6 : IntKind.i64.wrap (1 * 2 ^ Nat.log2 (n - 1)) = ((splitS n : Nat) : Int) := by
    have : (2 : Nat) ^ Nat.log2 (n - 1) ≤ 2 ^ 9 := Nat.pow_le_pow_right (by decide) (by omega)
    have h3 : (1 : Int) * 2 ^ Nat.log2 (n - 1) = ((2 ^ Nat.log2 (n - 1) : Nat) : Int) := by simp
    rw [h3]
    unfold splitS
    generalize 2 ^ Nat.log2 (n - 1) = q at this ⊢
    exact i64_in _ (by omega)
  rw [run_unfold fn123 rfl]
  simp only [go_sem, Nat.reduceAdd, Nat.reduceSub, Nat.reduceMul, Nat.reduceDiv, Nat.reduceMod, Nat.reducePow, Nat.reduceLeDiff, Nat.reduceLT, Nat.reduceEqDiff, Nat.reduceBEq, Nat.reduceBNe, Int.reduceAdd, Int.reduceSub, Int.reduceMul, Int.reducePow, Int.reduceLE, Int.reduceLT, Int.reduceEq, Int.reduceToNat, Int.reduceNeg, reduceCtorEq, Nat.add_zero, Nat.zero_add, beq_self_eq_true, Try.f123, unwind, modeEx, resultsOf, one, e1, e2, len_call (n - 1) (by omega) (by omega), e3, e4, e5, e6]

theorem rsplit_loop (n : Nat) (h1 : 2 ≤ n) (h2 : n ≤ 512) (H : Heap) (ro : Nat) : ∀ (m j : Nat) (j1 j2 j4 j5 j6 j7 j8 j9 j10 : AVal), j + m = Nat.log2 (n - 1) →
    Goes (execT env (Try.f104.at [1, 1, 0, 0]) ⟨[.int .i64 n, j1, j2, .int .i64 ((2 ^ j : Nat) : Int), j4, j5, j6, j7, j8, j9, j10], H, [], ro, []⟩) fun e s => e = .exit 0 ∧
      ∃ j0 j1 j2 j4 j5 j6 j7 j8 j9 j10, s = ⟨[j0, j1, j2, .int .i64 (splitS n), j4, j5, j6, j7, j8, j9, j10], H, [], ro, []⟩ := by
  have hl := log2_lt9 (n := n - 1) (by omega)
  have hlo := Nat.log2_self_le (n := n - 1) (by omega)
  have hhi := Nat.lt_log2_self (n := n - 1)
  intro m
  induction m with
  | zero =>
    intro j j1 j2 j4 j5 j6 j7 j8 j9 j10 hj
    have hj : j = Nat.log2 (n - 1) := by omega
    have hp : (2 : Nat) ^ j ≤ 2 ^ 9 := Nat.pow_le_pow_right (by decide) (by omega)
    have hw : IntKind.i64.wrap (2 * ((2 ^ j : Nat) : Int)) = ((2 ^ (j + 1) : Nat) : Int) := by
      rw [Nat.pow_succ]
      generalize 2 ^ j = q at hp ⊢
      rw [i64_in _ (by omega)]; omega
    have hd : decide (((2 ^ (j + 1) : Nat) : Int) < (n : Int)) = false := by
      have : n ≤ 2 ^ (j + 1) := by
        rw [hj]
        exact Nat.le_of_pred_lt hhi
      generalize 2 ^ (j + 1) = q at this ⊢
      simp only [decide_eq_false_iff_not]; omega
    simp only [go_sem, Nat.reduceAdd, Nat.reduceSub, Nat.reduceMul, Nat.reduceDiv, Nat.reduceMod, Nat.reducePow, Nat.reduceLeDiff, Nat.reduceLT, Nat.reduceEqDiff, Nat.reduceBEq, Nat.reduceBNe, Int.reduceAdd, Int.reduceSub, Int.reduceMul, Int.reducePow, Int.reduceLE, Int.reduceLT, Int.reduceEq, Int.reduceToNat, Int.reduceNeg, reduceCtorEq, Nat.add_zero, Nat.zero_add, beq_self_eq_true, Try.f104]
    rw [execT_loop]
    simp only [go_sem, Nat.reduceAdd, Nat.reduceSub, Nat.reduceMul, Nat.reduceDiv, Nat.reduceMod, Nat.reducePow, Nat.reduceLeDiff, Nat.reduceLT, Nat.reduceEqDiff, Nat.reduceBEq, Nat.reduceBNe, Int.reduceAdd, Int.reduceSub, Int.reduceMul, Int.reducePow, Int.reduceLE, Int.reduceLT, Int.reduceEq, Int.reduceToNat, Int.reduceNeg, reduceCtorEq, Nat.add_zero, Nat.zero_add, beq_self_eq_true, hw, hd]
    rw [hj]
    exact ⟨_, _, _, _, _, _, _, _, _, _, rfl⟩
  | succ m ih =>
    intro j j1 j2 j4 j5 j6 j7 j8 j9 j10 hj
    have hp : (2 : Nat) ^ j ≤ 2 ^ 9 := Nat.pow_le_pow_right (by decide) (by omega)
    have hw : IntKind.i64.wrap (2 * ((2 ^ j : Nat) : Int)) = ((2 ^ (j + 1) : Nat) : Int) := by
      rw [Nat.pow_succ]
      generalize 2 ^ j = q at hp ⊢
      rw [i64_in _ (by omega)]; omega
    have hd : decide (((2 ^ (j + 1) : Nat) : Int) < (n : Int)) = true := by
      have : (2 : Nat) ^ (j + 1) ≤ 2 ^ Nat.log2 (n - 1) := Nat.pow_le_pow_right (by decide) (by omega)
      have h5 : 2 ^ (j + 1) < n := Nat.lt_of_le_of_lt this (Nat.lt_of_le_of_lt hlo (by omega))
      generalize 2 ^ (j + 1) = q at h5 ⊢
      simp only [decide_eq_true_eq]; omega
    have ih' := ih (j + 1)
    simp only [go_sem, Nat.reduceAdd, Nat.reduceSub, Nat.reduceMul, Nat.reduceDiv, Nat.reduceMod, Nat.reducePow, Nat.reduceLeDiff, Nat.reduceLT, Nat.reduceEqDiff, Nat.reduceBEq, Nat.reduceBNe, Int.reduceAdd, Int.reduceSub, Int.reduceMul, Int.reducePow, Int.reduceLE, Int.reduceLT, Int.reduceEq, Int.reduceToNat, Int.reduceNeg, reduceCtorEq, Nat.add_zero, Nat.zero_add, beq_self_eq_true, Try.f104] at ih' ⊢
    rw [execT_loop]
    simp only [go_sem, Nat.reduceAdd, Nat.reduceSub, Nat.reduceMul, Nat.reduceDiv, Nat.reduceMod, Nat.reducePow, Nat.reduceLeDiff, Nat.reduceLT, Nat.reduceEqDiff, Nat.reduceBEq, Nat.reduceBNe, Int.reduceAdd, Int.reduceSub, Int.reduceMul, Int.reducePow, Int.reduceLE, Int.reduceLT, Int.reduceEq, Int.reduceToNat, Int.reduceNeg, reduceCtorEq, Nat.add_zero, Nat.zero_add, beq_self_eq_true, hw, hd]
    exact ih' _ _ _ _ _ _ _ _ _ (by omega)

theorem rsplit_call {n : Nat} (h1 : 2 ≤ n) (h2 : n ≤ 512) (ro : Nat) (H : Heap) (nx : Nat) : callT env 104 [.int .i64 n] ro H nx = some (.ret (.int .i64 (splitS n)), .ups []) := by
  refine call_pure (H' := []) rfl rfl rfl rfl ?_ rfl ro H nx
  obtain ⟨e, s, hx, rfl, j0, j1, j2, j4, j5, j6, j7, j8, j9, j10, rfl⟩ := rsplit_loop n h1 h2 [] 0 (Nat.log2 (n - 1)) 0 _ _ _ _ _ _ _ _ _ (by omega)
  simp only [go_sem, Nat.reduceAdd, Nat.reduceSub, Nat.reduceMul, Nat.reduceDiv, Nat.reduceMod, Nat.reducePow, Nat.reduceLeDiff, Nat.reduceLT, Nat.reduceEqDiff, Nat.reduceBEq, Nat.reduceBNe, Int.reduceAdd, Int.reduceSub, Int.reduceMul, Int.reducePow, Int.reduceLE, Int.reduceLT, Int.reduceEq, Int.reduceToNat, Int.reduceNeg, reduceCtorEq, Nat.add_zero, Nat.zero_add, beq_self_eq_true, Try.f104, Nat.pow_zero, Int.natCast_one] at hx
  rw [run_unfold fn104 rfl]
  simp only [go_sem, Nat.reduceAdd, Nat.reduceSub, Nat.reduceMul, Nat.reduceDiv, Nat.reduceMod, Nat.reducePow, Nat.reduceLeDiff, Nat.reduceLT, Nat.reduceEqDiff, Nat.reduceBEq, Nat.reduceBNe, Int.reduceAdd, Int.reduceSub, Int.reduceMul, Int.reducePow, Int.reduceLE, Int.reduceLT, Int.reduceEq, Int.reduceToNat, Int.reduceNeg, reduceCtorEq, Nat.add_zero, Nat.zero_add, beq_self_eq_true, Try.f104]
  rw [hx]
  simp only [go_sem, Nat.reduceAdd, Nat.reduceSub, Nat.reduceMul, Nat.reduceDiv, Nat.reduceMod, Nat.reducePow, Nat.reduceLeDiff, Nat.reduceLT, Nat.reduceEqDiff, Nat.reduceBEq, Nat.reduceBNe, Int.reduceAdd, Int.reduceSub, Int.reduceMul, Int.reducePow, Int.reduceLE, Int.reduceLT, Int.reduceEq, Int.reduceToNat, Int.reduceNeg, reduceCtorEq, Nat.add_zero, Nat.zero_add, beq_self_eq_true, unwind, modeEx, resultsOf, one]

/-- a list of entries, by value -/
abbrev encL (cl : Bool) (l : List Entry) : AVal := .lit cl 3 (l.map Entry.enc)

/-- the root of entries, over leaves and nodes -/
def rootG (leaf : Entry → Int) (node : Int → Int → Int) : Nat → List Entry → Int
  | 0, _ => h0
  | n + 1, l => match l with
    | [] => h0
    | [e] => leaf e
    | l => node (rootG leaf node n (l.take (splitS l.length))) (rootG leaf node n (l.drop (splitS l.length)))

def rootI (l : List Entry) : Int := rootG leafI nodeI l.length l
def rootR (l : List Entry) : Int := rootG (fun e => hashS (leafB e)) (fun a b => hashS (nodeB a b)) l.length l

theorem rootG_more (leaf : Entry → Int) (node : Int → Int → Int) : ∀ (n m : Nat) (l : List Entry), l.length ≤ n → l.length ≤ m → rootG leaf node n l = rootG leaf node m l
  | 0, m, l, h, _ => by
    have : l = [] := List.eq_nil_of_length_eq_zero (by omega)
    subst this
    cases m <;> rfl
  | n + 1, 0, l, _, h => by
    have : l = [] := List.eq_nil_of_length_eq_zero (by omega)
    subst this
    rfl
  | n + 1, m + 1, l, h, h' => by
    match l, h, h' with
    | [], _, _ => rfl
    | [e], _, _ => rfl
    | a :: b :: l, h, h' =>
      have hs := splitS_lt (n := (a :: b :: l).length) (by simp)
      simp only [rootG]
      rw [rootG_more leaf node n m _ (by rw [List.length_take]; omega) (by rw [List.length_take]; omega), rootG_more leaf node n m _ (by rw [List.length_drop]; omega) (by rw [List.length_drop]; omega)]

theorem rootG_eq (leaf : Entry → Int) (node : Int → Int → Int) {l : List Entry} (h : 2 ≤ l.length) : rootG leaf node l.length l = node (rootG leaf node (l.take (splitS l.length)).length (l.take (splitS l.length))) (rootG leaf node (l.drop (splitS l.length)).length (l.drop (splitS l.length))) := by
  match l, h with
  | a :: b :: l, h =>
    have hs := splitS_lt h
    rw [show (a :: b :: l).length = (b :: l).length + 1 from rfl]
    simp only [rootG]
    rw [rootG_more leaf node _ (List.take (splitS (a :: b :: l).length) (a :: b :: l)).length _ (by rw [List.length_take]; simp only [List.length_cons] at hs ⊢; omega) (Nat.le_refl _), rootG_more leaf node (b :: l).length (List.drop (splitS (a :: b :: l).length) (a :: b :: l)).length _ (by rw [List.length_drop]; simp only [List.length_cons] at hs ⊢; omega) (Nat.le_refl _)]
    rfl

def small (l : List Entry) : Prop := ∀ e ∈ l, e.body.length ≤ 2 ^ 44

theorem small.take {l : List Entry} (h : small l) (n : Nat) : small (l.take n) := fun e he => h e (List.mem_of_mem_take he)
theorem small.drop {l : List Entry} (h : small l) (n : Nat) : small (l.drop n) := fun e he => h e (List.mem_of_mem_drop he)

theorem sl_to (cl : Bool) (l : List Entry) (k : Nat) (hk : k ≤ l.length) (H : Heap) : sliceOp env H 24 (.lit cl 3 (l.map Entry.enc)) none (some (.int .i64 k)) none = some (.lit (cl && k == l.length) 3 ((l.take k).map Entry.enc)) := by
  rw [slice_to (te := ⟨.struct [(3, 0), (3, 1), (9, 2)], 3, 32, .agg [.int .i64 (0), .int .i64 (0), .str []]⟩) ti24 ti23 (by simpa using hk), List.length_map, List.map_take]
theorem sl_from (cl : Bool) (l : List Entry) (k : Nat) (hk : k ≤ l.length) (H : Heap) : sliceOp env H 24 (.lit cl 3 (l.map Entry.enc)) (some (.int .i64 k)) none none = some (.lit cl 3 ((l.drop k).map Entry.enc)) := by
  rw [slice_from (te := ⟨.struct [(3, 0), (3, 1), (9, 2)], 3, 32, .agg [.int .i64 (0), .int .i64 (0), .str []]⟩) ti24 ti23 (by simpa using hk), List.map_drop]
theorem sl_to3 (cl : Bool) (l : List Entry) (k : Nat) (hk : k ≤ l.length) (H : Heap) : sliceOp env H 24 (.lit cl 3 (l.map Entry.enc)) none (some (.int .i64 k)) (some (.int .i64 k)) = some (.lit true 3 ((l.take k).map Entry.enc)) := by
  rw [slice_to3 (te := ⟨.struct [(3, 0), (3, 1), (9, 2)], 3, 32, .agg [.int .i64 (0), .int .i64 (0), .str []]⟩) ti24 ti23 (by simpa using hk), List.map_take]

theorem root_run : ∀ (n : Nat) (cl : Bool) (l : List Entry), l.length = n → n ≤ 512 → small l → ∃ H', runT env 82 [encL cl l] [] 0 = some (.ret (.int .u64 (rootI l)), H') := by
  intro n
  induction n using Nat.strongRecOn with
  | _ n ih =>
    intro cl l hl hn hsm
    rw [run_unfold fn82 rfl]
    by_cases h0 : n = 0
    · have : l = [] := List.eq_nil_of_length_eq_zero (by omega)
      subst this
      simp only [go_sem, Nat.reduceAdd, Nat.reduceSub, Nat.reduceMul, Nat.reduceDiv, Nat.reduceMod, Nat.reducePow, Nat.reduceLeDiff, Nat.reduceLT, Nat.reduceEqDiff, Nat.reduceBEq, Nat.reduceBNe, Int.reduceAdd, Int.reduceSub, Int.reduceMul, Int.reducePow, Int.reduceLE, Int.reduceLT, Int.reduceEq, Int.reduceToNat, Int.reduceNeg, reduceCtorEq, Nat.add_zero, Nat.zero_add, beq_self_eq_true, Try.f82, encL, unwind, modeEx, resultsOf, one, Int.ofNat_zero, Int.natCast_zero]
      exact ⟨_, rfl⟩
    · by_cases h1 : n = 1
      · obtain ⟨e, rfl⟩ : ∃ e, l = [e] := List.length_eq_one_iff.1 (by omega)
        have hlf := leaf_call e (hsm e (by simp))
        simp only [go_sem, Nat.reduceAdd, Nat.reduceSub, Nat.reduceMul, Nat.reduceDiv, Nat.reduceMod, Nat.reducePow, Nat.reduceLeDiff, Nat.reduceLT, Nat.reduceEqDiff, Nat.reduceBEq, Nat.reduceBNe, Int.reduceAdd, Int.reduceSub, Int.reduceMul, Int.reducePow, Int.reduceLE, Int.reduceLT, Int.reduceEq, Int.reduceToNat, Int.reduceNeg, reduceCtorEq, Nat.add_zero, Nat.zero_add, beq_self_eq_true, Try.f82, encL, unwind, modeEx, resultsOf, one, Int.natCast_one, hlf]
        exact ⟨_, rfl⟩
      · have hs := splitS_lt (n := l.length) (by omega)
        have d0 : decide ((l.length : Int) = 0) = false := by simp only [decide_eq_false_iff_not]; omega
        have d1 : decide ((l.length : Int) = 1) = false := by simp only [decide_eq_false_iff_not]; omega
        have c1 : ∀ (cl : Bool) ro H nx, callT env 82 [.lit cl 3 ((l.take (splitS l.length)).map Entry.enc)] ro H nx = some (.ret (.int .u64 (rootI (l.take (splitS l.length)))), .ups []) := by
          intro cl ro H nx
          obtain ⟨H', h⟩ := ih (l.take (splitS l.length)).length (by rw [List.length_take]; omega) cl (l.take (splitS l.length)) rfl (by rw [List.length_take]; omega) (hsm.take _)
          exact call_pure rfl rfl rfl rfl h rfl ro H nx
        have c2 : ∀ (cl : Bool) ro H nx, callT env 82 [.lit cl 3 ((l.drop (splitS l.length)).map Entry.enc)] ro H nx = some (.ret (.int .u64 (rootI (l.drop (splitS l.length)))), .ups []) := by
          intro cl ro H nx
          obtain ⟨H', h⟩ := ih (l.drop (splitS l.length)).length (by rw [List.length_drop]; omega) cl (l.drop (splitS l.length)) rfl (by rw [List.length_drop]; omega) (hsm.drop _)
          exact call_pure rfl rfl rfl rfl h rfl ro H nx
        have hroot : rootI l = nodeI (rootI (l.take (splitS l.length))) (rootI (l.drop (splitS l.length))) := rootG_eq leafI nodeI (by omega)
        rw [hroot]
        simp only [go_sem, Nat.reduceAdd, Nat.reduceSub, Nat.reduceMul, Nat.reduceDiv, Nat.reduceMod, Nat.reducePow, Nat.reduceLeDiff, Nat.reduceLT, Nat.reduceEqDiff, Nat.reduceBEq, Nat.reduceBNe, Int.reduceAdd, Int.reduceSub, Int.reduceMul, Int.reducePow, Int.reduceLE, Int.reduceLT, Int.reduceEq, Int.reduceToNat, Int.reduceNeg, reduceCtorEq, Nat.add_zero, Nat.zero_add, beq_self_eq_true, Try.f82, encL, unwind, modeEx, resultsOf, one, List.length_map, d0, d1, split_call (n := l.length) (by omega) (by omega), sl_to _ _ _ (show splitS l.length ≤ l.length by omega), sl_from _ _ _ (show splitS l.length ≤ l.length by omega), c1, c2, node_call]
        exact ⟨_, rfl⟩

theorem root_call (cl : Bool) (l : List Entry) (h1 : l.length ≤ 512) (h2 : small l) (ro : Nat) (H : Heap) (nx : Nat) : callT env 82 [.lit cl 3 (l.map Entry.enc)] ro H nx = some (.ret (.int .u64 (rootI l)), .ups []) := by
  obtain ⟨H', h⟩ := root_run _ cl l rfl h1 h2
  exact call_pure rfl rfl rfl rfl h rfl ro H nx

theorem rroot_run : ∀ (n : Nat) (cl : Bool) (l : List Entry), l.length = n → n ≤ 512 → small l → ∃ H', runT env 84 [encL cl l] [] 0 = some (.ret (.int .u64 (rootR l)), H') := by
  intro n
  induction n using Nat.strongRecOn with
  | _ n ih =>
    intro cl l hl hn hsm
    rw [run_unfold fn84 rfl]
    by_cases h0 : n = 0
    · have : l = [] := List.eq_nil_of_length_eq_zero (by omega)
      subst this
      simp only [go_sem, Nat.reduceAdd, Nat.reduceSub, Nat.reduceMul, Nat.reduceDiv, Nat.reduceMod, Nat.reducePow, Nat.reduceLeDiff, Nat.reduceLT, Nat.reduceEqDiff, Nat.reduceBEq, Nat.reduceBNe, Int.reduceAdd, Int.reduceSub, Int.reduceMul, Int.reducePow, Int.reduceLE, Int.reduceLT, Int.reduceEq, Int.reduceToNat, Int.reduceNeg, reduceCtorEq, Nat.add_zero, Nat.zero_add, beq_self_eq_true, Try.f84, encL, unwind, modeEx, resultsOf, one, Int.ofNat_zero, Int.natCast_zero]
      exact ⟨_, rfl⟩
    · by_cases h1 : n = 1
      · obtain ⟨e, rfl⟩ : ∃ e, l = [e] := List.length_eq_one_iff.1 (by omega)
        have hlf := rleaf_call e (hsm e (by simp))
        simp only [go_sem, Nat.reduceAdd, Nat.reduceSub, Nat.reduceMul, Nat.reduceDiv, Nat.reduceMod, Nat.reducePow, Nat.reduceLeDiff, Nat.reduceLT, Nat.reduceEqDiff, Nat.reduceBEq, Nat.reduceBNe, Int.reduceAdd, Int.reduceSub, Int.reduceMul, Int.reducePow, Int.reduceLE, Int.reduceLT, Int.reduceEq, Int.reduceToNat, Int.reduceNeg, reduceCtorEq, Nat.add_zero, Nat.zero_add, beq_self_eq_true, Try.f84, encL, unwind, modeEx, resultsOf, one, Int.natCast_one, hlf]
        exact ⟨_, rfl⟩
      · have hs := splitS_lt (n := l.length) (by omega)
        have d0 : decide ((l.length : Int) = 0) = false := by simp only [decide_eq_false_iff_not]; omega
        have d1 : decide ((l.length : Int) = 1) = false := by simp only [decide_eq_false_iff_not]; omega
        have c1 : ∀ (cl : Bool) ro H nx, callT env 84 [.lit cl 3 ((l.take (splitS l.length)).map Entry.enc)] ro H nx = some (.ret (.int .u64 (rootR (l.take (splitS l.length)))), .ups []) := by
          intro cl ro H nx
          obtain ⟨H', h⟩ := ih (l.take (splitS l.length)).length (by rw [List.length_take]; omega) cl (l.take (splitS l.length)) rfl (by rw [List.length_take]; omega) (hsm.take _)
          exact call_pure rfl rfl rfl rfl h rfl ro H nx
        have c2 : ∀ (cl : Bool) ro H nx, callT env 84 [.lit cl 3 ((l.drop (splitS l.length)).map Entry.enc)] ro H nx = some (.ret (.int .u64 (rootR (l.drop (splitS l.length)))), .ups []) := by
          intro cl ro H nx
          obtain ⟨H', h⟩ := ih (l.drop (splitS l.length)).length (by rw [List.length_drop]; omega) cl (l.drop (splitS l.length)) rfl (by rw [List.length_drop]; omega) (hsm.drop _)
          exact call_pure rfl rfl rfl rfl h rfl ro H nx
        have hroot : rootR l = hashS (nodeB (rootR (l.take (splitS l.length))) (rootR (l.drop (splitS l.length)))) := rootG_eq _ (fun a b => hashS (nodeB a b)) (by omega)
        rw [hroot]
        simp only [go_sem, Nat.reduceAdd, Nat.reduceSub, Nat.reduceMul, Nat.reduceDiv, Nat.reduceMod, Nat.reducePow, Nat.reduceLeDiff, Nat.reduceLT, Nat.reduceEqDiff, Nat.reduceBEq, Nat.reduceBNe, Int.reduceAdd, Int.reduceSub, Int.reduceMul, Int.reducePow, Int.reduceLE, Int.reduceLT, Int.reduceEq, Int.reduceToNat, Int.reduceNeg, reduceCtorEq, Nat.add_zero, Nat.zero_add, beq_self_eq_true, Try.f84, encL, unwind, modeEx, resultsOf, one, List.length_map, d0, d1, rsplit_call (n := l.length) (by omega) (by omega), sl_to3 _ _ _ (show splitS l.length ≤ l.length by omega), sl_from _ _ _ (show splitS l.length ≤ l.length by omega), c1, c2, rnode_call]
        exact ⟨_, rfl⟩

theorem rroot_call (cl : Bool) (l : List Entry) (h1 : l.length ≤ 512) (h2 : small l) (ro : Nat) (H : Heap) (nx : Nat) : callT env 84 [.lit cl 3 (l.map Entry.enc)] ro H nx = some (.ret (.int .u64 (rootR l)), .ups []) := by
  obtain ⟨H', h⟩ := rroot_run _ cl l rfl h1 h2
  exact call_pure rfl rfl rfl rfl h rfl ro H nx
end Go.Proofs.Ytamcncpgfhfheaa.Tidy

/-
  Trees: lists checked; roots and leaves told.
-/
namespace Go.Proofs.Ytamcncpgfhfheaa.Tidy
open Go Go.IntWalk
set_option maxRecDepth 10000
set_option linter.unusedSimpArgs false

theorem erS_ne (e : Entry) : (!decide (erS e = 0)) = !e.ok := by unfold erS; cases e.ok <;> rfl
theorem erS_eq (e : Entry) : decide (erS e = 0) = e.ok := by unfold erS; cases e.ok <;> rfl

def chkS (l : List Entry) : Int := if 512 < l.length then 2 else if l.all Entry.ok then 0 else 90

theorem wrap_u64' (n : Int) : IntKind.u64.wrap n = n % 18446744073709551616 := by
  simp [IntKind.wrap, IntKind.bits, IntKind.signed]

theorem bO_val {n : Int} (h : 0 ≤ n) : ((bO n).toNat : Int) = IntKind.u8.wrap n := by
  unfold bO
  rw [Int.tmod_eq_emod_of_nonneg h, IntKind.wrap_u8, IntKind.wrap_u8]
  rw [UInt8.toNat_ofNat']
  omega

theorem num_eq : ∀ (k : Nat) (h n : Int), 0 ≤ n → n ≤ 18446744073709551615 → (sB (eightL k n)).foldl hstep h = num k h n
  | 0, _, _, _, _ => rfl
  | k + 1, h, n, h0, h1 => by
    have e1 : IntKind.u64.wrap (n.tdiv 256) = n.fdiv 256 := by
      rw [u64_quo n 256 ⟨h0, h1, by omega⟩, Int.fdiv_eq_ediv_of_nonneg _ (by omega)]
    have e2 : n.fdiv 256 = n / 256 := Int.fdiv_eq_ediv_of_nonneg _ (by omega)
    simp only [eightL, sB, List.map_cons, List.foldl_cons, num]
    rw [bO_val h0, e1]
    exact num_eq k _ _ (by omega) (by omega)

theorem node_eq {a b : Int} (ha : 0 ≤ a) (ha' : a ≤ 18446744073709551615) (hb : 0 ≤ b) (hb' : b ≤ 18446744073709551615) : hashS (nodeB a b) = nodeI a b := by
  unfold hashS nodeB nodeI
  rw [sB_append, sB_append, List.foldl_append, List.foldl_append, num_eq 8 _ a ha ha', num_eq 8 _ b hb hb']
  have : sB [bO 1] = [1] := by simp only [sB, List.map_cons, List.map_nil]; rw [bO_val (by omega)]; rfl
  rw [this]; rfl

theorem wrapu64_range (n : Int) : 0 ≤ IntKind.u64.wrap n ∧ IntKind.u64.wrap n ≤ 18446744073709551615 := by
  rw [wrap_u64']; omega

theorem leaf_eq (e : Entry) (h : e.body.length < 2 ^ 63) : hashS (leafB e) = leafI e := by
  have w1 : ∀ x : Int, IntKind.u8.wrap (IntKind.u64.wrap x) = IntKind.u8.wrap x := by
    intro x; rw [IntKind.wrap_u8, IntKind.wrap_u8, wrap_u64']; omega
  have w2 : IntKind.u64.wrap (e.body.length : Int) = e.body.length := u64_in _ (by omega)
  have w3 : IntKind.u64.wrap (((e.body.length : Int)).tdiv 256) = ((e.body.length : Int)).fdiv 256 := by
    rw [u64_quo _ 256 ⟨by omega, by omega, by omega⟩, Int.fdiv_eq_ediv_of_nonneg _ (by omega)]
  have w4 : (0 : Int) ≤ ((e.body.length : Int)).fdiv 256 := by rw [Int.fdiv_eq_ediv_of_nonneg _ (by omega)]; omega
  have w5 : IntKind.u8.wrap 0 = 0 := by decide
  unfold hashS leafB leafI
  rw [w2, w3]
  simp only [sB_append, List.foldl_append]
  simp only [sB, List.map_cons, List.map_nil, List.foldl_cons, List.foldl_nil]
  rw [bO_val (by omega), bO_val (wrapu64_range _).1, bO_val (wrapu64_range _).1, bO_val (by omega), bO_val w4, w1, w1, w5]

theorem hstep_range (h b : Int) : 0 ≤ hstep h b ∧ hstep h b ≤ 18446744073709551615 := wrapu64_range _

theorem fold_range : ∀ (l : List Int) (h : Int), 0 ≤ h → h ≤ 18446744073709551615 → 0 ≤ l.foldl hstep h ∧ l.foldl hstep h ≤ 18446744073709551615
  | [], h, h1, h2 => ⟨h1, h2⟩
  | b :: l, h, _, _ => fold_range l (hstep h b) (hstep_range h b).1 (hstep_range h b).2

theorem num_range : ∀ (k : Nat) (h n : Int), 0 ≤ h → h ≤ 18446744073709551615 → 0 ≤ num k h n ∧ num k h n ≤ 18446744073709551615
  | 0, h, n, h1, h2 => ⟨h1, h2⟩
  | k + 1, h, n, _, _ => num_range k _ _ (hstep_range _ _).1 (hstep_range _ _).2

theorem node_range (a b : Int) : 0 ≤ nodeI a b ∧ nodeI a b ≤ 18446744073709551615 := by
  unfold nodeI
  have h1 := num_range 8 (hstep h0 1) a (hstep_range _ _).1 (hstep_range _ _).2
  exact num_range 8 _ b h1.1 h1.2
theorem leaf_range (e : Entry) : 0 ≤ leafI e ∧ leafI e ≤ 18446744073709551615 := by
  unfold leafI
  have h1 := fold_range [0, IntKind.u8.wrap e.office, IntKind.u8.wrap e.no, IntKind.u8.wrap e.body.length, IntKind.u8.wrap ((e.body.length : Int).fdiv 256)] h0 (by decide) (by decide)
  exact fold_range _ _ h1.1 h1.2

theorem rootG_range : ∀ (n : Nat) (l : List Entry), 0 ≤ rootG leafI nodeI n l ∧ rootG leafI nodeI n l ≤ 18446744073709551615
  | 0, l => by simp only [rootG, h0]; omega
  | n + 1, l => by
    unfold rootG
    split
    · simp only [h0]; omega
    · exact leaf_range _
    · exact node_range _ _
theorem root_range (l : List Entry) : 0 ≤ rootI l ∧ rootI l ≤ 18446744073709551615 := rootG_range _ l

theorem rootG_same (n : Nat) : ∀ l : List Entry, small l → rootG (fun e => hashS (leafB e)) (fun a b => hashS (nodeB a b)) n l = rootG leafI nodeI n l := by
  induction n with
  | zero => intro l _; simp only [rootG]
  | succ n ih =>
    intro l h
    unfold rootG
    split
    · rfl
    · rename_i e
      exact leaf_eq e (by have := h e (by simp); omega)
    · rename_i l' _ _
      rw [ih _ (h.take _), ih _ (h.drop _)]
      have h1 := rootG_range n (List.take (splitS l.length) l)
      have h2 := rootG_range n (List.drop (splitS l.length) l)
      exact node_eq h1.1 h1.2 h2.1 h2.2
theorem root_same (l : List Entry) (h : small l) : rootR l = rootI l := rootG_same _ l h

theorem ok_small {e : Entry} (h : e.ok = true) : e.body.length ≤ 2400 := by
  unfold Entry.ok at h
  simp only [Bool.not_eq_true', Bool.or_eq_false_iff, decide_eq_false_iff_not] at h
  omega
theorem all_small {l : List Entry} (h : l.all Entry.ok = true) : small l := fun e he => by
  have := ok_small (List.all_eq_true.1 h e he); omega

theorem checkList_loop (cl : Bool) (l : List Entry) (hlen : l.length < 2 ^ 63) : ∀ (n i : Nat) (j1 j3 j4 j5 j6 j7 j8 j12 j13 j14 j15 j16 j17 j18 j19 j20 : AVal), i + n = l.length →
    Goes (execT env (Try.f81.at [1, 1, 0, 1, 0]) ⟨[.lit cl 3 (l.map Entry.enc), j1, .int .i64 0, j3, j4, j5, j6, j7, j8, .lit cl 3 (l.map Entry.enc), .int .i64 l.length, .int .i64 i, j12, j13, j14, j15, j16, j17, j18, j19, j20], [], [], 0, []⟩) fun e s =>
      if (l.drop i).all Entry.ok then e = .exit 0 ∧ ∃ j0 j1 j2 j3 j4 j5 j6 j7 j8 j9 j10 j11 j12 j13 j14 j15 j16 j17 j18 j19 j20, s = ⟨[j0, j1, j2, j3, j4, j5, j6, j7, j8, j9, j10, j11, j12, j13, j14, j15, j16, j17, j18, j19, j20], [], [], 0, []⟩ else e = .ret ∧ ∃ j0 j1 j3 j4 j5 j6 j7 j8 j9 j10 j11 j12 j13 j14 j15 j16 j17 j18 j19 j20, ∃ H', s = ⟨[j0, j1, .int .i64 90, j3, j4, j5, j6, j7, j8, j9, j10, j11, j12, j13, j14, j15, j16, j17, j18, j19, j20], H', [], 0, []⟩ := by
  intro n
  induction n with
  | zero =>
    intro i j1 j3 j4 j5 j6 j7 j8 j12 j13 j14 j15 j16 j17 j18 j19 j20 hi
    have hd : decide ((i : Int) < (l.length : Int)) = false := by simp; omega
    have hdr : l.drop i = [] := List.drop_eq_nil_of_le (by omega)
    simp only [go_sem, Nat.reduceAdd, Nat.reduceSub, Nat.reduceMul, Nat.reduceDiv, Nat.reduceMod, Nat.reducePow, Nat.reduceLeDiff, Nat.reduceLT, Nat.reduceEqDiff, Nat.reduceBEq, Nat.reduceBNe, Int.reduceAdd, Int.reduceSub, Int.reduceMul, Int.reducePow, Int.reduceLE, Int.reduceLT, Int.reduceEq, Int.reduceToNat, Int.reduceNeg, reduceCtorEq, Nat.add_zero, Nat.zero_add, beq_self_eq_true, Try.f81]
    rw [execT_loop]
    simp only [go_sem, Nat.reduceAdd, Nat.reduceSub, Nat.reduceMul, Nat.reduceDiv, Nat.reduceMod, Nat.reducePow, Nat.reduceLeDiff, Nat.reduceLT, Nat.reduceEqDiff, Nat.reduceBEq, Nat.reduceBNe, Int.reduceAdd, Int.reduceSub, Int.reduceMul, Int.reducePow, Int.reduceLE, Int.reduceLT, Int.reduceEq, Int.reduceToNat, Int.reduceNeg, reduceCtorEq, Nat.add_zero, Nat.zero_add, beq_self_eq_true, hd, hdr]
    exact ⟨_, _, _, _, _, _, _, _, _, _, _, _, _, _, _, _, _, _, _, _, _, rfl⟩
  | succ n ih =>
    intro i j1 j3 j4 j5 j6 j7 j8 j12 j13 j14 j15 j16 j17 j18 j19 j20 hi
    have hd : decide ((i : Int) < (l.length : Int)) = true := by simp; omega
    have h0 : (0 : Int) ≤ (i : Int) := by omega
    obtain ⟨b, hb, hdr⟩ := get_drop (show i < l.length by omega)
    have hb' : (l.map Entry.enc)[(i : Int).toNat]? = some b.enc := by simp [hb]
    have ih' := ih (i + 1)
    simp only [go_sem, Nat.reduceAdd, Nat.reduceSub, Nat.reduceMul, Nat.reduceDiv, Nat.reduceMod, Nat.reducePow, Nat.reduceLeDiff, Nat.reduceLT, Nat.reduceEqDiff, Nat.reduceBEq, Nat.reduceBNe, Int.reduceAdd, Int.reduceSub, Int.reduceMul, Int.reducePow, Int.reduceLE, Int.reduceLT, Int.reduceEq, Int.reduceToNat, Int.reduceNeg, reduceCtorEq, Nat.add_zero, Nat.zero_add, beq_self_eq_true, Try.f81] at ih' ⊢
    rw [execT_loop, hdr]
    cases hok : b.ok with
    | true =>
      have he : erS b = 0 := by unfold erS; rw [hok]; rfl
      simp only [go_sem, Nat.reduceAdd, Nat.reduceSub, Nat.reduceMul, Nat.reduceDiv, Nat.reduceMod, Nat.reducePow, Nat.reduceLeDiff, Nat.reduceLT, Nat.reduceEqDiff, Nat.reduceBEq, Nat.reduceBNe, Int.reduceAdd, Int.reduceSub, Int.reduceMul, Int.reducePow, Int.reduceLE, Int.reduceLT, Int.reduceEq, Int.reduceToNat, Int.reduceNeg, reduceCtorEq, Nat.add_zero, Nat.zero_add, beq_self_eq_true, hd, h0, hb', he, check_call, hok, wrap_succ (show i < 2 ^ 63 - 1 by omega), trunc, scrub]
      exact ih' _ _ _ _ _ _ _ _ _ _ _ _ _ _ _ _ (by omega)
    | false =>
      have he : erS b = 90 := by unfold erS; rw [hok]; rfl
      simp only [go_sem, Nat.reduceAdd, Nat.reduceSub, Nat.reduceMul, Nat.reduceDiv, Nat.reduceMod, Nat.reducePow, Nat.reduceLeDiff, Nat.reduceLT, Nat.reduceEqDiff, Nat.reduceBEq, Nat.reduceBNe, Int.reduceAdd, Int.reduceSub, Int.reduceMul, Int.reducePow, Int.reduceLE, Int.reduceLT, Int.reduceEq, Int.reduceToNat, Int.reduceNeg, reduceCtorEq, Nat.add_zero, Nat.zero_add, beq_self_eq_true, hd, h0, hb', he, check_call, hok]
      exact ⟨_, _, _, _, _, _, _, _, _, _, _, _, _, _, _, _, _, _, _, _, _, rfl⟩

theorem checkList_call (cl : Bool) (l : List Entry) (hlen : l.length < 2 ^ 63) (ro : Nat) (H : Heap) (nx : Nat) : callT env 81 [.lit cl 3 (l.map Entry.enc)] ro H nx = some (.ret (.int .i64 (chkS l)), .ups []) := by
  have : ∃ H', runT env 81 [.lit cl 3 (l.map Entry.enc)] [] 0 = some (.ret (.int .i64 (chkS l)), H') := by
    rw [run_unfold fn81 rfl]
    unfold chkS
    by_cases h : 512 < l.length
    · have hd : decide (512 < (l.length : Int)) = true := by simp; omega
      simp only [go_sem, Nat.reduceAdd, Nat.reduceSub, Nat.reduceMul, Nat.reduceDiv, Nat.reduceMod, Nat.reducePow, Nat.reduceLeDiff, Nat.reduceLT, Nat.reduceEqDiff, Nat.reduceBEq, Nat.reduceBNe, Int.reduceAdd, Int.reduceSub, Int.reduceMul, Int.reducePow, Int.reduceLE, Int.reduceLT, Int.reduceEq, Int.reduceToNat, Int.reduceNeg, reduceCtorEq, Nat.add_zero, Nat.zero_add, beq_self_eq_true, Try.f81, List.length_map, hd, h, unwind, modeEx, resultsOf, one]
      exact ⟨_, rfl⟩
    · have hd : decide (512 < (l.length : Int)) = false := by simp; omega
      obtain ⟨e, s, hx, hp⟩ := checkList_loop cl l hlen l.length 0 _ _ _ _ _ _ _ _ _ _ _ _ _ _ _ _ (by omega)
      rw [List.drop_zero] at hp
      simp only [go_sem, Nat.reduceAdd, Nat.reduceSub, Nat.reduceMul, Nat.reduceDiv, Nat.reduceMod, Nat.reducePow, Nat.reduceLeDiff, Nat.reduceLT, Nat.reduceEqDiff, Nat.reduceBEq, Nat.reduceBNe, Int.reduceAdd, Int.reduceSub, Int.reduceMul, Int.reducePow, Int.reduceLE, Int.reduceLT, Int.reduceEq, Int.reduceToNat, Int.reduceNeg, reduceCtorEq, Nat.add_zero, Nat.zero_add, beq_self_eq_true, Try.f81, Int.ofNat_zero, Int.natCast_zero] at hx
      simp only [go_sem, Nat.reduceAdd, Nat.reduceSub, Nat.reduceMul, Nat.reduceDiv, Nat.reduceMod, Nat.reducePow, Nat.reduceLeDiff, Nat.reduceLT, Nat.reduceEqDiff, Nat.reduceBEq, Nat.reduceBNe, Int.reduceAdd, Int.reduceSub, Int.reduceMul, Int.reducePow, Int.reduceLE, Int.reduceLT, Int.reduceEq, Int.reduceToNat, Int.reduceNeg, reduceCtorEq, Nat.add_zero, Nat.zero_add, beq_self_eq_true, Try.f81, List.length_map, hd, h]
      rw [hx]
      cases ha : l.all Entry.ok with
      | true =>
        rw [ha] at hp
        obtain ⟨rfl, j0, j1, j2, j3, j4, j5, j6, j7, j8, j9, j10, j11, j12, j13, j14, j15, j16, j17, j18, j19, j20, rfl⟩ := hp
        simp only [go_sem, Nat.reduceAdd, Nat.reduceSub, Nat.reduceMul, Nat.reduceDiv, Nat.reduceMod, Nat.reducePow, Nat.reduceLeDiff, Nat.reduceLT, Nat.reduceEqDiff, Nat.reduceBEq, Nat.reduceBNe, Int.reduceAdd, Int.reduceSub, Int.reduceMul, Int.reducePow, Int.reduceLE, Int.reduceLT, Int.reduceEq, Int.reduceToNat, Int.reduceNeg, reduceCtorEq, Nat.add_zero, Nat.zero_add, beq_self_eq_true, unwind, modeEx, resultsOf, one]
        exact ⟨_, rfl⟩
      | false =>
        rw [ha] at hp
        obtain ⟨rfl, j0, j1, j3, j4, j5, j6, j7, j8, j9, j10, j11, j12, j13, j14, j15, j16, j17, j18, j19, j20, H', rfl⟩ := hp
        simp only [go_sem, Nat.reduceAdd, Nat.reduceSub, Nat.reduceMul, Nat.reduceDiv, Nat.reduceMod, Nat.reducePow, Nat.reduceLeDiff, Nat.reduceLT, Nat.reduceEqDiff, Nat.reduceBEq, Nat.reduceBNe, Int.reduceAdd, Int.reduceSub, Int.reduceMul, Int.reducePow, Int.reduceLE, Int.reduceLT, Int.reduceEq, Int.reduceToNat, Int.reduceNeg, reduceCtorEq, Nat.add_zero, Nat.zero_add, beq_self_eq_true, unwind, modeEx, resultsOf, one]
        exact ⟨_, rfl⟩
  obtain ⟨H', h⟩ := this
  exact call_pure rfl rfl rfl rfl h rfl ro H nx

theorem rcheckList_loop (cl : Bool) (l : List Entry) (hlen : l.length < 2 ^ 63) : ∀ (n i : Nat) (j1 j4 j5 j6 j7 j8 j9 j10 j11 j12 j13 j14 j15 j16 j17 j18 j19 j20 j21 : AVal), i + n = l.length →
    Goes (execT env (Try.f83.at [1, 1, 0, 1, 0]) ⟨[.lit cl 3 (l.map Entry.enc), j1, .int .i64 0, .int .i64 i, j4, j5, j6, j7, j8, j9, j10, j11, j12, j13, j14, j15, j16, j17, j18, j19, j20, j21], [], [], 0, []⟩) fun e s =>
      if (l.drop i).all Entry.ok then e = .exit 0 ∧ ∃ j0 j1 j2 j3 j4 j5 j6 j7 j8 j9 j10 j11 j12 j13 j14 j15 j16 j17 j18 j19 j20 j21, s = ⟨[j0, j1, j2, j3, j4, j5, j6, j7, j8, j9, j10, j11, j12, j13, j14, j15, j16, j17, j18, j19, j20, j21], [], [], 0, []⟩ else e = .ret ∧ ∃ j0 j1 j3 j4 j5 j6 j7 j8 j9 j10 j11 j12 j13 j14 j15 j16 j17 j18 j19 j20 j21, ∃ H', s = ⟨[j0, j1, .int .i64 90, j3, j4, j5, j6, j7, j8, j9, j10, j11, j12, j13, j14, j15, j16, j17, j18, j19, j20, j21], H', [], 0, []⟩ := by
  intro n
  induction n with
  | zero =>
    intro i j1 j4 j5 j6 j7 j8 j9 j10 j11 j12 j13 j14 j15 j16 j17 j18 j19 j20 j21 hi
    have hd : decide ((i : Int) < (l.length : Int)) = false := by simp; omega
    have hdr : l.drop i = [] := List.drop_eq_nil_of_le (by omega)
    simp only [go_sem, Nat.reduceAdd, Nat.reduceSub, Nat.reduceMul, Nat.reduceDiv, Nat.reduceMod, Nat.reducePow, Nat.reduceLeDiff, Nat.reduceLT, Nat.reduceEqDiff, Nat.reduceBEq, Nat.reduceBNe, Int.reduceAdd, Int.reduceSub, Int.reduceMul, Int.reducePow, Int.reduceLE, Int.reduceLT, Int.reduceEq, Int.reduceToNat, Int.reduceNeg, reduceCtorEq, Nat.add_zero, Nat.zero_add, beq_self_eq_true, Try.f83]
    rw [execT_loop]
    simp only [go_sem, Nat.reduceAdd, Nat.reduceSub, Nat.reduceMul, Nat.reduceDiv, Nat.reduceMod, Nat.reducePow, Nat.reduceLeDiff, Nat.reduceLT, Nat.reduceEqDiff, Nat.reduceBEq, Nat.reduceBNe, Int.reduceAdd, Int.reduceSub, Int.reduceMul, Int.reducePow, Int.reduceLE, Int.reduceLT, Int.reduceEq, Int.reduceToNat, Int.reduceNeg, reduceCtorEq, Nat.add_zero, Nat.zero_add, beq_self_eq_true, List.length_map, hd, hdr]
    exact ⟨_, _, _, _, _, _, _, _, _, _, _, _, _, _, _, _, _, _, _, _, _, _, rfl⟩
  | succ n ih =>
    intro i j1 j4 j5 j6 j7 j8 j9 j10 j11 j12 j13 j14 j15 j16 j17 j18 j19 j20 j21 hi
    have hd : decide ((i : Int) < (l.length : Int)) = true := by simp; omega
    have h0 : (0 : Int) ≤ (i : Int) := by omega
    obtain ⟨b, hb, hdr⟩ := get_drop (show i < l.length by omega)
    have hb' : (l.map Entry.enc)[(i : Int).toNat]? = some b.enc := by simp [hb]
    have ih' := ih (i + 1)
    simp only [go_sem, Nat.reduceAdd, Nat.reduceSub, Nat.reduceMul, Nat.reduceDiv, Nat.reduceMod, Nat.reducePow, Nat.reduceLeDiff, Nat.reduceLT, Nat.reduceEqDiff, Nat.reduceBEq, Nat.reduceBNe, Int.reduceAdd, Int.reduceSub, Int.reduceMul, Int.reducePow, Int.reduceLE, Int.reduceLT, Int.reduceEq, Int.reduceToNat, Int.reduceNeg, reduceCtorEq, Nat.add_zero, Nat.zero_add, beq_self_eq_true, Try.f83] at ih' ⊢
    rw [execT_loop, hdr]
    cases hok : b.ok with
    | true =>
      have he : erS b = 0 := by unfold erS; rw [hok]; rfl
      simp only [go_sem, Nat.reduceAdd, Nat.reduceSub, Nat.reduceMul, Nat.reduceDiv, Nat.reduceMod, Nat.reducePow, Nat.reduceLeDiff, Nat.reduceLT, Nat.reduceEqDiff, Nat.reduceBEq, Nat.reduceBNe, Int.reduceAdd, Int.reduceSub, Int.reduceMul, Int.reducePow, Int.reduceLE, Int.reduceLT, Int.reduceEq, Int.reduceToNat, Int.reduceNeg, reduceCtorEq, Nat.add_zero, Nat.zero_add, beq_self_eq_true, List.length_map, hd, h0, hb', he, rcheck_call, hok, wrap_succ (show i < 2 ^ 63 - 1 by omega)]
      exact ih' _ _ _ _ _ _ _ _ _ _ _ _ _ _ _ _ _ _ _ (by omega)
    | false =>
      have he : erS b = 90 := by unfold erS; rw [hok]; rfl
      simp only [go_sem, Nat.reduceAdd, Nat.reduceSub, Nat.reduceMul, Nat.reduceDiv, Nat.reduceMod, Nat.reducePow, Nat.reduceLeDiff, Nat.reduceLT, Nat.reduceEqDiff, Nat.reduceBEq, Nat.reduceBNe, Int.reduceAdd, Int.reduceSub, Int.reduceMul, Int.reducePow, Int.reduceLE, Int.reduceLT, Int.reduceEq, Int.reduceToNat, Int.reduceNeg, reduceCtorEq, Nat.add_zero, Nat.zero_add, beq_self_eq_true, List.length_map, hd, h0, hb', he, rcheck_call, hok]
      exact ⟨_, _, _, _, _, _, _, _, _, _, _, _, _, _, _, _, _, _, _, _, _, _, rfl⟩

theorem rcheckList_call (cl : Bool) (l : List Entry) (hlen : l.length < 2 ^ 63) (ro : Nat) (H : Heap) (nx : Nat) : callT env 83 [.lit cl 3 (l.map Entry.enc)] ro H nx = some (.ret (.int .i64 (chkS l)), .ups []) := by
  have : ∃ H', runT env 83 [.lit cl 3 (l.map Entry.enc)] [] 0 = some (.ret (.int .i64 (chkS l)), H') := by
    rw [run_unfold fn83 rfl]
    unfold chkS
    by_cases h : 512 < l.length
    · have hd : decide (512 < (l.length : Int)) = true := by simp; omega
      simp only [go_sem, Nat.reduceAdd, Nat.reduceSub, Nat.reduceMul, Nat.reduceDiv, Nat.reduceMod, Nat.reducePow, Nat.reduceLeDiff, Nat.reduceLT, Nat.reduceEqDiff, Nat.reduceBEq, Nat.reduceBNe, Int.reduceAdd, Int.reduceSub, Int.reduceMul, Int.reducePow, Int.reduceLE, Int.reduceLT, Int.reduceEq, Int.reduceToNat, Int.reduceNeg, reduceCtorEq, Nat.add_zero, Nat.zero_add, beq_self_eq_true, Try.f83, List.length_map, hd, h, unwind, modeEx, resultsOf, one]
      exact ⟨_, rfl⟩
    · have hd : decide (512 < (l.length : Int)) = false := by simp; omega
      obtain ⟨e, s, hx, hp⟩ := rcheckList_loop cl l hlen l.length 0 _ _ _ _ _ _ _ _ _ _ _ _ _ _ _ _ _ _ _ (by omega)
      rw [List.drop_zero] at hp
      simp only [go_sem, Nat.reduceAdd, Nat.reduceSub, Nat.reduceMul, Nat.reduceDiv, Nat.reduceMod, Nat.reducePow, Nat.reduceLeDiff, Nat.reduceLT, Nat.reduceEqDiff, Nat.reduceBEq, Nat.reduceBNe, Int.reduceAdd, Int.reduceSub, Int.reduceMul, Int.reducePow, Int.reduceLE, Int.reduceLT, Int.reduceEq, Int.reduceToNat, Int.reduceNeg, reduceCtorEq, Nat.add_zero, Nat.zero_add, beq_self_eq_true, Try.f83, Int.ofNat_zero, Int.natCast_zero] at hx
      simp only [go_sem, Nat.reduceAdd, Nat.reduceSub, Nat.reduceMul, Nat.reduceDiv, Nat.reduceMod, Nat.reducePow, Nat.reduceLeDiff, Nat.reduceLT, Nat.reduceEqDiff, Nat.reduceBEq, Nat.reduceBNe, Int.reduceAdd, Int.reduceSub, Int.reduceMul, Int.reducePow, Int.reduceLE, Int.reduceLT, Int.reduceEq, Int.reduceToNat, Int.reduceNeg, reduceCtorEq, Nat.add_zero, Nat.zero_add, beq_self_eq_true, Try.f83, List.length_map, hd, h]
      rw [hx]
      cases ha : l.all Entry.ok with
      | true =>
        rw [ha] at hp
        obtain ⟨rfl, j0, j1, j2, j3, j4, j5, j6, j7, j8, j9, j10, j11, j12, j13, j14, j15, j16, j17, j18, j19, j20, j21, rfl⟩ := hp
        simp only [go_sem, Nat.reduceAdd, Nat.reduceSub, Nat.reduceMul, Nat.reduceDiv, Nat.reduceMod, Nat.reducePow, Nat.reduceLeDiff, Nat.reduceLT, Nat.reduceEqDiff, Nat.reduceBEq, Nat.reduceBNe, Int.reduceAdd, Int.reduceSub, Int.reduceMul, Int.reducePow, Int.reduceLE, Int.reduceLT, Int.reduceEq, Int.reduceToNat, Int.reduceNeg, reduceCtorEq, Nat.add_zero, Nat.zero_add, beq_self_eq_true, unwind, modeEx, resultsOf, one]
        exact ⟨_, rfl⟩
      | false =>
        rw [ha] at hp
        obtain ⟨rfl, j0, j1, j3, j4, j5, j6, j7, j8, j9, j10, j11, j12, j13, j14, j15, j16, j17, j18, j19, j20, j21, H', rfl⟩ := hp
        simp only [go_sem, Nat.reduceAdd, Nat.reduceSub, Nat.reduceMul, Nat.reduceDiv, Nat.reduceMod, Nat.reducePow, Nat.reduceLeDiff, Nat.reduceLT, Nat.reduceEqDiff, Nat.reduceBEq, Nat.reduceBNe, Int.reduceAdd, Int.reduceSub, Int.reduceMul, Int.reducePow, Int.reduceLE, Int.reduceLT, Int.reduceEq, Int.reduceToNat, Int.reduceNeg, reduceCtorEq, Nat.add_zero, Nat.zero_add, beq_self_eq_true, unwind, modeEx, resultsOf, one]
        exact ⟨_, rfl⟩
  obtain ⟨H', h⟩ := this
  exact call_pure rfl rfl rfl rfl h rfl ro H nx

theorem chk_zero {l : List Entry} (h : chkS l = 0) : l.length ≤ 512 ∧ l.all Entry.ok = true := by
  unfold chkS at h
  split at h
  · omega
  · split at h
    · exact ⟨by omega, by assumption⟩
    · omega
end Go.Proofs.Ytamcncpgfhfheaa.Tidy

/-
  Trees: roots and leaves told; which lists are few.
-/
namespace Go.Proofs.Ytamcncpgfhfheaa.Tidy
open Go Go.IntWalk
set_option maxRecDepth 10000
set_option linter.unusedSimpArgs false

def leafT (e : Entry) : AVal := .tuple [.int .u64 (if e.ok then leafI e else 0), .int .i64 (erS e)]
def rootT (l : List Entry) : AVal := .tuple [.int .u64 (if chkS l = 0 then rootI l else 0), .int .i64 (chkS l)]

theorem noRef_leafT (e : Entry) : noRef (leafT e) = true := rfl
theorem noRef_rootT (l : List Entry) : noRef (rootT l) = true := rfl

theorem leafT_call (e : Entry) (ro : Nat) (H : Heap) (nx : Nat) : callT env 16 [e.enc] ro H nx = some (.ret (leafT e), .ups []) := by
  have : ∃ H', runT env 16 [e.enc] [] 0 = some (.ret (leafT e), H') := by
    rw [run_unfold fn16 rfl]
    unfold leafT
    cases h : e.ok with
    | true =>
      have he : erS e = 0 := by unfold erS; rw [h]; rfl
      simp only [go_sem, Nat.reduceAdd, Nat.reduceSub, Nat.reduceMul, Nat.reduceDiv, Nat.reduceMod, Nat.reducePow, Nat.reduceLeDiff, Nat.reduceLT, Nat.reduceEqDiff, Nat.reduceBEq, Nat.reduceBNe, Int.reduceAdd, Int.reduceSub, Int.reduceMul, Int.reducePow, Int.reduceLE, Int.reduceLT, Int.reduceEq, Int.reduceToNat, Int.reduceNeg, reduceCtorEq, Nat.add_zero, Nat.zero_add, beq_self_eq_true, Try.f16, check_call, he, leaf_call e (by have := ok_small h; omega), unwind, modeEx, resultsOf, one]
      exact ⟨_, rfl⟩
    | false =>
      have he : erS e = 90 := by unfold erS; rw [h]; rfl
      simp only [go_sem, Nat.reduceAdd, Nat.reduceSub, Nat.reduceMul, Nat.reduceDiv, Nat.reduceMod, Nat.reducePow, Nat.reduceLeDiff, Nat.reduceLT, Nat.reduceEqDiff, Nat.reduceBEq, Nat.reduceBNe, Int.reduceAdd, Int.reduceSub, Int.reduceMul, Int.reducePow, Int.reduceLE, Int.reduceLT, Int.reduceEq, Int.reduceToNat, Int.reduceNeg, reduceCtorEq, Nat.add_zero, Nat.zero_add, beq_self_eq_true, Try.f16, check_call, he, unwind, modeEx, resultsOf, one]
      exact ⟨_, rfl⟩
  obtain ⟨H', h⟩ := this
  exact call_pure rfl rfl rfl rfl h (noRef_leafT e) ro H nx

theorem rleafT_call (e : Entry) (ro : Nat) (H : Heap) (nx : Nat) : callT env 17 [e.enc] ro H nx = some (.ret (leafT e), .ups []) := by
  have : ∃ H', runT env 17 [e.enc] [] 0 = some (.ret (leafT e), H') := by
    rw [run_unfold fn17 rfl]
    unfold leafT
    cases h : e.ok with
    | true =>
      have hb := ok_small h
      have he : erS e = 0 := by unfold erS; rw [h]; rfl
      simp only [go_sem, Nat.reduceAdd, Nat.reduceSub, Nat.reduceMul, Nat.reduceDiv, Nat.reduceMod, Nat.reducePow, Nat.reduceLeDiff, Nat.reduceLT, Nat.reduceEqDiff, Nat.reduceBEq, Nat.reduceBNe, Int.reduceAdd, Int.reduceSub, Int.reduceMul, Int.reducePow, Int.reduceLE, Int.reduceLT, Int.reduceEq, Int.reduceToNat, Int.reduceNeg, reduceCtorEq, Nat.add_zero, Nat.zero_add, beq_self_eq_true, Try.f17, rcheck_call, he, rleaf_call e (by omega), leaf_eq e (by omega), unwind, modeEx, resultsOf, one]
      exact ⟨_, rfl⟩
    | false =>
      have he : erS e = 90 := by unfold erS; rw [h]; rfl
      simp only [go_sem, Nat.reduceAdd, Nat.reduceSub, Nat.reduceMul, Nat.reduceDiv, Nat.reduceMod, Nat.reducePow, Nat.reduceLeDiff, Nat.reduceLT, Nat.reduceEqDiff, Nat.reduceBEq, Nat.reduceBNe, Int.reduceAdd, Int.reduceSub, Int.reduceMul, Int.reducePow, Int.reduceLE, Int.reduceLT, Int.reduceEq, Int.reduceToNat, Int.reduceNeg, reduceCtorEq, Nat.add_zero, Nat.zero_add, beq_self_eq_true, Try.f17, rcheck_call, he, unwind, modeEx, resultsOf, one]
      exact ⟨_, rfl⟩
  obtain ⟨H', h⟩ := this
  exact call_pure rfl rfl rfl rfl h (noRef_leafT e) ro H nx

theorem rootT_call (cl : Bool) (l : List Entry) (hlen : l.length < 2 ^ 63) (ro : Nat) (H : Heap) (nx : Nat) : callT env 18 [.lit cl 3 (l.map Entry.enc)] ro H nx = some (.ret (rootT l), .ups []) := by
  have : ∃ H', runT env 18 [.lit cl 3 (l.map Entry.enc)] [] 0 = some (.ret (rootT l), H') := by
    rw [run_unfold fn18 rfl]
    unfold rootT
    by_cases h : chkS l = 0
    · obtain ⟨h1, h2⟩ := chk_zero h
      simp only [go_sem, Nat.reduceAdd, Nat.reduceSub, Nat.reduceMul, Nat.reduceDiv, Nat.reduceMod, Nat.reducePow, Nat.reduceLeDiff, Nat.reduceLT, Nat.reduceEqDiff, Nat.reduceBEq, Nat.reduceBNe, Int.reduceAdd, Int.reduceSub, Int.reduceMul, Int.reducePow, Int.reduceLE, Int.reduceLT, Int.reduceEq, Int.reduceToNat, Int.reduceNeg, reduceCtorEq, Nat.add_zero, Nat.zero_add, beq_self_eq_true, Try.f18, checkList_call cl l hlen, h, root_call cl l h1 (all_small h2), unwind, modeEx, resultsOf, one]
      exact ⟨_, rfl⟩
    · have hd : decide (chkS l = 0) = false := by simpa using h
      simp only [go_sem, Nat.reduceAdd, Nat.reduceSub, Nat.reduceMul, Nat.reduceDiv, Nat.reduceMod, Nat.reducePow, Nat.reduceLeDiff, Nat.reduceLT, Nat.reduceEqDiff, Nat.reduceBEq, Nat.reduceBNe, Int.reduceAdd, Int.reduceSub, Int.reduceMul, Int.reducePow, Int.reduceLE, Int.reduceLT, Int.reduceEq, Int.reduceToNat, Int.reduceNeg, reduceCtorEq, Nat.add_zero, Nat.zero_add, beq_self_eq_true, Try.f18, checkList_call cl l hlen, hd, h, unwind, modeEx, resultsOf, one]
      exact ⟨_, rfl⟩
  obtain ⟨H', h⟩ := this
  exact call_pure rfl rfl rfl rfl h (noRef_rootT l) ro H nx

theorem rrootT_call (cl : Bool) (l : List Entry) (hlen : l.length < 2 ^ 63) (ro : Nat) (H : Heap) (nx : Nat) : callT env 19 [.lit cl 3 (l.map Entry.enc)] ro H nx = some (.ret (rootT l), .ups []) := by
  have : ∃ H', runT env 19 [.lit cl 3 (l.map Entry.enc)] [] 0 = some (.ret (rootT l), H') := by
    rw [run_unfold fn19 rfl]
    unfold rootT
    by_cases h : chkS l = 0
    · obtain ⟨h1, h2⟩ := chk_zero h
      simp only [go_sem, Nat.reduceAdd, Nat.reduceSub, Nat.reduceMul, Nat.reduceDiv, Nat.reduceMod, Nat.reducePow, Nat.reduceLeDiff, Nat.reduceLT, Nat.reduceEqDiff, Nat.reduceBEq, Nat.reduceBNe, Int.reduceAdd, Int.reduceSub, Int.reduceMul, Int.reducePow, Int.reduceLE, Int.reduceLT, Int.reduceEq, Int.reduceToNat, Int.reduceNeg, reduceCtorEq, Nat.add_zero, Nat.zero_add, beq_self_eq_true, Try.f19, rcheckList_call cl l hlen, h, rroot_call cl l h1 (all_small h2), root_same l (all_small h2), unwind, modeEx, resultsOf, one]
      exact ⟨_, rfl⟩
    · have hd : decide (chkS l = 0) = false := by simpa using h
      simp only [go_sem, Nat.reduceAdd, Nat.reduceSub, Nat.reduceMul, Nat.reduceDiv, Nat.reduceMod, Nat.reducePow, Nat.reduceLeDiff, Nat.reduceLT, Nat.reduceEqDiff, Nat.reduceBEq, Nat.reduceBNe, Int.reduceAdd, Int.reduceSub, Int.reduceMul, Int.reducePow, Int.reduceLE, Int.reduceLT, Int.reduceEq, Int.reduceToNat, Int.reduceNeg, reduceCtorEq, Nat.add_zero, Nat.zero_add, beq_self_eq_true, Try.f19, rcheckList_call cl l hlen, hd, h, unwind, modeEx, resultsOf, one]
      exact ⟨_, rfl⟩
  obtain ⟨H', h⟩ := this
  exact call_pure rfl rfl rfl rfl h (noRef_rootT l) ro H nx

def Entry.big (e : Entry) : Bool := decide (2500 < (e.body.length : Int))

@[go_sem] theorem big_call (e : Entry) (ro : Nat) (H : Heap) (nx : Nat) : callT env 78 [e.enc] ro H nx = some (.ret (.bool e.big), .ups []) := by
  have : ∃ H', runT env 78 [e.enc] [] 0 = some (.ret (.bool e.big), H') := by
    rw [run_unfold fn78 rfl]
    simp only [go_sem, Nat.reduceAdd, Nat.reduceSub, Nat.reduceMul, Nat.reduceDiv, Nat.reduceMod, Nat.reducePow, Nat.reduceLeDiff, Nat.reduceLT, Nat.reduceEqDiff, Nat.reduceBEq, Nat.reduceBNe, Int.reduceAdd, Int.reduceSub, Int.reduceMul, Int.reducePow, Int.reduceLE, Int.reduceLT, Int.reduceEq, Int.reduceToNat, Int.reduceNeg, reduceCtorEq, Nat.add_zero, Nat.zero_add, beq_self_eq_true, Try.f78, unwind, modeEx, resultsOf, one]
    exact ⟨_, rfl⟩
  obtain ⟨H', h⟩ := this
  exact call_pure rfl rfl rfl rfl h rfl ro H nx

theorem index_loop (cl : Bool) (l : List Entry) (hlen : l.length < 2 ^ 63) : ∀ (n i : Nat) (j2 j3 j4 j5 j9 j10 j11 j12 j13 j14 j15 j16 j17 j18 : AVal), i + n = l.length →
    Goes (execT env (Try.f119.at [1, 0, 1, 0]) ⟨[.lit cl 3 (l.map Entry.enc), .func 78 [] [], j2, j3, j4, j5, .lit cl 3 (l.map Entry.enc), .int .i64 l.length, .int .i64 i, j9, j10, j11, j12, j13, j14, j15, j16, j17, j18], [], [], 0, []⟩) fun e s =>
      if (l.drop i).any Entry.big then e = .ret ∧ ∃ j0 j1 j2 j3 j5 j6 j7 j8 j9 j10 j11 j12 j13 j14 j15 j16 j17 j18, ∃ k : Nat, s = ⟨[j0, j1, j2, j3, .int .i64 k, j5, j6, j7, j8, j9, j10, j11, j12, j13, j14, j15, j16, j17, j18], [], [], 0, []⟩ else e = .exit 0 ∧ ∃ j0 j1 j2 j3 j4 j5 j6 j7 j8 j9 j10 j11 j12 j13 j14 j15 j16 j17 j18, s = ⟨[j0, j1, j2, j3, j4, j5, j6, j7, j8, j9, j10, j11, j12, j13, j14, j15, j16, j17, j18], [], [], 0, []⟩ := by
  intro n
  induction n with
  | zero =>
    intro i j2 j3 j4 j5 j9 j10 j11 j12 j13 j14 j15 j16 j17 j18 hi
    have hd : decide ((i : Int) < (l.length : Int)) = false := by simp; omega
    have hdr : l.drop i = [] := List.drop_eq_nil_of_le (by omega)
    simp only [go_sem, Nat.reduceAdd, Nat.reduceSub, Nat.reduceMul, Nat.reduceDiv, Nat.reduceMod, Nat.reducePow, Nat.reduceLeDiff, Nat.reduceLT, Nat.reduceEqDiff, Nat.reduceBEq, Nat.reduceBNe, Int.reduceAdd, Int.reduceSub, Int.reduceMul, Int.reducePow, Int.reduceLE, Int.reduceLT, Int.reduceEq, Int.reduceToNat, Int.reduceNeg, reduceCtorEq, Nat.add_zero, Nat.zero_add, beq_self_eq_true, Try.f119]
    rw [execT_loop]
    simp only [go_sem, Nat.reduceAdd, Nat.reduceSub, Nat.reduceMul, Nat.reduceDiv, Nat.reduceMod, Nat.reducePow, Nat.reduceLeDiff, Nat.reduceLT, Nat.reduceEqDiff, Nat.reduceBEq, Nat.reduceBNe, Int.reduceAdd, Int.reduceSub, Int.reduceMul, Int.reducePow, Int.reduceLE, Int.reduceLT, Int.reduceEq, Int.reduceToNat, Int.reduceNeg, reduceCtorEq, Nat.add_zero, Nat.zero_add, beq_self_eq_true, hd, hdr, List.any_nil]
    exact ⟨_, _, _, _, _, _, _, _, _, _, _, _, _, _, _, _, _, _, _, rfl⟩
  | succ n ih =>
    intro i j2 j3 j4 j5 j9 j10 j11 j12 j13 j14 j15 j16 j17 j18 hi
    have hd : decide ((i : Int) < (l.length : Int)) = true := by simp; omega
    have h0 : (0 : Int) ≤ (i : Int) := by omega
    obtain ⟨b, hb, hdr⟩ := get_drop (show i < l.length by omega)
    have hb' : (l.map Entry.enc)[(i : Int).toNat]? = some b.enc := by simp [hb]
    have ih' := ih (i + 1)
    simp only [go_sem, Nat.reduceAdd, Nat.reduceSub, Nat.reduceMul, Nat.reduceDiv, Nat.reduceMod, Nat.reducePow, Nat.reduceLeDiff, Nat.reduceLT, Nat.reduceEqDiff, Nat.reduceBEq, Nat.reduceBNe, Int.reduceAdd, Int.reduceSub, Int.reduceMul, Int.reducePow, Int.reduceLE, Int.reduceLT, Int.reduceEq, Int.reduceToNat, Int.reduceNeg, reduceCtorEq, Nat.add_zero, Nat.zero_add, beq_self_eq_true, Try.f119] at ih' ⊢
    rw [execT_loop, hdr]
    cases hok : b.big with
    | false =>
      simp only [go_sem, Nat.reduceAdd, Nat.reduceSub, Nat.reduceMul, Nat.reduceDiv, Nat.reduceMod, Nat.reducePow, Nat.reduceLeDiff, Nat.reduceLT, Nat.reduceEqDiff, Nat.reduceBEq, Nat.reduceBNe, Int.reduceAdd, Int.reduceSub, Int.reduceMul, Int.reducePow, Int.reduceLE, Int.reduceLT, Int.reduceEq, Int.reduceToNat, Int.reduceNeg, reduceCtorEq, Nat.add_zero, Nat.zero_add, beq_self_eq_true, hd, h0, hb', hok, List.any_cons, wrap_succ (show i < 2 ^ 63 - 1 by omega)]
      exact ih' _ _ _ _ _ _ _ _ _ _ _ _ _ _ (by omega)
    | true =>
      simp only [go_sem, Nat.reduceAdd, Nat.reduceSub, Nat.reduceMul, Nat.reduceDiv, Nat.reduceMod, Nat.reducePow, Nat.reduceLeDiff, Nat.reduceLT, Nat.reduceEqDiff, Nat.reduceBEq, Nat.reduceBNe, Int.reduceAdd, Int.reduceSub, Int.reduceMul, Int.reducePow, Int.reduceLE, Int.reduceLT, Int.reduceEq, Int.reduceToNat, Int.reduceNeg, reduceCtorEq, Nat.add_zero, Nat.zero_add, beq_self_eq_true, hd, h0, hb', hok, List.any_cons]
      exact ⟨_, _, _, _, _, _, _, _, _, _, _, _, _, _, _, _, _, _, i, rfl⟩

theorem contains_call (cl : Bool) (l : List Entry) (hlen : l.length < 2 ^ 63) (ro : Nat) (H : Heap) (nx : Nat) : callT env 72 [.lit cl 3 (l.map Entry.enc), .func 78 [] []] ro H nx = some (.ret (.bool (l.any Entry.big)), .ups []) := by
  have hi : ∃ k : Int, (0 ≤ k ↔ l.any Entry.big = true) ∧ ∀ ro H nx, callT env 119 [.lit cl 3 (l.map Entry.enc), .func 78 [] []] ro H nx = some (.ret (.int .i64 k), .ups []) := by
    obtain ⟨e, s, hx, hp⟩ := index_loop cl l hlen l.length 0 _ _ _ _ _ _ _ _ _ _ _ _ _ _ (by omega)
    rw [List.drop_zero] at hp
    simp only [go_sem, Nat.reduceAdd, Nat.reduceSub, Nat.reduceMul, Nat.reduceDiv, Nat.reduceMod, Nat.reducePow, Nat.reduceLeDiff, Nat.reduceLT, Nat.reduceEqDiff, Nat.reduceBEq, Nat.reduceBNe, Int.reduceAdd, Int.reduceSub, Int.reduceMul, Int.reducePow, Int.reduceLE, Int.reduceLT, Int.reduceEq, Int.reduceToNat, Int.reduceNeg, reduceCtorEq, Nat.add_zero, Nat.zero_add, beq_self_eq_true, Try.f119, Int.ofNat_zero, Int.natCast_zero] at hx
    cases ha : l.any Entry.big with
    | true =>
      rw [ha] at hp
      obtain ⟨rfl, j0, j1, j2, j3, j5, j6, j7, j8, j9, j10, j11, j12, j13, j14, j15, j16, j17, j18, k, rfl⟩ := hp
      refine ⟨k, by simp, fun ro H nx => ?_⟩
      refine call_pure (H' := []) rfl rfl rfl rfl ?_ rfl ro H nx
      rw [run_unfold fn119 rfl]
      simp only [go_sem, Nat.reduceAdd, Nat.reduceSub, Nat.reduceMul, Nat.reduceDiv, Nat.reduceMod, Nat.reducePow, Nat.reduceLeDiff, Nat.reduceLT, Nat.reduceEqDiff, Nat.reduceBEq, Nat.reduceBNe, Int.reduceAdd, Int.reduceSub, Int.reduceMul, Int.reducePow, Int.reduceLE, Int.reduceLT, Int.reduceEq, Int.reduceToNat, Int.reduceNeg, reduceCtorEq, Nat.add_zero, Nat.zero_add, beq_self_eq_true, Try.f119, List.length_map]
      rw [hx]
      simp only [go_sem, Nat.reduceAdd, Nat.reduceSub, Nat.reduceMul, Nat.reduceDiv, Nat.reduceMod, Nat.reducePow, Nat.reduceLeDiff, Nat.reduceLT, Nat.reduceEqDiff, Nat.reduceBEq, Nat.reduceBNe, Int.reduceAdd, Int.reduceSub, Int.reduceMul, Int.reducePow, Int.reduceLE, Int.reduceLT, Int.reduceEq, Int.reduceToNat, Int.reduceNeg, reduceCtorEq, Nat.add_zero, Nat.zero_add, beq_self_eq_true, unwind, modeEx, resultsOf, one]
    | false =>
      rw [ha] at hp
      obtain ⟨rfl, j0, j1, j2, j3, j4, j5, j6, j7, j8, j9, j10, j11, j12, j13, j14, j15, j16, j17, j18, rfl⟩ := hp
      refine ⟨-1, by simp, fun ro H nx => ?_⟩
      refine call_pure (H' := []) rfl rfl rfl rfl ?_ rfl ro H nx
      rw [run_unfold fn119 rfl]
      simp only [go_sem, Nat.reduceAdd, Nat.reduceSub, Nat.reduceMul, Nat.reduceDiv, Nat.reduceMod, Nat.reducePow, Nat.reduceLeDiff, Nat.reduceLT, Nat.reduceEqDiff, Nat.reduceBEq, Nat.reduceBNe, Int.reduceAdd, Int.reduceSub, Int.reduceMul, Int.reducePow, Int.reduceLE, Int.reduceLT, Int.reduceEq, Int.reduceToNat, Int.reduceNeg, reduceCtorEq, Nat.add_zero, Nat.zero_add, beq_self_eq_true, Try.f119, List.length_map]
      rw [hx]
      simp only [go_sem, Nat.reduceAdd, Nat.reduceSub, Nat.reduceMul, Nat.reduceDiv, Nat.reduceMod, Nat.reducePow, Nat.reduceLeDiff, Nat.reduceLT, Nat.reduceEqDiff, Nat.reduceBEq, Nat.reduceBNe, Int.reduceAdd, Int.reduceSub, Int.reduceMul, Int.reducePow, Int.reduceLE, Int.reduceLT, Int.reduceEq, Int.reduceToNat, Int.reduceNeg, reduceCtorEq, Nat.add_zero, Nat.zero_add, beq_self_eq_true, unwind, modeEx, resultsOf, one]
  obtain ⟨k, hk, hc⟩ := hi
  refine call_pure (H' := []) rfl rfl rfl rfl ?_ rfl ro H nx
  have hd : decide (0 ≤ k) = l.any Entry.big := by rw [Bool.eq_iff_iff]; simpa using hk
  rw [run_unfold fn72 rfl]
  simp only [go_sem, Nat.reduceAdd, Nat.reduceSub, Nat.reduceMul, Nat.reduceDiv, Nat.reduceMod, Nat.reducePow, Nat.reduceLeDiff, Nat.reduceLT, Nat.reduceEqDiff, Nat.reduceBEq, Nat.reduceBNe, Int.reduceAdd, Int.reduceSub, Int.reduceMul, Int.reducePow, Int.reduceLE, Int.reduceLT, Int.reduceEq, Int.reduceToNat, Int.reduceNeg, reduceCtorEq, Nat.add_zero, Nat.zero_add, beq_self_eq_true, Try.f72, hc, hd, unwind, modeEx, resultsOf, one]

def fewS (l : List Entry) : Bool := (decide ((l.length : Int) ≤ 40) || (decide (512 < (l.length : Int)) && decide ((l.length : Int) ≤ 520))) && !l.any Entry.big

theorem few_call (cl : Bool) (l : List Entry) (hlen : l.length < 2 ^ 63) (ro : Nat) (H : Heap) (nx : Nat) : callT env 15 [.lit cl 3 (l.map Entry.enc)] ro H nx = some (.ret (.bool (fewS l)), .ups []) := by
  refine call_pure (H' := []) rfl rfl rfl rfl ?_ rfl ro H nx
  rw [run_unfold fn15 rfl]
  unfold fewS
  cases h1 : decide ((l.length : Int) ≤ 40) with
  | true => simp only [go_sem, Nat.reduceAdd, Nat.reduceSub, Nat.reduceMul, Nat.reduceDiv, Nat.reduceMod, Nat.reducePow, Nat.reduceLeDiff, Nat.reduceLT, Nat.reduceEqDiff, Nat.reduceBEq, Nat.reduceBNe, Int.reduceAdd, Int.reduceSub, Int.reduceMul, Int.reducePow, Int.reduceLE, Int.reduceLT, Int.reduceEq, Int.reduceToNat, Int.reduceNeg, reduceCtorEq, Nat.add_zero, Nat.zero_add, beq_self_eq_true, Try.f15, List.length_map, h1, contains_call cl l hlen, unwind, modeEx, resultsOf, one]
  | false =>
    cases h2 : decide (512 < (l.length : Int)) with
    | false => simp only [go_sem, Nat.reduceAdd, Nat.reduceSub, Nat.reduceMul, Nat.reduceDiv, Nat.reduceMod, Nat.reducePow, Nat.reduceLeDiff, Nat.reduceLT, Nat.reduceEqDiff, Nat.reduceBEq, Nat.reduceBNe, Int.reduceAdd, Int.reduceSub, Int.reduceMul, Int.reducePow, Int.reduceLE, Int.reduceLT, Int.reduceEq, Int.reduceToNat, Int.reduceNeg, reduceCtorEq, Nat.add_zero, Nat.zero_add, beq_self_eq_true, Try.f15, List.length_map, h1, h2, unwind, modeEx, resultsOf, one]
    | true =>
      cases h3 : decide ((l.length : Int) ≤ 520) with
      | false => simp only [go_sem, Nat.reduceAdd, Nat.reduceSub, Nat.reduceMul, Nat.reduceDiv, Nat.reduceMod, Nat.reducePow, Nat.reduceLeDiff, Nat.reduceLT, Nat.reduceEqDiff, Nat.reduceBEq, Nat.reduceBNe, Int.reduceAdd, Int.reduceSub, Int.reduceMul, Int.reducePow, Int.reduceLE, Int.reduceLT, Int.reduceEq, Int.reduceToNat, Int.reduceNeg, reduceCtorEq, Nat.add_zero, Nat.zero_add, beq_self_eq_true, Try.f15, List.length_map, h1, h2, h3, unwind, modeEx, resultsOf, one]
      | true => simp only [go_sem, Nat.reduceAdd, Nat.reduceSub, Nat.reduceMul, Nat.reduceDiv, Nat.reduceMod, Nat.reducePow, Nat.reduceLeDiff, Nat.reduceLT, Nat.reduceEqDiff, Nat.reduceBEq, Nat.reduceBNe, Int.reduceAdd, Int.reduceSub, Int.reduceMul, Int.reducePow, Int.reduceLE, Int.reduceLT, Int.reduceEq, Int.reduceToNat, Int.reduceNeg, reduceCtorEq, Nat.add_zero, Nat.zero_add, beq_self_eq_true, Try.f15, List.length_map, h1, h2, h3, contains_call cl l hlen, unwind, modeEx, resultsOf, one]

end Go.Proofs.Ytamcncpgfhfheaa.Tidy

/-
  Trees: paths, of the program and of the reference.
-/
namespace Go.Proofs.Ytamcncpgfhfheaa.Tidy
open Go Go.IntWalk
set_option maxRecDepth 10000
set_option linter.unusedSimpArgs false

/-- a path, from its end -/
def pathR (rt : List Entry → Int) (l : List Entry) (pos : Nat) : List Int :=
  if h : l.length ≤ 1 then [] else
    if pos < splitS l.length then rt (l.drop (splitS l.length)) :: pathR rt (l.take (splitS l.length)) pos
    else rt (l.take (splitS l.length)) :: pathR rt (l.drop (splitS l.length)) (pos - splitS l.length)
termination_by l.length
decreasing_by
  all_goals
    have := splitS_lt (n := l.length) (by omega)
    simp only [List.length_take, List.length_drop]
    omega

theorem pathR_one {rt : List Entry → Int} {l : List Entry} {pos : Nat} (h : l.length ≤ 1) : pathR rt l pos = [] := by
  rw [pathR, dif_pos h]
theorem pathR_left {rt : List Entry → Int} {l : List Entry} {pos : Nat} (h : 2 ≤ l.length) (hp : pos < splitS l.length) : pathR rt l pos = rt (l.drop (splitS l.length)) :: pathR rt (l.take (splitS l.length)) pos := by
  rw [pathR, dif_neg (by omega), if_pos hp]
theorem pathR_right {rt : List Entry → Int} {l : List Entry} {pos : Nat} (h : 2 ≤ l.length) (hp : ¬ pos < splitS l.length) : pathR rt l pos = rt (l.take (splitS l.length)) :: pathR rt (l.drop (splitS l.length)) (pos - splitS l.length) := by
  rw [pathR, dif_neg (by omega), if_neg hp]

theorem pathR_length (rt : List Entry → Int) : ∀ (n : Nat) (l : List Entry) (pos : Nat), l.length ≤ n → (pathR rt l pos).length ≤ n
  | 0, l, pos, h => by rw [pathR_one (by omega)]; simp
  | n + 1, l, pos, h => by
    by_cases h1 : l.length ≤ 1
    · rw [pathR_one h1]; simp
    · have hs := splitS_lt (n := l.length) (by omega)
      by_cases hp : pos < splitS l.length
      · rw [pathR_left (by omega) hp]
        have := pathR_length rt n (l.take (splitS l.length)) pos (by rw [List.length_take]; omega)
        simp only [List.length_cons]; omega
      · rw [pathR_right (by omega) hp]
        have := pathR_length rt n (l.drop (splitS l.length)) (pos - splitS l.length) (by rw [List.length_drop]; omega)
        simp only [List.length_cons]; omega

/-- one number more, in a list of hashes -/
theorem append35 {v : AVal} {us : Ups} {xs : List Int} (hv : VecC .u64 0 v us xs) (hx : xs.length ≤ 600) (y : Int) :
    ∃ u us', appendOp env 0 (putU [] us).length 35 v (.lit true 1 [.int .u64 y]) (putU [] us) = some (u, us') ∧ VecR .u64 u (putU (putU [] us) us') (xs ++ [y]) ∧
      consec 0 0 us = true ∧ (consec (putU [] us).length (putU [] us).length us' && v.refs.all fun j => decide (j < (putU [] us).length)) = true ∧ us'.map (·.1) = [0] ∧ ((us.map (·.1) = [] ∧ v.refs = []) ∨ (us.map (·.1) = [0] ∧ v.refs = [0])) := by
  have hb : (xs.length + 1) * (8 + 1) ≤ maxBytes := by unfold maxBytes; omega
  rcases hv with ⟨sz, rfl, rfl, hsz⟩ | ⟨g, rfl, rfl, h0⟩
  · refine ⟨.ref 0 0 0 (xs.length + 1) false, [(0, .cells 0 1 true ((xs ++ [y]).map (.int .u64)))], ?_, .inr ⟨0, by simp, by simp [putU], by simp⟩, rfl, rfl, rfl, .inl ⟨rfl, rfl⟩⟩
    have := append_lit (E := env) (nx := 0) (ro := 0) (H := []) (x := .lit true 1 [.int .u64 y]) (sz := sz) (es := xs.map (.int .u64)) ti35 ti25 rfl ⟨by decide, rfl, rfl⟩ rfl (by simp) (by rcases hsz with rfl | rfl <;> simp) (by simpa using hb) (fun _ => rfl)
    simpa [putU, newBlk, show flatTy env 8 25 = true from rfl] using this
  · have hl : 0 < xs.length := List.length_pos_iff.2 h0
    refine ⟨.ref 0 (g + 1) 0 (xs.length + 1) false, [(0, .cells (g + 1) 1 true ((xs ++ [y]).map (.int .u64)))], ?_, .inr ⟨g + 1, by simp, by simp [putU], by simp⟩, rfl, rfl, rfl, .inr ⟨rfl, rfl⟩⟩
    have := append_ref (E := env) (nx := 1) (ro := 0) (id := 0) (g := g) (fl := true) (H := [.cells g 1 true (xs.map (.int .u64))]) (x := .lit true 1 [.int .u64 y]) (bs := xs.map (.int .u64)) (len := xs.length) ti35 ti25 rfl ⟨by decide, rfl, rfl⟩ rfl (by simp) rfl (by simp) hl (by omega) (by simpa using hb) (fun _ => rfl)
    simpa [putU] using this

theorem path_run : ∀ (n : Nat) (cl : Bool) (l : List Entry) (pos : Nat), l.length = n → 1 ≤ n → n ≤ 512 → pos < n → small l → ∃ v H', runT env 89 [encL cl l, .int .i64 pos] [] 0 = some (.ret v, H') ∧ VecR .u64 v H' (pathR rootI l pos).reverse := by
  intro n
  induction n using Nat.strongRecOn with
  | _ n ih =>
    intro cl l pos hl h1 hn hp hsm
    rw [run_unfold fn89 rfl]
    by_cases h2 : n = 1
    · have d1 : decide ((l.length : Int) = 1) = true := by simp only [decide_eq_true_eq]; omega
      rw [pathR_one (by omega)]
      simp only [go_sem, Nat.reduceAdd, Nat.reduceSub, Nat.reduceMul, Nat.reduceDiv, Nat.reduceMod, Nat.reducePow, Nat.reduceLeDiff, Nat.reduceLT, Nat.reduceEqDiff, Nat.reduceBEq, Nat.reduceBNe, Int.reduceAdd, Int.reduceSub, Int.reduceMul, Int.reducePow, Int.reduceLE, Int.reduceLT, Int.reduceEq, Int.reduceToNat, Int.reduceNeg, reduceCtorEq, Nat.add_zero, Nat.zero_add, beq_self_eq_true, Try.f89, encL, List.length_map, d1, unwind, modeEx, resultsOf, one]
      exact ⟨_, _, rfl, .inl ⟨0, rfl, rfl, .inl rfl⟩⟩
    · have hs := splitS_lt (n := l.length) (by omega)
      have d1 : decide ((l.length : Int) = 1) = false := by simp only [decide_eq_false_iff_not]; omega
      by_cases hlt : pos < splitS l.length
      · have d2 : decide ((pos : Int) < (splitS l.length : Int)) = true := by simp only [decide_eq_true_eq]; omega
        rw [pathR_left (by omega) hlt]
        obtain ⟨v, H', hr, hv⟩ := ih (l.take (splitS l.length)).length (by rw [List.length_take]; omega) (cl && splitS l.length == l.length) (l.take (splitS l.length)) pos rfl (by rw [List.length_take]; omega) (by rw [List.length_take]; omega) (by rw [List.length_take]; omega) (hsm.take _)
        obtain ⟨u, us, hc, hu⟩ := call_vec rfl rfl rfl rfl rfl hr hv 0 [] 0
        have hlen := pathR_length rootI 512 (l.take (splitS l.length)) pos (by rw [List.length_take]; omega)
        obtain ⟨w, us', ha, hw, g1, g2, g3, g4⟩ := append35 hu (by rw [List.length_reverse]; omega) (rootI (l.drop (splitS l.length)))
        have hrt := fun cl => root_call cl (l.drop (splitS l.length)) (by rw [List.length_drop]; omega) (hsm.drop _)
        simp only [encL] at hc
        simp only [go_sem, Nat.reduceAdd, Nat.reduceSub, Nat.reduceMul, Nat.reduceDiv, Nat.reduceMod, Nat.reducePow, Nat.reduceLeDiff, Nat.reduceLT, Nat.reduceEqDiff, Nat.reduceBEq, Nat.reduceBNe, Int.reduceAdd, Int.reduceSub, Int.reduceMul, Int.reducePow, Int.reduceLE, Int.reduceLT, Int.reduceEq, Int.reduceToNat, Int.reduceNeg, reduceCtorEq, Nat.add_zero, Nat.zero_add, beq_self_eq_true, Try.f89, encL, List.length_map, d1, d2, split_call (n := l.length) (by omega) (by omega), sl_to _ _ _ (show splitS l.length ≤ l.length by omega), sl_from _ _ _ (show splitS l.length ≤ l.length by omega), hc, hrt, ha, g1, g2, g3]
        rw [apart_ok]
        · simp only [go_sem, Nat.reduceAdd, Nat.reduceSub, Nat.reduceMul, Nat.reduceDiv, Nat.reduceMod, Nat.reducePow, Nat.reduceLeDiff, Nat.reduceLT, Nat.reduceEqDiff, Nat.reduceBEq, Nat.reduceBNe, Int.reduceAdd, Int.reduceSub, Int.reduceMul, Int.reducePow, Int.reduceLE, Int.reduceLT, Int.reduceEq, Int.reduceToNat, Int.reduceNeg, reduceCtorEq, Nat.add_zero, Nat.zero_add, beq_self_eq_true, unwind, modeEx, resultsOf, one]
          exact ⟨_, _, rfl, by simpa using hw⟩
        · rcases g4 with ⟨e1, e2⟩ | ⟨e1, e2⟩ <;> rw [e1, e2] <;> kernel_rfl
      · have d2 : decide ((pos : Int) < (splitS l.length : Int)) = false := by simp only [decide_eq_false_iff_not]; omega
        have e1 : IntKind.i64.wrap ((pos : Int) - (splitS l.length : Int)) = ((pos - splitS l.length : Nat) : Int) := by rw [i64_in _ (by omega)]; omega
        rw [pathR_right (by omega) hlt]
        obtain ⟨v, H', hr, hv⟩ := ih (l.drop (splitS l.length)).length (by rw [List.length_drop]; omega) cl (l.drop (splitS l.length)) (pos - splitS l.length) rfl (by rw [List.length_drop]; omega) (by rw [List.length_drop]; omega) (by rw [List.length_drop]; omega) (hsm.drop _)
        obtain ⟨u, us, hc, hu⟩ := call_vec rfl rfl rfl rfl rfl hr hv 0 [] 0
        have hlen := pathR_length rootI 512 (l.drop (splitS l.length)) (pos - splitS l.length) (by rw [List.length_drop]; omega)
        obtain ⟨w, us', ha, hw, g1, g2, g3, g4⟩ := append35 hu (by rw [List.length_reverse]; omega) (rootI (l.take (splitS l.length)))
        have hrt := fun cl => root_call cl (l.take (splitS l.length)) (by rw [List.length_take]; omega) (hsm.take _)
        simp only [encL] at hc
        simp only [go_sem, Nat.reduceAdd, Nat.reduceSub, Nat.reduceMul, Nat.reduceDiv, Nat.reduceMod, Nat.reducePow, Nat.reduceLeDiff, Nat.reduceLT, Nat.reduceEqDiff, Nat.reduceBEq, Nat.reduceBNe, Int.reduceAdd, Int.reduceSub, Int.reduceMul, Int.reducePow, Int.reduceLE, Int.reduceLT, Int.reduceEq, Int.reduceToNat, Int.reduceNeg, reduceCtorEq, Nat.add_zero, Nat.zero_add, beq_self_eq_true, Try.f89, encL, List.length_map, d1, d2, e1, split_call (n := l.length) (by omega) (by omega), sl_to _ _ _ (show splitS l.length ≤ l.length by omega), sl_from _ _ _ (show splitS l.length ≤ l.length by omega), hc, hrt, ha, g1, g2, g3]
        rw [apart_ok]
        · simp only [go_sem, Nat.reduceAdd, Nat.reduceSub, Nat.reduceMul, Nat.reduceDiv, Nat.reduceMod, Nat.reducePow, Nat.reduceLeDiff, Nat.reduceLT, Nat.reduceEqDiff, Nat.reduceBEq, Nat.reduceBNe, Int.reduceAdd, Int.reduceSub, Int.reduceMul, Int.reducePow, Int.reduceLE, Int.reduceLT, Int.reduceEq, Int.reduceToNat, Int.reduceNeg, reduceCtorEq, Nat.add_zero, Nat.zero_add, beq_self_eq_true, unwind, modeEx, resultsOf, one]
          exact ⟨_, _, rfl, by simpa using hw⟩
        · rcases g4 with ⟨e1, e2⟩ | ⟨e1, e2⟩ <;> rw [e1, e2] <;> kernel_rfl
theorem rroot_call1 (cl : Bool) (l : List Entry) (h1 : l.length ≤ 512) (h2 : small l) (ro : Nat) (H : Heap) (nx : Nat) : callT env 84 [.lit cl 3 (l.map Entry.enc)] ro H nx = some (.ret (.int .u64 (rootI l)), .ups []) := by
  rw [rroot_call cl l h1 h2, root_same l h2]

theorem rpath_run : ∀ (n : Nat) (cl : Bool) (l : List Entry) (pos : Nat), l.length = n → 1 ≤ n → n ≤ 512 → pos < n → small l → ∃ v H', runT env 90 [encL cl l, .int .i64 pos] [] 0 = some (.ret v, H') ∧ VecR .u64 v H' (pathR rootI l pos).reverse := by
  intro n
  induction n using Nat.strongRecOn with
  | _ n ih =>
    intro cl l pos hl h1 hn hp hsm
    rw [run_unfold fn90 rfl]
    by_cases h2 : n = 1
    · have d1 : decide ((l.length : Int) = 1) = true := by simp only [decide_eq_true_eq]; omega
      rw [pathR_one (by omega)]
      simp only [go_sem, Nat.reduceAdd, Nat.reduceSub, Nat.reduceMul, Nat.reduceDiv, Nat.reduceMod, Nat.reducePow, Nat.reduceLeDiff, Nat.reduceLT, Nat.reduceEqDiff, Nat.reduceBEq, Nat.reduceBNe, Int.reduceAdd, Int.reduceSub, Int.reduceMul, Int.reducePow, Int.reduceLE, Int.reduceLT, Int.reduceEq, Int.reduceToNat, Int.reduceNeg, reduceCtorEq, Nat.add_zero, Nat.zero_add, beq_self_eq_true, Try.f90, encL, List.length_map, d1, unwind, modeEx, resultsOf, one]
      exact ⟨_, _, rfl, .inl ⟨0, rfl, rfl, .inl rfl⟩⟩
    · have hs := splitS_lt (n := l.length) (by omega)
      have d1 : decide ((l.length : Int) = 1) = false := by simp only [decide_eq_false_iff_not]; omega
      by_cases hlt : pos < splitS l.length
      · have d2 : decide ((pos : Int) < (splitS l.length : Int)) = true := by simp only [decide_eq_true_eq]; omega
        rw [pathR_left (by omega) hlt]
        obtain ⟨v, H', hr, hv⟩ := ih (l.take (splitS l.length)).length (by rw [List.length_take]; omega) true (l.take (splitS l.length)) pos rfl (by rw [List.length_take]; omega) (by rw [List.length_take]; omega) (by rw [List.length_take]; omega) (hsm.take _)
        obtain ⟨u, us, hc, hu⟩ := call_vec rfl rfl rfl rfl rfl hr hv 0 [] 0
        have hlen := pathR_length rootI 512 (l.take (splitS l.length)) pos (by rw [List.length_take]; omega)
        obtain ⟨w, us', ha, hw, g1, g2, g3, g4⟩ := append35 hu (by rw [List.length_reverse]; omega) (rootI (l.drop (splitS l.length)))
        have hrt := fun cl => rroot_call1 cl (l.drop (splitS l.length)) (by rw [List.length_drop]; omega) (hsm.drop _)
        simp only [encL] at hc
        simp only [go_sem, Nat.reduceAdd, Nat.reduceSub, Nat.reduceMul, Nat.reduceDiv, Nat.reduceMod, Nat.reducePow, Nat.reduceLeDiff, Nat.reduceLT, Nat.reduceEqDiff, Nat.reduceBEq, Nat.reduceBNe, Int.reduceAdd, Int.reduceSub, Int.reduceMul, Int.reducePow, Int.reduceLE, Int.reduceLT, Int.reduceEq, Int.reduceToNat, Int.reduceNeg, reduceCtorEq, Nat.add_zero, Nat.zero_add, beq_self_eq_true, Try.f90, encL, List.length_map, d1, d2, rsplit_call (n := l.length) (by omega) (by omega), sl_to3 _ _ _ (show splitS l.length ≤ l.length by omega), sl_from _ _ _ (show splitS l.length ≤ l.length by omega), hc, hrt, ha, g1, g2, g3]
        rw [apart_ok]
        · simp only [go_sem, Nat.reduceAdd, Nat.reduceSub, Nat.reduceMul, Nat.reduceDiv, Nat.reduceMod, Nat.reducePow, Nat.reduceLeDiff, Nat.reduceLT, Nat.reduceEqDiff, Nat.reduceBEq, Nat.reduceBNe, Int.reduceAdd, Int.reduceSub, Int.reduceMul, Int.reducePow, Int.reduceLE, Int.reduceLT, Int.reduceEq, Int.reduceToNat, Int.reduceNeg, reduceCtorEq, Nat.add_zero, Nat.zero_add, beq_self_eq_true, unwind, modeEx, resultsOf, one]
          exact ⟨_, _, rfl, by simpa using hw⟩
        · rcases g4 with ⟨e1, e2⟩ | ⟨e1, e2⟩ <;> rw [e1, e2] <;> kernel_rfl
      · have d2 : decide ((pos : Int) < (splitS l.length : Int)) = false := by simp only [decide_eq_false_iff_not]; omega
        have e1 : IntKind.i64.wrap ((pos : Int) - (splitS l.length : Int)) = ((pos - splitS l.length : Nat) : Int) := by rw [i64_in _ (by omega)]; omega
        rw [pathR_right (by omega) hlt]
        obtain ⟨v, H', hr, hv⟩ := ih (l.drop (splitS l.length)).length (by rw [List.length_drop]; omega) cl (l.drop (splitS l.length)) (pos - splitS l.length) rfl (by rw [List.length_drop]; omega) (by rw [List.length_drop]; omega) (by rw [List.length_drop]; omega) (hsm.drop _)
        obtain ⟨u, us, hc, hu⟩ := call_vec rfl rfl rfl rfl rfl hr hv 0 [] 0
        have hlen := pathR_length rootI 512 (l.drop (splitS l.length)) (pos - splitS l.length) (by rw [List.length_drop]; omega)
        obtain ⟨w, us', ha, hw, g1, g2, g3, g4⟩ := append35 hu (by rw [List.length_reverse]; omega) (rootI (l.take (splitS l.length)))
        have hrt := fun cl => rroot_call1 cl (l.take (splitS l.length)) (by rw [List.length_take]; omega) (hsm.take _)
        simp only [encL] at hc
        simp only [go_sem, Nat.reduceAdd, Nat.reduceSub, Nat.reduceMul, Nat.reduceDiv, Nat.reduceMod, Nat.reducePow, Nat.reduceLeDiff, Nat.reduceLT, Nat.reduceEqDiff, Nat.reduceBEq, Nat.reduceBNe, Int.reduceAdd, Int.reduceSub, Int.reduceMul, Int.reducePow, Int.reduceLE, Int.reduceLT, Int.reduceEq, Int.reduceToNat, Int.reduceNeg, reduceCtorEq, Nat.add_zero, Nat.zero_add, beq_self_eq_true, Try.f90, encL, List.length_map, d1, d2, e1, rsplit_call (n := l.length) (by omega) (by omega), sl_to3 _ _ _ (show splitS l.length ≤ l.length by omega), sl_from _ _ _ (show splitS l.length ≤ l.length by omega), hc, hrt, ha, g1, g2, g3]
        rw [apart_ok]
        · simp only [go_sem, Nat.reduceAdd, Nat.reduceSub, Nat.reduceMul, Nat.reduceDiv, Nat.reduceMod, Nat.reducePow, Nat.reduceLeDiff, Nat.reduceLT, Nat.reduceEqDiff, Nat.reduceBEq, Nat.reduceBNe, Int.reduceAdd, Int.reduceSub, Int.reduceMul, Int.reducePow, Int.reduceLE, Int.reduceLT, Int.reduceEq, Int.reduceToNat, Int.reduceNeg, reduceCtorEq, Nat.add_zero, Nat.zero_add, beq_self_eq_true, unwind, modeEx, resultsOf, one]
          exact ⟨_, _, rfl, by simpa using hw⟩
        · rcases g4 with ⟨e1, e2⟩ | ⟨e1, e2⟩ <;> rw [e1, e2] <;> kernel_rfl
end Go.Proofs.Ytamcncpgfhfheaa.Tidy

/-
  Trees: Path and CheckPath, of the program and of the reference.
-/
namespace Go.Proofs.Ytamcncpgfhfheaa.Tidy
open Go Go.IntWalk
set_option maxRecDepth 10000
set_option linter.unusedSimpArgs false

/-- what Path tells: the numbers, and the error -/
def pathS (l : List Entry) (pos : Int) : List Int × Int :=
  if chkS l = 0 then (if pos < 0 ∨ (l.length : Int) ≤ pos then ([], 1) else ((pathR rootI l pos.toNat).reverse, 0)) else ([], chkS l)

theorem Path_call (cl : Bool) (l : List Entry) (pos : Int) (hlen : l.length < 2 ^ 63) : ∃ cl' sz, ((pathS l pos).1 = [] ∨ sz = 1) ∧ ∀ ro H nx,
    callT env 24 [.lit cl 3 (l.map Entry.enc), .int .i64 pos] ro H nx = some (.ret (.tuple [.lit cl' sz ((pathS l pos).1.map (.int .u64)), .int .i64 (pathS l pos).2]), .ups []) := by
  have : ∃ v H', runT env 24 [.lit cl 3 (l.map Entry.enc), .int .i64 pos] [] 0 = some (.ret (.tuple [v, .int .i64 (pathS l pos).2]), H') ∧ VecR .u64 v H' (pathS l pos).1 := by
    have hck := fun ro H nx => checkList_call cl l hlen ro H nx
    unfold pathS
    rw [run_unfold fn24 rfl]
    by_cases hc : chkS l = 0
    · have hcd : decide (chkS l = 0) = true := by simpa using hc
      rw [if_pos hc]
      obtain ⟨h1, h2⟩ := chk_zero hc
      by_cases hp : pos < 0
      · have d1 : decide (pos < 0) = true := by simpa using hp
        rw [if_pos (.inl hp)]
        simp only [go_sem, Nat.reduceAdd, Nat.reduceSub, Nat.reduceMul, Nat.reduceDiv, Nat.reduceMod, Nat.reducePow, Nat.reduceLeDiff, Nat.reduceLT, Nat.reduceEqDiff, Nat.reduceBEq, Nat.reduceBNe, Int.reduceAdd, Int.reduceSub, Int.reduceMul, Int.reducePow, Int.reduceLE, Int.reduceLT, Int.reduceEq, Int.reduceToNat, Int.reduceNeg, reduceCtorEq, Nat.add_zero, Nat.zero_add, beq_self_eq_true, Try.f24, hck, hcd, d1, unwind, modeEx, resultsOf, one]
        exact ⟨_, _, rfl, .inl ⟨0, rfl, rfl, .inl rfl⟩⟩
      · have d1 : decide (pos < 0) = false := by simpa using hp
        by_cases hq : (l.length : Int) ≤ pos
        · have d2 : decide ((l.length : Int) ≤ pos) = true := by simpa using hq
          rw [if_pos (.inr hq)]
          simp only [go_sem, Nat.reduceAdd, Nat.reduceSub, Nat.reduceMul, Nat.reduceDiv, Nat.reduceMod, Nat.reducePow, Nat.reduceLeDiff, Nat.reduceLT, Nat.reduceEqDiff, Nat.reduceBEq, Nat.reduceBNe, Int.reduceAdd, Int.reduceSub, Int.reduceMul, Int.reducePow, Int.reduceLE, Int.reduceLT, Int.reduceEq, Int.reduceToNat, Int.reduceNeg, reduceCtorEq, Nat.add_zero, Nat.zero_add, beq_self_eq_true, Try.f24, hck, hcd, d1, d2, List.length_map, unwind, modeEx, resultsOf, one]
          exact ⟨_, _, rfl, .inl ⟨0, rfl, rfl, .inl rfl⟩⟩
        · have d2 : decide ((l.length : Int) ≤ pos) = false := by simpa using hq
          rw [if_neg (by rintro (h | h) <;> contradiction)]
          obtain ⟨v, H', hr, hv⟩ := path_run l.length cl l pos.toNat rfl (by omega) h1 (by omega) (all_small h2)
          obtain ⟨u, us, hpc, hu⟩ := call_vec rfl rfl rfl rfl rfl hr hv 0 [] 0
          have hpos : ((pos.toNat : Nat) : Int) = pos := by omega
          simp only [encL, hpos] at hpc
          simp only [go_sem, Nat.reduceAdd, Nat.reduceSub, Nat.reduceMul, Nat.reduceDiv, Nat.reduceMod, Nat.reducePow, Nat.reduceLeDiff, Nat.reduceLT, Nat.reduceEqDiff, Nat.reduceBEq, Nat.reduceBNe, Int.reduceAdd, Int.reduceSub, Int.reduceMul, Int.reducePow, Int.reduceLE, Int.reduceLT, Int.reduceEq, Int.reduceToNat, Int.reduceNeg, reduceCtorEq, Nat.add_zero, Nat.zero_add, beq_self_eq_true, Try.f24, hck, hcd, d1, d2, List.length_map, hpc, unwind, modeEx, resultsOf, one]
          refine ⟨_, _, rfl, ?_⟩
          rcases hu with ⟨sz, rfl, rfl, hsz⟩ | ⟨g, rfl, rfl, hne⟩
          · exact .inl ⟨sz, rfl, rfl, hsz⟩
          · exact .inr ⟨g, rfl, rfl, hne⟩
    · have hcd : decide (chkS l = 0) = false := by simpa using hc
      rw [if_neg hc]
      simp only [go_sem, Nat.reduceAdd, Nat.reduceSub, Nat.reduceMul, Nat.reduceDiv, Nat.reduceMod, Nat.reducePow, Nat.reduceLeDiff, Nat.reduceLT, Nat.reduceEqDiff, Nat.reduceBEq, Nat.reduceBNe, Int.reduceAdd, Int.reduceSub, Int.reduceMul, Int.reducePow, Int.reduceLE, Int.reduceLT, Int.reduceEq, Int.reduceToNat, Int.reduceNeg, reduceCtorEq, Nat.add_zero, Nat.zero_add, beq_self_eq_true, Try.f24, hck, hcd, unwind, modeEx, resultsOf, one]
      exact ⟨_, _, rfl, .inl ⟨0, rfl, rfl, .inl rfl⟩⟩
  obtain ⟨v, H', hr, hv⟩ := this
  exact call_lit2 rfl rfl rfl rfl rfl hr hv rfl

theorem rPath_call (cl : Bool) (l : List Entry) (pos : Int) (hlen : l.length < 2 ^ 63) : ∃ cl' sz, ((pathS l pos).1 = [] ∨ sz = 1) ∧ ∀ ro H nx,
    callT env 25 [.lit cl 3 (l.map Entry.enc), .int .i64 pos] ro H nx = some (.ret (.tuple [.lit cl' sz ((pathS l pos).1.map (.int .u64)), .int .i64 (pathS l pos).2]), .ups []) := by
  have : ∃ v H', runT env 25 [.lit cl 3 (l.map Entry.enc), .int .i64 pos] [] 0 = some (.ret (.tuple [v, .int .i64 (pathS l pos).2]), H') ∧ VecR .u64 v H' (pathS l pos).1 := by
    have hck := fun ro H nx => rcheckList_call cl l hlen ro H nx
    unfold pathS
    rw [run_unfold fn25 rfl]
    by_cases hc : chkS l = 0
    · have hcd : decide (chkS l = 0) = true := by simpa using hc
      rw [if_pos hc]
      obtain ⟨h1, h2⟩ := chk_zero hc
      by_cases hp : pos < 0
      · have d1 : decide (pos < 0) = true := by simpa using hp
        rw [if_pos (.inl hp)]
        simp only [go_sem, Nat.reduceAdd, Nat.reduceSub, Nat.reduceMul, Nat.reduceDiv, Nat.reduceMod, Nat.reducePow, Nat.reduceLeDiff, Nat.reduceLT, Nat.reduceEqDiff, Nat.reduceBEq, Nat.reduceBNe, Int.reduceAdd, Int.reduceSub, Int.reduceMul, Int.reducePow, Int.reduceLE, Int.reduceLT, Int.reduceEq, Int.reduceToNat, Int.reduceNeg, reduceCtorEq, Nat.add_zero, Nat.zero_add, beq_self_eq_true, Try.f25, hck, hcd, d1, unwind, modeEx, resultsOf, one]
        exact ⟨_, _, rfl, .inl ⟨0, rfl, rfl, .inl rfl⟩⟩
      · have d1 : decide (pos < 0) = false := by simpa using hp
        by_cases hq : (l.length : Int) ≤ pos
        · have d2 : decide ((l.length : Int) ≤ pos) = true := by simpa using hq
          rw [if_pos (.inr hq)]
          simp only [go_sem, Nat.reduceAdd, Nat.reduceSub, Nat.reduceMul, Nat.reduceDiv, Nat.reduceMod, Nat.reducePow, Nat.reduceLeDiff, Nat.reduceLT, Nat.reduceEqDiff, Nat.reduceBEq, Nat.reduceBNe, Int.reduceAdd, Int.reduceSub, Int.reduceMul, Int.reducePow, Int.reduceLE, Int.reduceLT, Int.reduceEq, Int.reduceToNat, Int.reduceNeg, reduceCtorEq, Nat.add_zero, Nat.zero_add, beq_self_eq_true, Try.f25, hck, hcd, d1, d2, List.length_map, unwind, modeEx, resultsOf, one]
          exact ⟨_, _, rfl, .inl ⟨0, rfl, rfl, .inl rfl⟩⟩
        · have d2 : decide ((l.length : Int) ≤ pos) = false := by simpa using hq
          rw [if_neg (by rintro (h | h) <;> contradiction)]
          obtain ⟨v, H', hr, hv⟩ := rpath_run l.length cl l pos.toNat rfl (by omega) h1 (by omega) (all_small h2)
          obtain ⟨u, us, hpc, hu⟩ := call_vec rfl rfl rfl rfl rfl hr hv 0 [] 0
          have hpos : ((pos.toNat : Nat) : Int) = pos := by omega
          simp only [encL, hpos] at hpc
          simp only [go_sem, Nat.reduceAdd, Nat.reduceSub, Nat.reduceMul, Nat.reduceDiv, Nat.reduceMod, Nat.reducePow, Nat.reduceLeDiff, Nat.reduceLT, Nat.reduceEqDiff, Nat.reduceBEq, Nat.reduceBNe, Int.reduceAdd, Int.reduceSub, Int.reduceMul, Int.reducePow, Int.reduceLE, Int.reduceLT, Int.reduceEq, Int.reduceToNat, Int.reduceNeg, reduceCtorEq, Nat.add_zero, Nat.zero_add, beq_self_eq_true, Try.f25, hck, hcd, d1, d2, List.length_map, hpc, unwind, modeEx, resultsOf, one]
          refine ⟨_, _, rfl, ?_⟩
          rcases hu with ⟨sz, rfl, rfl, hsz⟩ | ⟨g, rfl, rfl, hne⟩
          · exact .inl ⟨sz, rfl, rfl, hsz⟩
          · exact .inr ⟨g, rfl, rfl, hne⟩
    · have hcd : decide (chkS l = 0) = false := by simpa using hc
      rw [if_neg hc]
      simp only [go_sem, Nat.reduceAdd, Nat.reduceSub, Nat.reduceMul, Nat.reduceDiv, Nat.reduceMod, Nat.reducePow, Nat.reduceLeDiff, Nat.reduceLT, Nat.reduceEqDiff, Nat.reduceBEq, Nat.reduceBNe, Int.reduceAdd, Int.reduceSub, Int.reduceMul, Int.reducePow, Int.reduceLE, Int.reduceLT, Int.reduceEq, Int.reduceToNat, Int.reduceNeg, reduceCtorEq, Nat.add_zero, Nat.zero_add, beq_self_eq_true, Try.f25, hck, hcd, unwind, modeEx, resultsOf, one]
      exact ⟨_, _, rfl, .inl ⟨0, rfl, rfl, .inl rfl⟩⟩
  obtain ⟨v, H', hr, hv⟩ := this
  exact call_lit2 rfl rfl rfl rfl rfl hr hv rfl

theorem get_map {α : Type} {f : α → AVal} {l : List α} {i : Nat} {b : α} (h : l[i]? = some b) : (l.map f)[i]? = some (f b) := by simp [h]

theorem equal_loop {c1 c2 : Bool} (xs ys : List Int) (hl : xs.length = ys.length) (hlen : xs.length < 2 ^ 63) (H : Heap) (ro : Nat) : ∀ (n i : Nat) (s1 s2 : Nat) (j2 j3 j5 j6 j7 j8 j9 j10 j11 j14 j15 j16 j17 j18 j19 j20 j21 j22 j23 j24 j25 : AVal), (xs = [] ∨ s1 = 1) → (ys = [] ∨ s2 = 1) → i + n = xs.length →
    Goes (execT env (Try.f26.at [1, 1, 0, 1, 0]) ⟨[.lit c1 s1 (xs.map (.int .u64)), .lit c2 s2 (ys.map (.int .u64)), j2, j3, .bool false, j5, j6, j7, j8, j9, j10, j11, .int .i64 xs.length, .int .i64 i, j14, j15, j16, j17, j18, j19, j20, j21, j22, j23, j24, j25], H, [], ro, []⟩) fun e s =>
      if xs.drop i = ys.drop i then e = .exit 0 ∧ ∃ j0 j1 j2 j3 j4 j5 j6 j7 j8 j9 j10 j11 j12 j13 j14 j15 j16 j17 j18 j19 j20 j21 j22 j23 j24 j25, s = ⟨[j0, j1, j2, j3, j4, j5, j6, j7, j8, j9, j10, j11, j12, j13, j14, j15, j16, j17, j18, j19, j20, j21, j22, j23, j24, j25], H, [], ro, []⟩ else e = .ret ∧ ∃ j0 j1 j2 j3 j5 j6 j7 j8 j9 j10 j11 j12 j13 j14 j15 j16 j17 j18 j19 j20 j21 j22 j23 j24 j25, s = ⟨[j0, j1, j2, j3, .bool false, j5, j6, j7, j8, j9, j10, j11, j12, j13, j14, j15, j16, j17, j18, j19, j20, j21, j22, j23, j24, j25], H, [], ro, []⟩ := by
  intro n
  induction n with
  | zero =>
    intro i s1 s2 j2 j3 j5 j6 j7 j8 j9 j10 j11 j14 j15 j16 j17 j18 j19 j20 j21 j22 j23 j24 j25 hs1 hs2 hi
    have hd : decide ((i : Int) < (xs.length : Int)) = false := by simp; omega
    have hq1 : xs.drop i = [] := List.drop_eq_nil_of_le (by omega)
    have hq2 : ys.drop i = [] := List.drop_eq_nil_of_le (by omega)
    simp only [go_sem, Nat.reduceAdd, Nat.reduceSub, Nat.reduceMul, Nat.reduceDiv, Nat.reduceMod, Nat.reducePow, Nat.reduceLeDiff, Nat.reduceLT, Nat.reduceEqDiff, Nat.reduceBEq, Nat.reduceBNe, Int.reduceAdd, Int.reduceSub, Int.reduceMul, Int.reducePow, Int.reduceLE, Int.reduceLT, Int.reduceEq, Int.reduceToNat, Int.reduceNeg, reduceCtorEq, Nat.add_zero, Nat.zero_add, beq_self_eq_true, Try.f26]
    rw [execT_loop]
    simp only [go_sem, Nat.reduceAdd, Nat.reduceSub, Nat.reduceMul, Nat.reduceDiv, Nat.reduceMod, Nat.reducePow, Nat.reduceLeDiff, Nat.reduceLT, Nat.reduceEqDiff, Nat.reduceBEq, Nat.reduceBNe, Int.reduceAdd, Int.reduceSub, Int.reduceMul, Int.reducePow, Int.reduceLE, Int.reduceLT, Int.reduceEq, Int.reduceToNat, Int.reduceNeg, reduceCtorEq, Nat.add_zero, Nat.zero_add, beq_self_eq_true, hd, hq1, hq2]
    exact ⟨_, _, _, _, _, _, _, _, _, _, _, _, _, _, _, _, _, _, _, _, _, _, _, _, _, _, rfl⟩
  | succ n ih =>
    intro i s1 s2 j2 j3 j5 j6 j7 j8 j9 j10 j11 j14 j15 j16 j17 j18 j19 j20 j21 j22 j23 j24 j25 hs1 hs2 hi
    have hd : decide ((i : Int) < (xs.length : Int)) = true := by simp; omega
    have h0 : (0 : Int) ≤ (i : Int) := by omega
    obtain ⟨x, hx, hxd⟩ := get_drop (show i < xs.length by omega)
    obtain ⟨y, hy, hyd⟩ := get_drop (show i < ys.length by omega)
    have e1 : s1 = 1 := by rcases hs1 with rfl | h; · simp at hx
                           · exact h
    have e2 : s2 = 1 := by rcases hs2 with rfl | h; · simp at hy
                           · exact h
    subst e1 e2
    have hx' : (xs.map (AVal.int .u64))[(i : Int).toNat]? = some (.int .u64 x) := get_map hx
    have hy' : (ys.map (AVal.int .u64))[(i : Int).toNat]? = some (.int .u64 y) := get_map hy
    have ih' := ih (i + 1) 1 1
    simp only [go_sem, Nat.reduceAdd, Nat.reduceSub, Nat.reduceMul, Nat.reduceDiv, Nat.reduceMod, Nat.reducePow, Nat.reduceLeDiff, Nat.reduceLT, Nat.reduceEqDiff, Nat.reduceBEq, Nat.reduceBNe, Int.reduceAdd, Int.reduceSub, Int.reduceMul, Int.reducePow, Int.reduceLE, Int.reduceLT, Int.reduceEq, Int.reduceToNat, Int.reduceNeg, reduceCtorEq, Nat.add_zero, Nat.zero_add, beq_self_eq_true, Try.f26] at ih' ⊢
    rw [execT_loop, hxd, hyd]
    by_cases hxy : x = y
    · subst hxy
      simp only [go_sem, Nat.reduceAdd, Nat.reduceSub, Nat.reduceMul, Nat.reduceDiv, Nat.reduceMod, Nat.reducePow, Nat.reduceLeDiff, Nat.reduceLT, Nat.reduceEqDiff, Nat.reduceBEq, Nat.reduceBNe, Int.reduceAdd, Int.reduceSub, Int.reduceMul, Int.reducePow, Int.reduceLE, Int.reduceLT, Int.reduceEq, Int.reduceToNat, Int.reduceNeg, reduceCtorEq, Nat.add_zero, Nat.zero_add, beq_self_eq_true, hd, h0, hx', hy', wrap_succ (show i < 2 ^ 63 - 1 by omega), List.cons.injEq]
      exact ih' _ _ _ _ _ _ _ _ _ _ _ _ _ _ _ _ _ _ _ _ _ (.inr trivial) (.inr trivial) (by omega)
    · have hb : decide (x = y) = false := by simpa using hxy
      have hcc : ∀ a b : List Int, (x :: a = y :: b) = False := by intro a b; simp [hxy]
      simp only [go_sem, Nat.reduceAdd, Nat.reduceSub, Nat.reduceMul, Nat.reduceDiv, Nat.reduceMod, Nat.reducePow, Nat.reduceLeDiff, Nat.reduceLT, Nat.reduceEqDiff, Nat.reduceBEq, Nat.reduceBNe, Int.reduceAdd, Int.reduceSub, Int.reduceMul, Int.reducePow, Int.reduceLE, Int.reduceLT, Int.reduceEq, Int.reduceToNat, Int.reduceNeg, reduceCtorEq, Nat.add_zero, Nat.zero_add, beq_self_eq_true, hd, h0, hx', hy', hb, hcc]
      exact ⟨_, _, _, _, _, _, _, _, _, _, _, _, _, _, _, _, _, _, _, _, _, _, _, _, _, rfl⟩

theorem equal_call (c1 c2 : Bool) (s1 s2 : Nat) (xs ys : List Int) (hs1 : xs = [] ∨ s1 = 1) (hs2 : ys = [] ∨ s2 = 1) (hlen : xs.length < 2 ^ 63) (ro : Nat) (H : Heap) (nx : Nat) :
    callT env 26 [.lit c1 s1 (xs.map (.int .u64)), .lit c2 s2 (ys.map (.int .u64))] ro H nx = some (.ret (.bool (decide (xs = ys))), .ups []) := by
  refine call_pure (H' := []) rfl rfl rfl (by simp [underL, AVal.under]) ?_ rfl ro H nx
  rw [run_unfold fn26 rfl]
  by_cases hl : xs.length = ys.length
  · have d1 : decide ((xs.length : Int) = (ys.length : Int)) = true := by simp only [decide_eq_true_eq]; omega
    obtain ⟨e, s, hx, hp⟩ := equal_loop (c1 := c1) (c2 := c2) xs ys hl hlen [] 0 xs.length 0 s1 s2 _ _ _ _ _ _ _ _ _ _ _ _ _ _ _ _ _ _ _ _ _ hs1 hs2 (by omega)
    simp only [List.drop_zero] at hp
    simp only [go_sem, Nat.reduceAdd, Nat.reduceSub, Nat.reduceMul, Nat.reduceDiv, Nat.reduceMod, Nat.reducePow, Nat.reduceLeDiff, Nat.reduceLT, Nat.reduceEqDiff, Nat.reduceBEq, Nat.reduceBNe, Int.reduceAdd, Int.reduceSub, Int.reduceMul, Int.reducePow, Int.reduceLE, Int.reduceLT, Int.reduceEq, Int.reduceToNat, Int.reduceNeg, reduceCtorEq, Nat.add_zero, Nat.zero_add, beq_self_eq_true, Try.f26, Int.ofNat_zero, Int.natCast_zero] at hx
    simp only [go_sem, Nat.reduceAdd, Nat.reduceSub, Nat.reduceMul, Nat.reduceDiv, Nat.reduceMod, Nat.reducePow, Nat.reduceLeDiff, Nat.reduceLT, Nat.reduceEqDiff, Nat.reduceBEq, Nat.reduceBNe, Int.reduceAdd, Int.reduceSub, Int.reduceMul, Int.reducePow, Int.reduceLE, Int.reduceLT, Int.reduceEq, Int.reduceToNat, Int.reduceNeg, reduceCtorEq, Nat.add_zero, Nat.zero_add, beq_self_eq_true, Try.f26, List.length_map, d1]
    rw [hx]
    by_cases hxy : xs = ys
    · rw [if_pos hxy] at hp
      obtain ⟨rfl, j0, j1, j2, j3, j4, j5, j6, j7, j8, j9, j10, j11, j12, j13, j14, j15, j16, j17, j18, j19, j20, j21, j22, j23, j24, j25, rfl⟩ := hp
      simp only [go_sem, Nat.reduceAdd, Nat.reduceSub, Nat.reduceMul, Nat.reduceDiv, Nat.reduceMod, Nat.reducePow, Nat.reduceLeDiff, Nat.reduceLT, Nat.reduceEqDiff, Nat.reduceBEq, Nat.reduceBNe, Int.reduceAdd, Int.reduceSub, Int.reduceMul, Int.reducePow, Int.reduceLE, Int.reduceLT, Int.reduceEq, Int.reduceToNat, Int.reduceNeg, reduceCtorEq, Nat.add_zero, Nat.zero_add, beq_self_eq_true, unwind, modeEx, resultsOf, one, hxy]
    · rw [if_neg hxy] at hp
      obtain ⟨rfl, j0, j1, j2, j3, j5, j6, j7, j8, j9, j10, j11, j12, j13, j14, j15, j16, j17, j18, j19, j20, j21, j22, j23, j24, j25, rfl⟩ := hp
      simp only [go_sem, Nat.reduceAdd, Nat.reduceSub, Nat.reduceMul, Nat.reduceDiv, Nat.reduceMod, Nat.reducePow, Nat.reduceLeDiff, Nat.reduceLT, Nat.reduceEqDiff, Nat.reduceBEq, Nat.reduceBNe, Int.reduceAdd, Int.reduceSub, Int.reduceMul, Int.reducePow, Int.reduceLE, Int.reduceLT, Int.reduceEq, Int.reduceToNat, Int.reduceNeg, reduceCtorEq, Nat.add_zero, Nat.zero_add, beq_self_eq_true, unwind, modeEx, resultsOf, one, hxy]
  · have d1 : decide ((xs.length : Int) = (ys.length : Int)) = false := by simp only [decide_eq_false_iff_not]; omega
    have hxy : xs ≠ ys := by rintro rfl; exact hl rfl
    simp only [go_sem, Nat.reduceAdd, Nat.reduceSub, Nat.reduceMul, Nat.reduceDiv, Nat.reduceMod, Nat.reducePow, Nat.reduceLeDiff, Nat.reduceLT, Nat.reduceEqDiff, Nat.reduceBEq, Nat.reduceBNe, Int.reduceAdd, Int.reduceSub, Int.reduceMul, Int.reducePow, Int.reduceLE, Int.reduceLT, Int.reduceEq, Int.reduceToNat, Int.reduceNeg, reduceCtorEq, Nat.add_zero, Nat.zero_add, beq_self_eq_true, Try.f26, List.length_map, d1, unwind, modeEx, resultsOf, one, hxy]

/-- what a path makes of a hash; the path from its end -/
def climbR (of : Int) : Nat → Nat → List Int → Int × Bool
  | many, _, [] => (of, decide (many = 1))
  | many, pos, h :: r => if many = 1 then (of, false) else
      if pos < splitS many then (nodeI (climbR of (splitS many) pos r).1 h, (climbR of (splitS many) pos r).2)
      else (nodeI h (climbR of (many - splitS many) (pos - splitS many) r).1, (climbR of (many - splitS many) (pos - splitS many) r).2)

def u64s (l : List Int) : Prop := ∀ x ∈ l, 0 ≤ x ∧ x ≤ 18446744073709551615

theorem climbR_range {of : Int} (ho : 0 ≤ of ∧ of ≤ 18446744073709551615) : ∀ (many pos : Nat) (r : List Int), 0 ≤ (climbR of many pos r).1 ∧ (climbR of many pos r).1 ≤ 18446744073709551615
  | many, pos, [] => ho
  | many, pos, h :: r => by
    unfold climbR
    split
    · exact ho
    · split
      · exact node_range _ _
      · exact node_range _ _

theorem sl35_to (cl : Bool) (l : List Int) (k : Nat) (hk : k ≤ l.length) (H : Heap) : sliceOp env H 35 (.lit cl 1 (l.map (.int .u64))) none (some (.int .i64 k)) none = some (.lit (cl && k == l.length) 1 ((l.take k).map (.int .u64))) := by
  rw [slice_to (te := ⟨.int .u64, 1, 8, .int .u64 (0)⟩) ti35 ti25 (by simpa using hk), List.length_map, List.map_take]
theorem sl35_to3 (cl : Bool) (l : List Int) (k : Nat) (hk : k ≤ l.length) (H : Heap) : sliceOp env H 35 (.lit cl 1 (l.map (.int .u64))) none (some (.int .i64 k)) (some (.int .i64 k)) = some (.lit true 1 ((l.take k).map (.int .u64))) := by
  rw [slice_to3 (te := ⟨.int .u64, 1, 8, .int .u64 (0)⟩) ti35 ti25 (by simpa using hk), List.map_take]

theorem rnode_call1 {a b : Int} (ha : 0 ≤ a ∧ a ≤ 18446744073709551615) (hb : 0 ≤ b ∧ b ≤ 18446744073709551615) (ro : Nat) (H : Heap) (nx : Nat) : callT env 23 [.int .u64 a, .int .u64 b] ro H nx = some (.ret (.int .u64 (nodeI a b)), .ups []) := by
  rw [rnode_call, node_eq ha.1 ha.2 hb.1 hb.2]

theorem wrap_sub {a b : Nat} (h : b ≤ a) (ha : a < 2 ^ 63) : IntKind.i64.wrap ((a : Int) - (b : Int)) = ((a - b : Nat) : Int) := by
  rw [i64_in _ (by omega)]; omega
theorem wrap_pred {a : Nat} (ha : a < 2 ^ 63) : IntKind.i64.wrap (((a + 1 : Nat) : Int) - 1) = (a : Int) := by
  rw [i64_in _ (by omega)]; omega

theorem node_call1 {a b : Int} (_ : 0 ≤ a ∧ a ≤ 18446744073709551615) (_ : 0 ≤ b ∧ b ≤ 18446744073709551615) (ro : Nat) (H : Heap) (nx : Nat) : callT env 22 [.int .u64 a, .int .u64 b] ro H nx = some (.ret (.int .u64 (nodeI a b)), .ups []) := node_call a b ro H nx

theorem climb_call (of : Int) (ho : 0 ≤ of ∧ of ≤ 18446744073709551615) : ∀ (r : List Int), u64s r → r.length < 2 ^ 63 → ∀ (many pos : Nat) (cl : Bool) (sz : Nat), 1 ≤ many → many ≤ 512 → pos < many → (r = [] ∨ sz = 1) → ∀ ro H nx,
    callT env 91 [.int .u64 of, .int .i64 many, .int .i64 pos, .lit cl sz (r.reverse.map (.int .u64))] ro H nx = some (.ret (.tuple [.int .u64 (climbR of many pos r).1, .bool (climbR of many pos r).2]), .ups []) := by
  intro r
  induction r with
  | nil =>
    intro _ _ many pos cl sz h1 h2 h3 _ ro H nx
    refine call_pure (H' := []) rfl rfl rfl rfl ?_ rfl ro H nx
    rw [run_unfold fn91 rfl]
    cases hd : decide ((many : Int) = 1) with
    | true =>
      have hm : many = 1 := by simp only [decide_eq_true_eq] at hd; omega
      simp only [go_sem, Nat.reduceAdd, Nat.reduceSub, Nat.reduceMul, Nat.reduceDiv, Nat.reduceMod, Nat.reducePow, Nat.reduceLeDiff, Nat.reduceLT, Nat.reduceEqDiff, Nat.reduceBEq, Nat.reduceBNe, Int.reduceAdd, Int.reduceSub, Int.reduceMul, Int.reducePow, Int.reduceLE, Int.reduceLT, Int.reduceEq, Int.reduceToNat, Int.reduceNeg, reduceCtorEq, Nat.add_zero, Nat.zero_add, beq_self_eq_true, Try.f91, hd, List.reverse_nil, unwind, modeEx, resultsOf, one, climbR, hm, Int.natCast_one, Int.natCast_zero, Int.ofNat_zero]
    | false =>
      have hm : ¬ many = 1 := by simp only [decide_eq_false_iff_not] at hd; omega
      simp only [go_sem, Nat.reduceAdd, Nat.reduceSub, Nat.reduceMul, Nat.reduceDiv, Nat.reduceMod, Nat.reducePow, Nat.reduceLeDiff, Nat.reduceLT, Nat.reduceEqDiff, Nat.reduceBEq, Nat.reduceBNe, Int.reduceAdd, Int.reduceSub, Int.reduceMul, Int.reducePow, Int.reduceLE, Int.reduceLT, Int.reduceEq, Int.reduceToNat, Int.reduceNeg, reduceCtorEq, Nat.add_zero, Nat.zero_add, beq_self_eq_true, Try.f91, hd, List.reverse_nil, unwind, modeEx, resultsOf, one, climbR, hm, Int.natCast_zero, Int.ofNat_zero]
  | cons h r ih =>
    intro hu hl many pos cl sz h1 h2 h3 hsz ro H nx
    obtain rfl : sz = 1 := by rcases hsz with h | h; · cases h
                              · exact h
    have hh := hu h (by simp)
    have hu' : u64s r := fun x hx => hu x (by simp [hx])
    have hl' : r.length < 2 ^ 63 := by simp only [List.length_cons] at hl; omega
    have hrl : r.length + 1 < 2 ^ 63 := by simpa using hl
    refine call_pure (H' := []) rfl rfl rfl (by simp [underL, AVal.under]) ?_ rfl ro H nx
    rw [run_unfold fn91 rfl]
    have d0 : decide (((r.length + 1 : Nat) : Int) = 0) = false := by simp only [decide_eq_false_iff_not]; omega
    by_cases hm : many = 1
    · have hd : decide ((many : Int) = 1) = true := by simp only [decide_eq_true_eq]; omega
      simp only [go_sem, Nat.reduceAdd, Nat.reduceSub, Nat.reduceMul, Nat.reduceDiv, Nat.reduceMod, Nat.reducePow, Nat.reduceLeDiff, Nat.reduceLT, Nat.reduceEqDiff, Nat.reduceBEq, Nat.reduceBNe, Int.reduceAdd, Int.reduceSub, Int.reduceMul, Int.reducePow, Int.reduceLE, Int.reduceLT, Int.reduceEq, Int.reduceToNat, Int.reduceNeg, reduceCtorEq, Nat.add_zero, Nat.zero_add, beq_self_eq_true, Try.f91, hd, d0, List.length_map, List.length_reverse, unwind, modeEx, resultsOf, one, climbR, hm, Int.natCast_one]
    · have hd : decide ((many : Int) = 1) = false := by simp only [decide_eq_false_iff_not]; omega
      have hs := splitS_lt (n := many) (by omega)
      have e0 : (0 : Int) ≤ (r.length : Int) := by omega
      have hg : ((r.reverse ++ [h]).map (AVal.int .u64))[((r.length : Nat) : Int).toNat]? = some (.int .u64 h) := get_map (by simp)
      have ht : (r.reverse ++ [h]).take r.length = r.reverse := by
        rw [show r.length = r.reverse.length from by simp]; exact List.take_left' rfl
      by_cases hp : pos < splitS many
      · have d2 : decide ((pos : Int) < (splitS many : Int)) = true := by simp only [decide_eq_true_eq]; omega
        have hrec := fun cl ro H nx => ih hu' hl' (splitS many) pos cl 1 (by omega) (by omega) hp (.inr rfl) ro H nx
        have hn := fun ro H nx => node_call1 (climbR_range ho (splitS many) pos r) hh ro H nx
        simp only [go_sem, Nat.reduceAdd, Nat.reduceSub, Nat.reduceMul, Nat.reduceDiv, Nat.reduceMod, Nat.reducePow, Nat.reduceLeDiff, Nat.reduceLT, Nat.reduceEqDiff, Nat.reduceBEq, Nat.reduceBNe, Int.reduceAdd, Int.reduceSub, Int.reduceMul, Int.reducePow, Int.reduceLE, Int.reduceLT, Int.reduceEq, Int.reduceToNat, Int.reduceNeg, reduceCtorEq, Nat.add_zero, Nat.zero_add, beq_self_eq_true, Try.f91, hd, d0, d2, List.reverse_cons, List.length_map, List.length_append, List.length_reverse, wrap_pred (show r.length < 2 ^ 63 by omega), split_call (n := many) (by omega) (by omega), sl35_to _ _ _ (show r.length ≤ (r.reverse ++ [h]).length by simp), ht, hrec, e0, hg, hn, unwind, modeEx, resultsOf, one, climbR, hm, hp]
      · have d2 : decide ((pos : Int) < (splitS many : Int)) = false := by simp only [decide_eq_false_iff_not]; omega
        have hrec := fun cl ro H nx => ih hu' hl' (many - splitS many) (pos - splitS many) cl 1 (by omega) (by omega) (by omega) (.inr rfl) ro H nx
        have hn := fun ro H nx => node_call1 hh (climbR_range ho (many - splitS many) (pos - splitS many) r) ro H nx
        simp only [go_sem, Nat.reduceAdd, Nat.reduceSub, Nat.reduceMul, Nat.reduceDiv, Nat.reduceMod, Nat.reducePow, Nat.reduceLeDiff, Nat.reduceLT, Nat.reduceEqDiff, Nat.reduceBEq, Nat.reduceBNe, Int.reduceAdd, Int.reduceSub, Int.reduceMul, Int.reducePow, Int.reduceLE, Int.reduceLT, Int.reduceEq, Int.reduceToNat, Int.reduceNeg, reduceCtorEq, Nat.add_zero, Nat.zero_add, beq_self_eq_true, Try.f91, hd, d0, d2, List.reverse_cons, List.length_map, List.length_append, List.length_reverse, wrap_pred (show r.length < 2 ^ 63 by omega), wrap_sub (show splitS many ≤ many by omega) (by omega), wrap_sub (show splitS many ≤ pos by omega) (by omega), split_call (n := many) (by omega) (by omega), sl35_to _ _ _ (show r.length ≤ (r.reverse ++ [h]).length by simp), ht, hrec, e0, hg, hn, unwind, modeEx, resultsOf, one, climbR, hm, hp]

theorem made_call (of : Int) (ho : 0 ≤ of ∧ of ≤ 18446744073709551615) : ∀ (r : List Int), u64s r → r.length < 2 ^ 63 → ∀ (many pos : Nat) (cl : Bool) (sz : Nat), 1 ≤ many → many ≤ 512 → pos < many → (r = [] ∨ sz = 1) → ∀ ro H nx,
    callT env 92 [.int .u64 of, .int .i64 many, .int .i64 pos, .lit cl sz (r.reverse.map (.int .u64))] ro H nx = some (.ret (.tuple [.int .u64 (climbR of many pos r).1, .bool (climbR of many pos r).2]), .ups []) := by
  intro r
  induction r with
  | nil =>
    intro _ _ many pos cl sz h1 h2 h3 _ ro H nx
    refine call_pure (H' := []) rfl rfl rfl rfl ?_ rfl ro H nx
    rw [run_unfold fn92 rfl]
    cases hd : decide ((many : Int) = 1) with
    | true =>
      have hm : many = 1 := by simp only [decide_eq_true_eq] at hd; omega
      simp only [go_sem, Nat.reduceAdd, Nat.reduceSub, Nat.reduceMul, Nat.reduceDiv, Nat.reduceMod, Nat.reducePow, Nat.reduceLeDiff, Nat.reduceLT, Nat.reduceEqDiff, Nat.reduceBEq, Nat.reduceBNe, Int.reduceAdd, Int.reduceSub, Int.reduceMul, Int.reducePow, Int.reduceLE, Int.reduceLT, Int.reduceEq, Int.reduceToNat, Int.reduceNeg, reduceCtorEq, Nat.add_zero, Nat.zero_add, beq_self_eq_true, Try.f92, hd, List.reverse_nil, unwind, modeEx, resultsOf, one, climbR, hm, Int.natCast_one, Int.natCast_zero, Int.ofNat_zero]
    | false =>
      have hm : ¬ many = 1 := by simp only [decide_eq_false_iff_not] at hd; omega
      simp only [go_sem, Nat.reduceAdd, Nat.reduceSub, Nat.reduceMul, Nat.reduceDiv, Nat.reduceMod, Nat.reducePow, Nat.reduceLeDiff, Nat.reduceLT, Nat.reduceEqDiff, Nat.reduceBEq, Nat.reduceBNe, Int.reduceAdd, Int.reduceSub, Int.reduceMul, Int.reducePow, Int.reduceLE, Int.reduceLT, Int.reduceEq, Int.reduceToNat, Int.reduceNeg, reduceCtorEq, Nat.add_zero, Nat.zero_add, beq_self_eq_true, Try.f92, hd, List.reverse_nil, unwind, modeEx, resultsOf, one, climbR, hm, Int.natCast_zero, Int.ofNat_zero]
  | cons h r ih =>
    intro hu hl many pos cl sz h1 h2 h3 hsz ro H nx
    obtain rfl : sz = 1 := by rcases hsz with h | h; · cases h
                              · exact h
    have hh := hu h (by simp)
    have hu' : u64s r := fun x hx => hu x (by simp [hx])
    have hl' : r.length < 2 ^ 63 := by simp only [List.length_cons] at hl; omega
    have hrl : r.length + 1 < 2 ^ 63 := by simpa using hl
    refine call_pure (H' := []) rfl rfl rfl (by simp [underL, AVal.under]) ?_ rfl ro H nx
    rw [run_unfold fn92 rfl]
    have d0 : decide (((r.length + 1 : Nat) : Int) = 0) = false := by simp only [decide_eq_false_iff_not]; omega
    by_cases hm : many = 1
    · have hd : decide ((many : Int) = 1) = true := by simp only [decide_eq_true_eq]; omega
      simp only [go_sem, Nat.reduceAdd, Nat.reduceSub, Nat.reduceMul, Nat.reduceDiv, Nat.reduceMod, Nat.reducePow, Nat.reduceLeDiff, Nat.reduceLT, Nat.reduceEqDiff, Nat.reduceBEq, Nat.reduceBNe, Int.reduceAdd, Int.reduceSub, Int.reduceMul, Int.reducePow, Int.reduceLE, Int.reduceLT, Int.reduceEq, Int.reduceToNat, Int.reduceNeg, reduceCtorEq, Nat.add_zero, Nat.zero_add, beq_self_eq_true, Try.f92, hd, d0, List.length_map, List.length_reverse, unwind, modeEx, resultsOf, one, climbR, hm, Int.natCast_one]
    · have hd : decide ((many : Int) = 1) = false := by simp only [decide_eq_false_iff_not]; omega
      have hs := splitS_lt (n := many) (by omega)
      have e0 : (0 : Int) ≤ (r.length : Int) := by omega
      have hg : ((r.reverse ++ [h]).map (AVal.int .u64))[((r.length : Nat) : Int).toNat]? = some (.int .u64 h) := get_map (by simp)
      have ht : (r.reverse ++ [h]).take r.length = r.reverse := by
        rw [show r.length = r.reverse.length from by simp]; exact List.take_left' rfl
      by_cases hp : pos < splitS many
      · have d2 : decide ((pos : Int) < (splitS many : Int)) = true := by simp only [decide_eq_true_eq]; omega
        have hrec := fun cl ro H nx => ih hu' hl' (splitS many) pos cl 1 (by omega) (by omega) hp (.inr rfl) ro H nx
        have hn := fun ro H nx => rnode_call1 (climbR_range ho (splitS many) pos r) hh ro H nx
        simp only [go_sem, Nat.reduceAdd, Nat.reduceSub, Nat.reduceMul, Nat.reduceDiv, Nat.reduceMod, Nat.reducePow, Nat.reduceLeDiff, Nat.reduceLT, Nat.reduceEqDiff, Nat.reduceBEq, Nat.reduceBNe, Int.reduceAdd, Int.reduceSub, Int.reduceMul, Int.reducePow, Int.reduceLE, Int.reduceLT, Int.reduceEq, Int.reduceToNat, Int.reduceNeg, reduceCtorEq, Nat.add_zero, Nat.zero_add, beq_self_eq_true, Try.f92, hd, d0, d2, List.reverse_cons, List.length_map, List.length_append, List.length_reverse, wrap_pred (show r.length < 2 ^ 63 by omega), rsplit_call (n := many) (by omega) (by omega), sl35_to3 _ _ _ (show r.length ≤ (r.reverse ++ [h]).length by simp), ht, hrec, e0, hg, hn, unwind, modeEx, resultsOf, one, climbR, hm, hp]
      · have d2 : decide ((pos : Int) < (splitS many : Int)) = false := by simp only [decide_eq_false_iff_not]; omega
        have hrec := fun cl ro H nx => ih hu' hl' (many - splitS many) (pos - splitS many) cl 1 (by omega) (by omega) (by omega) (.inr rfl) ro H nx
        have hn := fun ro H nx => rnode_call1 hh (climbR_range ho (many - splitS many) (pos - splitS many) r) ro H nx
        simp only [go_sem, Nat.reduceAdd, Nat.reduceSub, Nat.reduceMul, Nat.reduceDiv, Nat.reduceMod, Nat.reducePow, Nat.reduceLeDiff, Nat.reduceLT, Nat.reduceEqDiff, Nat.reduceBEq, Nat.reduceBNe, Int.reduceAdd, Int.reduceSub, Int.reduceMul, Int.reducePow, Int.reduceLE, Int.reduceLT, Int.reduceEq, Int.reduceToNat, Int.reduceNeg, reduceCtorEq, Nat.add_zero, Nat.zero_add, beq_self_eq_true, Try.f92, hd, d0, d2, List.reverse_cons, List.length_map, List.length_append, List.length_reverse, wrap_pred (show r.length < 2 ^ 63 by omega), wrap_sub (show splitS many ≤ many by omega) (by omega), wrap_sub (show splitS many ≤ pos by omega) (by omega), rsplit_call (n := many) (by omega) (by omega), sl35_to3 _ _ _ (show r.length ≤ (r.reverse ++ [h]).length by simp), ht, hrec, e0, hg, hn, unwind, modeEx, resultsOf, one, climbR, hm, hp]

/-- what CheckPath tells -/
def chkPathS (root many pos : Int) (e : Entry) (p : List Int) : Int :=
  if e.ok then (if decide (many < 1) || decide (512 < many) || decide (pos < 0) || decide (many ≤ pos) then 1 else
    if (climbR (leafI e) many.toNat pos.toNat p.reverse).2 && decide ((climbR (leafI e) many.toNat pos.toNat p.reverse).1 = root) then 0 else 94) else 90

theorem leaf_call1 (e : Entry) (hb : e.body.length ≤ 2 ^ 44) (ro : Nat) (H : Heap) (nx : Nat) : callT env 79 [e.enc] ro H nx = some (.ret (.int .u64 (leafI e)), .ups []) := leaf_call e hb ro H nx
theorem rleaf_call1 (e : Entry) (hb : e.body.length ≤ 2 ^ 44) (ro : Nat) (H : Heap) (nx : Nat) : callT env 80 [e.enc] ro H nx = some (.ret (.int .u64 (leafI e)), .ups []) := by
  rw [rleaf_call e hb, leaf_eq e (by omega)]

theorem CheckPath_call (root many pos : Int) (e : Entry) (cl : Bool) (sz : Nat) (p : List Int) (hp : u64s p) (hlen : p.length < 2 ^ 63) (hsz : p = [] ∨ sz = 1) (ro : Nat) (H : Heap) (nx : Nat) :
    callT env 27 [.int .u64 root, .int .i64 many, .int .i64 pos, e.enc, .lit cl sz (p.map (.int .u64))] ro H nx = some (.ret (.int .i64 (chkPathS root many pos e p)), .ups []) := by
  have : ∃ H', runT env 27 [.int .u64 root, .int .i64 many, .int .i64 pos, e.enc, .lit cl sz (p.map (.int .u64))] [] 0 = some (.ret (.int .i64 (chkPathS root many pos e p)), H') := by
    rw [run_unfold fn27 rfl]
    unfold chkPathS
    cases hok : e.ok with
    | false =>
      have he : erS e = 90 := by unfold erS; rw [hok]; rfl
      simp only [go_sem, Nat.reduceAdd, Nat.reduceSub, Nat.reduceMul, Nat.reduceDiv, Nat.reduceMod, Nat.reducePow, Nat.reduceLeDiff, Nat.reduceLT, Nat.reduceEqDiff, Nat.reduceBEq, Nat.reduceBNe, Int.reduceAdd, Int.reduceSub, Int.reduceMul, Int.reducePow, Int.reduceLE, Int.reduceLT, Int.reduceEq, Int.reduceToNat, Int.reduceNeg, reduceCtorEq, Nat.add_zero, Nat.zero_add, beq_self_eq_true, Try.f27, check_call, he, unwind, modeEx, resultsOf, one]
      exact ⟨_, rfl⟩
    | true =>
      have he : erS e = 0 := by unfold erS; rw [hok]; rfl
      have hb := ok_small hok
      cases h1 : decide (many < 1) with
      | true => simp only [go_sem, Nat.reduceAdd, Nat.reduceSub, Nat.reduceMul, Nat.reduceDiv, Nat.reduceMod, Nat.reducePow, Nat.reduceLeDiff, Nat.reduceLT, Nat.reduceEqDiff, Nat.reduceBEq, Nat.reduceBNe, Int.reduceAdd, Int.reduceSub, Int.reduceMul, Int.reducePow, Int.reduceLE, Int.reduceLT, Int.reduceEq, Int.reduceToNat, Int.reduceNeg, reduceCtorEq, Nat.add_zero, Nat.zero_add, beq_self_eq_true, Try.f27, check_call, he, h1, unwind, modeEx, resultsOf, one]; exact ⟨_, rfl⟩
      | false =>
        cases h2 : decide (512 < many) with
        | true => simp only [go_sem, Nat.reduceAdd, Nat.reduceSub, Nat.reduceMul, Nat.reduceDiv, Nat.reduceMod, Nat.reducePow, Nat.reduceLeDiff, Nat.reduceLT, Nat.reduceEqDiff, Nat.reduceBEq, Nat.reduceBNe, Int.reduceAdd, Int.reduceSub, Int.reduceMul, Int.reducePow, Int.reduceLE, Int.reduceLT, Int.reduceEq, Int.reduceToNat, Int.reduceNeg, reduceCtorEq, Nat.add_zero, Nat.zero_add, beq_self_eq_true, Try.f27, check_call, he, h1, h2, unwind, modeEx, resultsOf, one]; exact ⟨_, rfl⟩
        | false =>
          cases h3 : decide (pos < 0) with
          | true => simp only [go_sem, Nat.reduceAdd, Nat.reduceSub, Nat.reduceMul, Nat.reduceDiv, Nat.reduceMod, Nat.reducePow, Nat.reduceLeDiff, Nat.reduceLT, Nat.reduceEqDiff, Nat.reduceBEq, Nat.reduceBNe, Int.reduceAdd, Int.reduceSub, Int.reduceMul, Int.reducePow, Int.reduceLE, Int.reduceLT, Int.reduceEq, Int.reduceToNat, Int.reduceNeg, reduceCtorEq, Nat.add_zero, Nat.zero_add, beq_self_eq_true, Try.f27, check_call, he, h1, h2, h3, unwind, modeEx, resultsOf, one]; exact ⟨_, rfl⟩
          | false =>
            cases h4 : decide (many ≤ pos) with
            | true => simp only [go_sem, Nat.reduceAdd, Nat.reduceSub, Nat.reduceMul, Nat.reduceDiv, Nat.reduceMod, Nat.reducePow, Nat.reduceLeDiff, Nat.reduceLT, Nat.reduceEqDiff, Nat.reduceBEq, Nat.reduceBNe, Int.reduceAdd, Int.reduceSub, Int.reduceMul, Int.reducePow, Int.reduceLE, Int.reduceLT, Int.reduceEq, Int.reduceToNat, Int.reduceNeg, reduceCtorEq, Nat.add_zero, Nat.zero_add, beq_self_eq_true, Try.f27, check_call, he, h1, h2, h3, h4, unwind, modeEx, resultsOf, one]; exact ⟨_, rfl⟩
            | false =>
              simp only [decide_eq_false_iff_not] at h1 h2 h3 h4
              obtain ⟨m, rfl⟩ : ∃ m : Nat, many = m := ⟨many.toNat, by omega⟩
              obtain ⟨q, rfl⟩ : ∃ q : Nat, pos = q := ⟨pos.toNat, by omega⟩
              have hc := climb_call (leafI e) (leaf_range e) p.reverse (fun x hx => hp x (by simpa using hx)) (by simpa using hlen) m q cl sz (by omega) (by omega) (by omega) (by simpa using hsz)
              rw [List.reverse_reverse] at hc
              have d1 : decide ((m : Int) < 1) = false := by simpa using h1
              have d2 : decide (512 < (m : Int)) = false := by simpa using h2
              have d3 : decide ((q : Int) < 0) = false := by simpa using h3
              have d4 : decide ((m : Int) ≤ (q : Int)) = false := by simpa using h4
              simp only [Int.toNat_natCast]
              obtain ⟨x, ok, hq⟩ : ∃ x ok, climbR (leafI e) m q p.reverse = (x, ok) := ⟨_, _, rfl⟩
              simp only [hq] at hc ⊢
              have hlf := fun ro H nx => leaf_call1 e (show e.body.length ≤ 2 ^ 44 by omega) ro H nx
              cases ok with
              | false =>
                simp only [go_sem, Nat.reduceAdd, Nat.reduceSub, Nat.reduceMul, Nat.reduceDiv, Nat.reduceMod, Nat.reducePow, Nat.reduceLeDiff, Nat.reduceLT, Nat.reduceEqDiff, Nat.reduceBEq, Nat.reduceBNe, Int.reduceAdd, Int.reduceSub, Int.reduceMul, Int.reducePow, Int.reduceLE, Int.reduceLT, Int.reduceEq, Int.reduceToNat, Int.reduceNeg, reduceCtorEq, Nat.add_zero, Nat.zero_add, beq_self_eq_true, Try.f27, check_call, he, d1, d2, d3, d4, hlf, hc, Int.toNat_natCast, unwind, modeEx, resultsOf, one]
                exact ⟨_, rfl⟩
              | true =>
                cases h5 : decide (x = root) with
                | false => simp only [go_sem, Nat.reduceAdd, Nat.reduceSub, Nat.reduceMul, Nat.reduceDiv, Nat.reduceMod, Nat.reducePow, Nat.reduceLeDiff, Nat.reduceLT, Nat.reduceEqDiff, Nat.reduceBEq, Nat.reduceBNe, Int.reduceAdd, Int.reduceSub, Int.reduceMul, Int.reducePow, Int.reduceLE, Int.reduceLT, Int.reduceEq, Int.reduceToNat, Int.reduceNeg, reduceCtorEq, Nat.add_zero, Nat.zero_add, beq_self_eq_true, Try.f27, check_call, he, d1, d2, d3, d4, h5, hlf, hc, Int.toNat_natCast, unwind, modeEx, resultsOf, one]; exact ⟨_, rfl⟩
                | true => simp only [go_sem, Nat.reduceAdd, Nat.reduceSub, Nat.reduceMul, Nat.reduceDiv, Nat.reduceMod, Nat.reducePow, Nat.reduceLeDiff, Nat.reduceLT, Nat.reduceEqDiff, Nat.reduceBEq, Nat.reduceBNe, Int.reduceAdd, Int.reduceSub, Int.reduceMul, Int.reducePow, Int.reduceLE, Int.reduceLT, Int.reduceEq, Int.reduceToNat, Int.reduceNeg, reduceCtorEq, Nat.add_zero, Nat.zero_add, beq_self_eq_true, Try.f27, check_call, he, d1, d2, d3, d4, h5, hlf, hc, Int.toNat_natCast, unwind, modeEx, resultsOf, one]; exact ⟨_, rfl⟩
  obtain ⟨H', h⟩ := this
  exact call_pure rfl rfl rfl (by simp [underL, AVal.under, Entry.enc]) h rfl ro H nx

theorem rCheckPath_call (root many pos : Int) (e : Entry) (cl : Bool) (sz : Nat) (p : List Int) (hp : u64s p) (hlen : p.length < 2 ^ 63) (hsz : p = [] ∨ sz = 1) (ro : Nat) (H : Heap) (nx : Nat) :
    callT env 28 [.int .u64 root, .int .i64 many, .int .i64 pos, e.enc, .lit cl sz (p.map (.int .u64))] ro H nx = some (.ret (.int .i64 (chkPathS root many pos e p)), .ups []) := by
  have : ∃ H', runT env 28 [.int .u64 root, .int .i64 many, .int .i64 pos, e.enc, .lit cl sz (p.map (.int .u64))] [] 0 = some (.ret (.int .i64 (chkPathS root many pos e p)), H') := by
    rw [run_unfold fn28 rfl]
    unfold chkPathS
    cases hok : e.ok with
    | false =>
      have he : erS e = 90 := by unfold erS; rw [hok]; rfl
      simp only [go_sem, Nat.reduceAdd, Nat.reduceSub, Nat.reduceMul, Nat.reduceDiv, Nat.reduceMod, Nat.reducePow, Nat.reduceLeDiff, Nat.reduceLT, Nat.reduceEqDiff, Nat.reduceBEq, Nat.reduceBNe, Int.reduceAdd, Int.reduceSub, Int.reduceMul, Int.reducePow, Int.reduceLE, Int.reduceLT, Int.reduceEq, Int.reduceToNat, Int.reduceNeg, reduceCtorEq, Nat.add_zero, Nat.zero_add, beq_self_eq_true, Try.f28, rcheck_call, he, unwind, modeEx, resultsOf, one]
      exact ⟨_, rfl⟩
    | true =>
      have he : erS e = 0 := by unfold erS; rw [hok]; rfl
      have hb := ok_small hok
      cases h1 : decide (many < 1) with
      | true => simp only [go_sem, Nat.reduceAdd, Nat.reduceSub, Nat.reduceMul, Nat.reduceDiv, Nat.reduceMod, Nat.reducePow, Nat.reduceLeDiff, Nat.reduceLT, Nat.reduceEqDiff, Nat.reduceBEq, Nat.reduceBNe, Int.reduceAdd, Int.reduceSub, Int.reduceMul, Int.reducePow, Int.reduceLE, Int.reduceLT, Int.reduceEq, Int.reduceToNat, Int.reduceNeg, reduceCtorEq, Nat.add_zero, Nat.zero_add, beq_self_eq_true, Try.f28, rcheck_call, he, h1, unwind, modeEx, resultsOf, one]; exact ⟨_, rfl⟩
      | false =>
        cases h2 : decide (512 < many) with
        | true => simp only [go_sem, Nat.reduceAdd, Nat.reduceSub, Nat.reduceMul, Nat.reduceDiv, Nat.reduceMod, Nat.reducePow, Nat.reduceLeDiff, Nat.reduceLT, Nat.reduceEqDiff, Nat.reduceBEq, Nat.reduceBNe, Int.reduceAdd, Int.reduceSub, Int.reduceMul, Int.reducePow, Int.reduceLE, Int.reduceLT, Int.reduceEq, Int.reduceToNat, Int.reduceNeg, reduceCtorEq, Nat.add_zero, Nat.zero_add, beq_self_eq_true, Try.f28, rcheck_call, he, h1, h2, unwind, modeEx, resultsOf, one]; exact ⟨_, rfl⟩
        | false =>
          cases h3 : decide (pos < 0) with
          | true => simp only [go_sem, Nat.reduceAdd, Nat.reduceSub, Nat.reduceMul, Nat.reduceDiv, Nat.reduceMod, Nat.reducePow, Nat.reduceLeDiff, Nat.reduceLT, Nat.reduceEqDiff, Nat.reduceBEq, Nat.reduceBNe, Int.reduceAdd, Int.reduceSub, Int.reduceMul, Int.reducePow, Int.reduceLE, Int.reduceLT, Int.reduceEq, Int.reduceToNat, Int.reduceNeg, reduceCtorEq, Nat.add_zero, Nat.zero_add, beq_self_eq_true, Try.f28, rcheck_call, he, h1, h2, h3, unwind, modeEx, resultsOf, one]; exact ⟨_, rfl⟩
          | false =>
            cases h4 : decide (many ≤ pos) with
            | true => simp only [go_sem, Nat.reduceAdd, Nat.reduceSub, Nat.reduceMul, Nat.reduceDiv, Nat.reduceMod, Nat.reducePow, Nat.reduceLeDiff, Nat.reduceLT, Nat.reduceEqDiff, Nat.reduceBEq, Nat.reduceBNe, Int.reduceAdd, Int.reduceSub, Int.reduceMul, Int.reducePow, Int.reduceLE, Int.reduceLT, Int.reduceEq, Int.reduceToNat, Int.reduceNeg, reduceCtorEq, Nat.add_zero, Nat.zero_add, beq_self_eq_true, Try.f28, rcheck_call, he, h1, h2, h3, h4, unwind, modeEx, resultsOf, one]; exact ⟨_, rfl⟩
            | false =>
              simp only [decide_eq_false_iff_not] at h1 h2 h3 h4
              obtain ⟨m, rfl⟩ : ∃ m : Nat, many = m := ⟨many.toNat, by omega⟩
              obtain ⟨q, rfl⟩ : ∃ q : Nat, pos = q := ⟨pos.toNat, by omega⟩
              have hc := made_call (leafI e) (leaf_range e) p.reverse (fun x hx => hp x (by simpa using hx)) (by simpa using hlen) m q cl sz (by omega) (by omega) (by omega) (by simpa using hsz)
              rw [List.reverse_reverse] at hc
              have d1 : decide ((m : Int) < 1) = false := by simpa using h1
              have d2 : decide (512 < (m : Int)) = false := by simpa using h2
              have d3 : decide ((q : Int) < 0) = false := by simpa using h3
              have d4 : decide ((m : Int) ≤ (q : Int)) = false := by simpa using h4
              simp only [Int.toNat_natCast]
              obtain ⟨x, ok, hq⟩ : ∃ x ok, climbR (leafI e) m q p.reverse = (x, ok) := ⟨_, _, rfl⟩
              simp only [hq] at hc ⊢
              have hlf := fun ro H nx => rleaf_call1 e (show e.body.length ≤ 2 ^ 44 by omega) ro H nx
              cases ok with
              | false =>
                simp only [go_sem, Nat.reduceAdd, Nat.reduceSub, Nat.reduceMul, Nat.reduceDiv, Nat.reduceMod, Nat.reducePow, Nat.reduceLeDiff, Nat.reduceLT, Nat.reduceEqDiff, Nat.reduceBEq, Nat.reduceBNe, Int.reduceAdd, Int.reduceSub, Int.reduceMul, Int.reducePow, Int.reduceLE, Int.reduceLT, Int.reduceEq, Int.reduceToNat, Int.reduceNeg, reduceCtorEq, Nat.add_zero, Nat.zero_add, beq_self_eq_true, Try.f28, rcheck_call, he, d1, d2, d3, d4, hlf, hc, Int.toNat_natCast, unwind, modeEx, resultsOf, one]
                exact ⟨_, rfl⟩
              | true =>
                cases h5 : decide (x = root) with
                | false => simp only [go_sem, Nat.reduceAdd, Nat.reduceSub, Nat.reduceMul, Nat.reduceDiv, Nat.reduceMod, Nat.reducePow, Nat.reduceLeDiff, Nat.reduceLT, Nat.reduceEqDiff, Nat.reduceBEq, Nat.reduceBNe, Int.reduceAdd, Int.reduceSub, Int.reduceMul, Int.reducePow, Int.reduceLE, Int.reduceLT, Int.reduceEq, Int.reduceToNat, Int.reduceNeg, reduceCtorEq, Nat.add_zero, Nat.zero_add, beq_self_eq_true, Try.f28, rcheck_call, he, d1, d2, d3, d4, h5, hlf, hc, Int.toNat_natCast, unwind, modeEx, resultsOf, one]; exact ⟨_, rfl⟩
                | true => simp only [go_sem, Nat.reduceAdd, Nat.reduceSub, Nat.reduceMul, Nat.reduceDiv, Nat.reduceMod, Nat.reducePow, Nat.reduceLeDiff, Nat.reduceLT, Nat.reduceEqDiff, Nat.reduceBEq, Nat.reduceBNe, Int.reduceAdd, Int.reduceSub, Int.reduceMul, Int.reducePow, Int.reduceLE, Int.reduceLT, Int.reduceEq, Int.reduceToNat, Int.reduceNeg, reduceCtorEq, Nat.add_zero, Nat.zero_add, beq_self_eq_true, Try.f28, rcheck_call, he, d1, d2, d3, d4, h5, hlf, hc, Int.toNat_natCast, unwind, modeEx, resultsOf, one]; exact ⟨_, rfl⟩
  obtain ⟨H', h⟩ := this
  exact call_pure rfl rfl rfl (by simp [underL, AVal.under, Entry.enc]) h rfl ro H nx

end Go.Proofs.Ytamcncpgfhfheaa.Tidy

/-
  What the machine reads of arguments of the chapter: entries, lists of them, numbers.
-/
namespace Go.Proofs.Ytamcncpgfhfheaa.Tidy
open Go Go.IntWalk
set_option maxRecDepth 10000
set_option linter.unusedSimpArgs false

@[go_sem] theorem sane_call (ro : Nat) (H : Heap) (nx : Nat) : callT env 14 [] ro H nx = some (.ret (.bool true), .ups []) := by
  obtain ⟨H', h⟩ := sane_run
  exact call_pure rfl rfl rfl rfl h rfl ro H nx

/-- cells that hold an entry -/
theorem fit_entry {m : Nat} {cs : List AVal} (h : FitT env (m + 2) 23 cs) : ∃ e : Entry, cs = [.int .i64 e.office, .int .i64 e.no, .str e.body] ∧ e.body.length ≤ maxLen := by
  simp only [FitT, ti23, ti3, ti9, List.map_cons, List.map_nil, FitF] at h
  obtain ⟨_, _, rfl, ⟨o, rfl, _⟩, _, _, rfl, ⟨n, rfl, _⟩, _, _, rfl, ⟨b, rfl, hb⟩, rfl⟩ := h
  exact ⟨⟨o, n, b⟩, rfl, hb⟩

theorem pack_entry {cs : List AVal} {e : Entry} {n m : Nat} {z : AVal} {fs : List (Nat × Nat)} (h : cs = [.int .i64 e.office, .int .i64 e.no, .str e.body]) : pack ⟨.struct fs, n, m, z⟩ cs = e.enc := by subst h; rfl

theorem map_of {α : Type} {f : α → AVal} : ∀ {es : List AVal}, (∀ x ∈ es, ∃ a, x = f a) → ∃ l : List α, es = l.map f
  | [], _ => ⟨[], rfl⟩
  | x :: es, h => by
    obtain ⟨a, rfl⟩ := h x (by simp)
    obtain ⟨l, hl⟩ := map_of (f := f) (es := es) fun y hy => h y (List.mem_cons_of_mem _ hy)
    exact ⟨a :: l, by rw [hl]; rfl⟩

/-- a list of entries -/
theorem fit_entries {m : Nat} {cs : List AVal} (h : FitT env (m + 3) 24 cs) : ∃ (cl : Bool) (l : List Entry), cs = [.lit cl 3 (l.map Entry.enc)] ∧ l.length ≤ maxLen := by
  unfold FitT at h
  simp only [ti24] at h
  obtain ⟨te, ht, cl, es, rfl, hl, h⟩ := h
  rw [ti23] at ht
  cases ht
  obtain ⟨l, rfl⟩ := map_of (f := Entry.enc) fun x hx => by
    obtain ⟨cs', h1, h2⟩ := h x hx
    obtain ⟨e, he, _⟩ := fit_entry h2
    exact ⟨e, by rw [h1]; exact pack_entry he⟩
  exact ⟨cl, l, rfl, by simpa using hl⟩

theorem fit_int {m t n by_ : Nat} {z : AVal} {k : IntKind} (ht : env.ti t = some ⟨.int k, n, by_, z⟩) {cs : List AVal} (h : FitT env (m + 1) t cs) : ∃ x : Int, cs = [.int k x] ∧ (Lit.int k x).wf = true := by
  unfold FitT at h
  simpa only [ht] using h

theorem wf_u64 {x : Int} (h : (Lit.int .u64 x).wf = true) : 0 ≤ x ∧ x ≤ 18446744073709551615 := by
  simpa [Lit.wf, IntKind.min, IntKind.max, IntKind.signed, IntKind.bits] using h

theorem wf_i64 {x : Int} (h : (Lit.int .i64 x).wf = true) : -9223372036854775808 ≤ x ∧ x ≤ 9223372036854775807 := by
  simpa [Lit.wf, IntKind.min, IntKind.max, IntKind.signed, IntKind.bits] using h

theorem fit_u64s {m : Nat} {cs : List AVal} (h : FitT env (m + 2) 35 cs) : ∃ (cl : Bool) (l : List Int), cs = [.lit cl 1 (l.map (.int .u64))] ∧ l.length ≤ maxLen ∧ u64s l := by
  unfold FitT at h
  simp only [ti35] at h
  obtain ⟨te, ht, cl, es, rfl, hl, h⟩ := h
  rw [ti25] at ht
  cases ht
  have h' : ∀ x ∈ es, ∃ a, x = .int .u64 a ∧ 0 ≤ a ∧ a ≤ 18446744073709551615 := by
    intro x hx
    obtain ⟨cs', h1, h2⟩ := h x hx
    obtain ⟨y, rfl, hy⟩ := fit_int ti25 h2
    exact ⟨y, by rw [h1]; rfl, wf_u64 hy⟩
  obtain ⟨l, rfl⟩ := map_of (f := AVal.int .u64) fun x hx => by
    obtain ⟨a, ha, _⟩ := h' x hx
    exact ⟨a, ha⟩
  refine ⟨cl, l, rfl, by simpa using hl, fun x hx => ?_⟩
  obtain ⟨a, ha, h3⟩ := h' (.int .u64 x) (List.mem_map_of_mem hx)
  cases ha
  exact h3

end Go.Proofs.Ytamcncpgfhfheaa.Tidy

/-
  Strings that are hashed: lists joined.
-/
namespace Go.Proofs.Ytamcncpgfhfheaa.Tidy
open Go Go.IntWalk
set_option maxRecDepth 10000
set_option linter.unusedSimpArgs false

theorem sgrow_run (n : Nat) (h0 : 0 < n) (h1 : n < 2 ^ 40) : runT env 103 [.lit true 0 [], .int .i64 n] [] 0 = some (.ret (.ref 0 0 0 0 false), [.cells 0 1 true (List.replicate n (.str []))]) := by
  have d1 : decide ((n : Int) < 0) = false := by simp only [decide_eq_false_iff_not]; omega
  have d2 : decide ((0 : Int) < (n : Int)) = true := by simp only [decide_eq_true_eq]; omega
  have w1 : IntKind.i64.wrap (((0 : Nat) : Int) - ((0 : Nat) : Int)) = 0 := by decide
  have w2 : IntKind.i64.wrap ((n : Int) - 0) = n := by rw [i64_in _ (by omega)]; omega
  have s1 : sliceOp env [] 64 (.lit true 0 []) none (some (.int .i64 ((0 : Nat) : Int))) none = some (.lit true 0 []) := rfl
  have a1 : appendZeros env 0 64 (.lit true 0 []) (.int .i64 n) = some (.ref 0 0 0 n false, [(0, .cells 0 1 true (List.replicate n (.str [])))]) := by
    have h2 : (0 : Int) < (n : Int) := by omega
    have h3 : n * (16 + 1) ≤ maxBytes := by unfold maxBytes; omega
    simp only [appendZeros, ti64, ti9, h2, Int.toNat_natCast, h3, cells_str, tup_str, AVal.under, List.length_cons, List.length_nil, decide_true, Bool.and_true, Bool.not_false, Nat.zero_add]
    rfl
  have s2 : sliceOp env [.cells 0 1 true (List.replicate n (.str []))] 64 (.ref 0 0 0 n false) none (some (.int .i64 ((0 : Nat) : Int))) none = some (.ref 0 0 0 0 false) := by
    simp [sliceOp, ti64, ti9, boundOf]
  rw [run_unfold fn103 rfl]
  simp only [go_sem, Nat.reduceAdd, Nat.reduceSub, Nat.reduceMul, Nat.reduceDiv, Nat.reduceMod, Nat.reducePow, Nat.reduceLeDiff, Nat.reduceLT, Nat.reduceEqDiff, Nat.reduceBEq, Nat.reduceBNe, Int.reduceAdd, Int.reduceSub, Int.reduceMul, Int.reducePow, Int.reduceLE, Int.reduceLT, Int.reduceEq, Int.reduceToNat, Int.reduceNeg, reduceCtorEq, Nat.add_zero, Nat.zero_add, beq_self_eq_true, hint103, Try.f103, d1, d2, w1, w2, s1, a1, s2, unwind, modeEx, resultsOf, one]

theorem sgrow_call (n : Nat) (h0 : 0 < n) (h1 : n < 2 ^ 40) (ro : Nat) (H : Heap) (nx : Nat) : callT env 103 [.lit true 0 [], .int .i64 n] ro H nx = some (.ret (.ref nx 0 0 0 false), .ups [(nx, .cells 0 1 true (List.replicate n (.str [])))]) := by
  rw [call_of_run rfl rfl (sgrow_run n h0 h1)]
  rfl

/-- a list of strings, by value, however it is laid -/
structure Strs where
  cl : Bool
  sz : Nat
  l : List (List UInt8)

def Strs.enc (p : Strs) : AVal := .lit p.cl p.sz (p.l.map .str)
@[go_sem] theorem cellsOf_strs (p : Strs) : p.enc.cellsOf = [p.enc] := rfl
@[go_sem] theorem refs_strs (p : Strs) : p.enc.refs = [] := rfl
@[go_sem] theorem isTuple_strs (p : Strs) : p.enc.isTuple = false := rfl
def Strs.ok (p : Strs) : Prop := p.l = [] ∨ p.sz = 1
def total (L : List Strs) : Nat := (L.map fun p => p.l.length).sum
def joined (L : List Strs) : List (List UInt8) := L.flatMap (·.l)

theorem joined_length (L : List Strs) : (joined L).length = total L := by
  induction L with
  | nil => rfl
  | cons p L ih => simp only [joined, total, List.flatMap_cons, List.length_append, List.map_cons, List.sum_cons] at ih ⊢; omega

theorem total_cons (p : Strs) (L : List Strs) : total (p :: L) = p.l.length + total L := rfl

theorem lenOf_enc (p : Strs) : lenOf p.enc = some p.l.length := by simp [Strs.enc, lenOf]

theorem sum_loop (L : List Strs) (hL : L.length < 2 ^ 40) (H : Heap) (ro : Nat) (c : Bool) (v0 v2 : AVal) : ∀ (n i s : Nat) (j1 j4 j5 j6 j7 j8 j12 j13 j14 j15 j16 j17 j18 j19 j20 j21 j22 j23 j24 j25 j26 j27 j28 j29 j30 j31 j32 j33 j34 j35 : AVal), i + n = L.length → s + total (L.drop i) < 2 ^ 40 →
    Goes (execT env (Try.f52.at [1, 1, 0, 1, 0]) ⟨[v0, j1, v2, .int .i64 s, j4, j5, j6, j7, j8, .lit c 1 (L.map Strs.enc), .int .i64 L.length, .int .i64 i, j12, j13, j14, j15, j16, j17, j18, j19, j20, j21, j22, j23, j24, j25, j26, j27, j28, j29, j30, j31, j32, j33, j34, j35], H, [], ro, []⟩) fun e s' => e = .exit 0 ∧
      ∃ j1 j4 j5 j6 j7 j8 j9 j10 j11 j12 j13 j14 j15 j16 j17 j18 j19 j20 j21 j22 j23 j24 j25 j26 j27 j28 j29 j30 j31 j32 j33 j34 j35, s' = ⟨[v0, j1, v2, .int .i64 ((s + total (L.drop i) : Nat) : Int), j4, j5, j6, j7, j8, j9, j10, j11, j12, j13, j14, j15, j16, j17, j18, j19, j20, j21, j22, j23, j24, j25, j26, j27, j28, j29, j30, j31, j32, j33, j34, j35], H, [], ro, []⟩ := by
  intro n
  induction n with
  | zero =>
    intro i s j1 j4 j5 j6 j7 j8 j12 j13 j14 j15 j16 j17 j18 j19 j20 j21 j22 j23 j24 j25 j26 j27 j28 j29 j30 j31 j32 j33 j34 j35 hi _
    have hd : decide ((i : Int) < (L.length : Int)) = false := by simp; omega
    have hdr : L.drop i = [] := List.drop_eq_nil_of_le (by omega)
    have h0 : total [] = 0 := rfl
    simp only [go_sem, Nat.reduceAdd, Nat.reduceSub, Nat.reduceMul, Nat.reduceDiv, Nat.reduceMod, Nat.reducePow, Nat.reduceLeDiff, Nat.reduceLT, Nat.reduceEqDiff, Nat.reduceBEq, Nat.reduceBNe, Int.reduceAdd, Int.reduceSub, Int.reduceMul, Int.reducePow, Int.reduceLE, Int.reduceLT, Int.reduceEq, Int.reduceToNat, Int.reduceNeg, reduceCtorEq, Nat.add_zero, Nat.zero_add, beq_self_eq_true, Try.f52]
    rw [execT_loop]
    simp only [go_sem, Nat.reduceAdd, Nat.reduceSub, Nat.reduceMul, Nat.reduceDiv, Nat.reduceMod, Nat.reducePow, Nat.reduceLeDiff, Nat.reduceLT, Nat.reduceEqDiff, Nat.reduceBEq, Nat.reduceBNe, Int.reduceAdd, Int.reduceSub, Int.reduceMul, Int.reducePow, Int.reduceLE, Int.reduceLT, Int.reduceEq, Int.reduceToNat, Int.reduceNeg, reduceCtorEq, Nat.add_zero, Nat.zero_add, beq_self_eq_true, hd, hdr, h0]
    exact ⟨_, _, _, _, _, _, _, _, _, _, _, _, _, _, _, _, _, _, _, _, _, _, _, _, _, _, _, _, _, _, _, _, _, rfl⟩
  | succ n ih =>
    intro i s j1 j4 j5 j6 j7 j8 j12 j13 j14 j15 j16 j17 j18 j19 j20 j21 j22 j23 j24 j25 j26 j27 j28 j29 j30 j31 j32 j33 j34 j35 hi hs
    have hd : decide ((i : Int) < (L.length : Int)) = true := by simp; omega
    have h0 : (0 : Int) ≤ (i : Int) := by omega
    obtain ⟨p, hp, hdr⟩ := get_drop (show i < L.length by omega)
    rw [hdr, total_cons] at hs
    have hp' : (L.map Strs.enc)[(i : Int).toNat]? = some p.enc := get_map hp
    have hw : IntKind.i64.wrap ((s : Int) + (p.l.length : Int)) = ((s + p.l.length : Nat) : Int) := by rw [i64_in _ (by omega)]; omega
    have hn : decide (((s + p.l.length : Nat) : Int) < 0) = false := by simp only [decide_eq_false_iff_not]; omega
    have htt : s + (p.l.length + total (L.drop (i + 1))) = s + p.l.length + total (L.drop (i + 1)) := by omega
    have ih' := ih (i + 1) (s + p.l.length)
    simp only [go_sem, Nat.reduceAdd, Nat.reduceSub, Nat.reduceMul, Nat.reduceDiv, Nat.reduceMod, Nat.reducePow, Nat.reduceLeDiff, Nat.reduceLT, Nat.reduceEqDiff, Nat.reduceBEq, Nat.reduceBNe, Int.reduceAdd, Int.reduceSub, Int.reduceMul, Int.reducePow, Int.reduceLE, Int.reduceLT, Int.reduceEq, Int.reduceToNat, Int.reduceNeg, reduceCtorEq, Nat.add_zero, Nat.zero_add, beq_self_eq_true, Try.f52] at ih' ⊢
    rw [execT_loop, hdr, total_cons, htt]
    simp only [go_sem, Nat.reduceAdd, Nat.reduceSub, Nat.reduceMul, Nat.reduceDiv, Nat.reduceMod, Nat.reducePow, Nat.reduceLeDiff, Nat.reduceLT, Nat.reduceEqDiff, Nat.reduceBEq, Nat.reduceBNe, Int.reduceAdd, Int.reduceSub, Int.reduceMul, Int.reducePow, Int.reduceLE, Int.reduceLT, Int.reduceEq, Int.reduceToNat, Int.reduceNeg, reduceCtorEq, Nat.add_zero, Nat.zero_add, beq_self_eq_true, hd, h0, hp', hw, hn, Strs.enc, List.length_map, wrap_succ (show i < 2 ^ 63 - 1 by omega)]
    exact ih' _ _ _ _ _ _ _ _ _ _ _ _ _ _ _ _ _ _ _ _ _ _ _ _ _ _ _ _ _ _ (by omega) (by omega)

theorem elems_enc (p : Strs) (H : Heap) : elems H p.enc = some (p.sz, p.l.map .str) := rfl

theorem join_loop (L : List Strs) (hok : ∀ p ∈ L, p.ok) (hL : L.length < 2 ^ 40) (ht : total L < 2 ^ 40) (c : Bool) : ∀ (n i : Nat) (done : List (List UInt8)) (j0 j1 j2 j3 j4 j5 j7 j8 j9 j10 j11 j12 j13 j14 j15 j16 j17 j18 j19 j20 j21 j22 j23 j24 j28 j29 j30 j31 j32 j33 j34 j35 : AVal), i + n = L.length → done.length + total (L.drop i) = total L →
    Goes (execT env (Try.f52.at [1, 1, 1, 1, 0, 1, 0]) ⟨[j0, j1, j2, j3, j4, j5, .ref 0 0 0 done.length false, j7, j8, j9, j10, j11, j12, j13, j14, j15, j16, j17, j18, j19, j20, j21, j22, j23, j24, .lit c 1 (L.map Strs.enc), .int .i64 L.length, .int .i64 i, j28, j29, j30, j31, j32, j33, j34, j35], [.cells 0 1 true (done.map .str ++ List.replicate (total (L.drop i)) (.str []))], [], 0, []⟩) fun e s' => e = .exit 2 ∧
      ∃ j0 j1 j2 j3 j4 j5 j7 j8 j9 j10 j11 j12 j13 j14 j15 j16 j17 j18 j19 j20 j21 j22 j23 j24 j25 j26 j27 j28 j29 j30 j31 j32 j33 j34 j35, s' = ⟨[j0, j1, j2, j3, j4, j5, .ref 0 0 0 (total L) false, j7, j8, j9, j10, j11, j12, j13, j14, j15, j16, j17, j18, j19, j20, j21, j22, j23, j24, j25, j26, j27, j28, j29, j30, j31, j32, j33, j34, j35], [.cells 0 1 true ((done ++ joined (L.drop i)).map .str)], [], 0, []⟩ := by
  intro n
  induction n with
  | zero =>
    intro i done j0 j1 j2 j3 j4 j5 j7 j8 j9 j10 j11 j12 j13 j14 j15 j16 j17 j18 j19 j20 j21 j22 j23 j24 j28 j29 j30 j31 j32 j33 j34 j35 hi hs
    have hd : decide ((i : Int) < (L.length : Int)) = false := by simp; omega
    have hdr : L.drop i = [] := List.drop_eq_nil_of_le (by omega)
    have h0 : total [] = 0 := rfl
    have h1 : joined [] = [] := rfl
    rw [hdr, h0] at hs
    have h2 : done.length = total L := by omega
    simp only [go_sem, Nat.reduceAdd, Nat.reduceSub, Nat.reduceMul, Nat.reduceDiv, Nat.reduceMod, Nat.reducePow, Nat.reduceLeDiff, Nat.reduceLT, Nat.reduceEqDiff, Nat.reduceBEq, Nat.reduceBNe, Int.reduceAdd, Int.reduceSub, Int.reduceMul, Int.reducePow, Int.reduceLE, Int.reduceLT, Int.reduceEq, Int.reduceToNat, Int.reduceNeg, reduceCtorEq, Nat.add_zero, Nat.zero_add, beq_self_eq_true, Try.f52]
    rw [execT_loop]
    simp only [go_sem, Nat.reduceAdd, Nat.reduceSub, Nat.reduceMul, Nat.reduceDiv, Nat.reduceMod, Nat.reducePow, Nat.reduceLeDiff, Nat.reduceLT, Nat.reduceEqDiff, Nat.reduceBEq, Nat.reduceBNe, Int.reduceAdd, Int.reduceSub, Int.reduceMul, Int.reducePow, Int.reduceLE, Int.reduceLT, Int.reduceEq, Int.reduceToNat, Int.reduceNeg, reduceCtorEq, Nat.add_zero, Nat.zero_add, beq_self_eq_true, hd, hdr, h0, h1, h2]
    exact ⟨_, _, _, _, _, _, _, _, _, _, _, _, _, _, _, _, _, _, _, _, _, _, _, _, _, _, _, _, _, _, _, _, _, _, _, rfl⟩
  | succ n ih =>
    intro i done j0 j1 j2 j3 j4 j5 j7 j8 j9 j10 j11 j12 j13 j14 j15 j16 j17 j18 j19 j20 j21 j22 j23 j24 j28 j29 j30 j31 j32 j33 j34 j35 hi hs
    have hd : decide ((i : Int) < (L.length : Int)) = true := by simp; omega
    have h0 : (0 : Int) ≤ (i : Int) := by omega
    obtain ⟨p, hp, hdr⟩ := get_drop (show i < L.length by omega)
    have hpm : p ∈ L := List.mem_of_getElem? hp
    rw [hdr, total_cons] at hs
    have hp' : (L.map Strs.enc)[(i : Int).toNat]? = some p.enc := get_map hp
    have hmx : (done.length + p.l.length) * (16 + 1) ≤ maxBytes := by unfold maxBytes; omega
    have hpk' : p.l.map AVal.str = [] ∨ p.sz = 1 := by
      rcases hok p hpm with h | h
      · exact .inl (by simp [h])
      · exact .inr h
    have ha := append_in (E := env) (ro := 0) (nx := 1) (id := 0) (g := 0) (fl := true) (H := [.cells 0 1 true (done.map .str ++ List.replicate (p.l.length + total (L.drop (i + 1))) (.str []))]) (x := p.enc) (len := done.length) ti64 ti9 (elems_enc p _) ⟨by decide, rfl, rfl⟩ hpk' rfl (by simp) (by omega) (by simpa using hmx) (fun _ => by simp [noRef, AVal.under])
    have hpl := putList_append (done.map .str) (p.l.map .str) (List.replicate (p.l.length + total (L.drop (i + 1))) (.str [])) (by simp)
    simp only [List.length_map] at hpl ha
    rw [hpl] at ha
    have hrep : (List.replicate (p.l.length + total (L.drop (i + 1))) (AVal.str [])).drop p.l.length = List.replicate (total (L.drop (i + 1))) (.str []) := by
      rw [List.drop_replicate]; congr 1; omega
    rw [hrep, ← List.append_assoc, ← List.map_append] at ha
    have ih' := ih (i + 1) (done ++ p.l)
    have hj : joined (p :: L.drop (i + 1)) = p.l ++ joined (L.drop (i + 1)) := rfl
    simp only [go_sem, Nat.reduceAdd, Nat.reduceSub, Nat.reduceMul, Nat.reduceDiv, Nat.reduceMod, Nat.reducePow, Nat.reduceLeDiff, Nat.reduceLT, Nat.reduceEqDiff, Nat.reduceBEq, Nat.reduceBNe, Int.reduceAdd, Int.reduceSub, Int.reduceMul, Int.reducePow, Int.reduceLE, Int.reduceLT, Int.reduceEq, Int.reduceToNat, Int.reduceNeg, reduceCtorEq, Nat.add_zero, Nat.zero_add, beq_self_eq_true, Try.f52, List.length_append] at ih' ⊢
    rw [execT_loop, hdr, total_cons, hj, ← List.append_assoc]
    simp only [go_sem, Nat.reduceAdd, Nat.reduceSub, Nat.reduceMul, Nat.reduceDiv, Nat.reduceMod, Nat.reducePow, Nat.reduceLeDiff, Nat.reduceLT, Nat.reduceEqDiff, Nat.reduceBEq, Nat.reduceBNe, Int.reduceAdd, Int.reduceSub, Int.reduceMul, Int.reducePow, Int.reduceLE, Int.reduceLT, Int.reduceEq, Int.reduceToNat, Int.reduceNeg, reduceCtorEq, Nat.add_zero, Nat.zero_add, beq_self_eq_true, hd, h0, hp', ha, wrap_succ (show i < 2 ^ 63 - 1 by omega)]
    exact ih' _ _ _ _ _ _ _ _ _ _ _ _ _ _ _ _ _ _ _ _ _ _ _ _ _ _ _ _ _ _ _ _ (by omega) (by omega)

theorem concat_run (c : Bool) (L : List Strs) (hok : ∀ p ∈ L, p.ok) (hL : L.length < 2 ^ 40) (h0 : 0 < total L) (ht : total L < 2 ^ 40) : runT env 52 [.lit c 1 (L.map Strs.enc)] [] 0 = some (.ret (.ref 0 0 0 (joined L).length false), [.cells 0 1 true ((joined L).map .str)]) := by
  obtain ⟨e, s, hx, rfl, j1, j4, j5, j6, j7, j8, j9, j10, j11, j12, j13, j14, j15, j16, j17, j18, j19, j20, j21, j22, j23, j24, j25, j26, j27, j28, j29, j30, j31, j32, j33, j34, j35, rfl⟩ := sum_loop L hL [] 0 c (.lit c 1 (L.map Strs.enc)) (.lit true 0 []) L.length 0 0 _ _ _ _ _ _ _ _ _ _ _ _ _ _ _ _ _ _ _ _ _ _ _ _ _ _ _ _ _ _ (by omega) (by simpa using ht)
  obtain ⟨e, s, hy, rfl, k0, k1, k2, k3, k4, k5, k7, k8, k9, k10, k11, k12, k13, k14, k15, k16, k17, k18, k19, k20, k21, k22, k23, k24, k25, k26, k27, k28, k29, k30, k31, k32, k33, k34, k35, rfl⟩ := join_loop L hok hL ht c L.length 0 [] _ _ _ _ _ _ _ _ _ _ _ _ _ _ _ _ _ _ _ _ _ _ _ _ _ _ _ _ _ _ _ _ (by omega) (by simp)
  simp only [go_sem, Nat.reduceAdd, Nat.reduceSub, Nat.reduceMul, Nat.reduceDiv, Nat.reduceMod, Nat.reducePow, Nat.reduceLeDiff, Nat.reduceLT, Nat.reduceEqDiff, Nat.reduceBEq, Nat.reduceBNe, Int.reduceAdd, Int.reduceSub, Int.reduceMul, Int.reducePow, Int.reduceLE, Int.reduceLT, Int.reduceEq, Int.reduceToNat, Int.reduceNeg, reduceCtorEq, Nat.add_zero, Nat.zero_add, beq_self_eq_true, Try.f52, Int.ofNat_zero, Int.natCast_zero] at hx hy
  rw [run_unfold fn52 rfl]
  simp only [go_sem, Nat.reduceAdd, Nat.reduceSub, Nat.reduceMul, Nat.reduceDiv, Nat.reduceMod, Nat.reducePow, Nat.reduceLeDiff, Nat.reduceLT, Nat.reduceEqDiff, Nat.reduceBEq, Nat.reduceBNe, Int.reduceAdd, Int.reduceSub, Int.reduceMul, Int.reducePow, Int.reduceLE, Int.reduceLT, Int.reduceEq, Int.reduceToNat, Int.reduceNeg, reduceCtorEq, Nat.add_zero, Nat.zero_add, beq_self_eq_true, Try.f52, List.length_map]
  rw [hx]
  simp only [go_sem, Nat.reduceAdd, Nat.reduceSub, Nat.reduceMul, Nat.reduceDiv, Nat.reduceMod, Nat.reducePow, Nat.reduceLeDiff, Nat.reduceLT, Nat.reduceEqDiff, Nat.reduceBEq, Nat.reduceBNe, Int.reduceAdd, Int.reduceSub, Int.reduceMul, Int.reducePow, Int.reduceLE, Int.reduceLT, Int.reduceEq, Int.reduceToNat, Int.reduceNeg, reduceCtorEq, Nat.add_zero, Nat.zero_add, beq_self_eq_true, sgrow_call (total L) h0 ht, List.length_map]
  rw [hy]
  simp only [go_sem, Nat.reduceAdd, Nat.reduceSub, Nat.reduceMul, Nat.reduceDiv, Nat.reduceMod, Nat.reducePow, Nat.reduceLeDiff, Nat.reduceLT, Nat.reduceEqDiff, Nat.reduceBEq, Nat.reduceBNe, Int.reduceAdd, Int.reduceSub, Int.reduceMul, Int.reducePow, Int.reduceLE, Int.reduceLT, Int.reduceEq, Int.reduceToNat, Int.reduceNeg, reduceCtorEq, Nat.add_zero, Nat.zero_add, beq_self_eq_true, unwind, modeEx, resultsOf, one, joined_length]

theorem joined_ne {L : List Strs} (h0 : 0 < total L) : (joined L).map AVal.str ≠ [] := by
  intro h
  have := joined_length L
  rw [List.map_eq_nil_iff] at h
  rw [h] at this
  simp at this; omega

theorem concat_call (L : List Strs) (hok : ∀ p ∈ L, p.ok) (hL : L.length < 2 ^ 40) (h0 : 0 < total L) (ht : total L < 2 ^ 40) : ∃ cl, ∀ ro H nx, callT env 52 [.lit true 1 (L.map Strs.enc)] ro H nx = some (.ret (.lit cl 1 ((joined L).map .str)), .ups []) := by
  obtain ⟨cl, s, h1, h2⟩ := call_litA rfl rfl rfl rfl rfl (concat_run true L hok hL h0 ht) (.inr ⟨0, by rw [List.length_map], rfl, joined_ne h0⟩)
  obtain rfl : s = 1 := h1.resolve_left (joined_ne h0)
  exact ⟨cl, h2⟩
end Go.Proofs.Ytamcncpgfhfheaa.Tidy
