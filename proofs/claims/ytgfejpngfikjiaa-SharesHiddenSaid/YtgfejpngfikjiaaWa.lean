/-
  What the functions that SharesHidden reaches compute; the law, run.
-/
import Derived.Test.YtgfejpngfikjiaaCb
import Derived.Test.YtgfejpngfikjiaaCd
import Derived.Test.YtgfejpngfikjiaaCe
import Derived.Test.YtgfejpngfikjiaaCf
set_option linter.all false
namespace Go.Proofs.Ytgfejpngfikjiaa.Tidy
open Go

abbrev RowD := Nat × List AVal

section
variable {A B : Heap} {g sz : Nat} {rs : List RowD}
end

theorem trunc_keep {m : Nat} {T : List AVal} {H : Heap} {df : List (Nat × List AVal)} {ro : Nat} {V : List Nat} {i g sz : Nat} {es : List AVal} {p g' o n : Nat} {cl : Bool} (hi : i < m) (hb : H[i]? = some (.cells g sz false es)) (hr : AVal.ref p g' o n cl ∈ es) (hp : m ≤ p) : trunc m ⟨T, H, df, ro, V⟩ = ⟨T, H, df, ro, V⟩ := by
  unfold trunc
  by_cases h1 : H.length ≤ m
  · simp only [h1, if_true]
  · have h2 : (H.take m).all (underB m) = false := by
      cases h : (H.take m).all (underB m) with
      | false => rfl
      | true =>
        have h3 : (H.take m)[i]? = some (.cells g sz false es) := by rw [List.getElem?_take, if_pos hi, hb]
        have h4 := List.all_eq_true.1 h _ (List.mem_of_getElem? h3)
        simp only [underB, Bool.false_or] at h4
        have h5 := underL_mem h4 _ hr
        simp only [AVal.under, decide_eq_true_eq] at h5
        omega
    simp only [h1, if_false, h2, Bool.false_and, Bool.false_eq_true]

theorem set_snoc {X : Heap} {nx : Nat} (hX : X.length = nx) (b b' : Blk) : (X ++ [b]).set nx b' = X ++ [b'] := by
  subst hX
  rw [List.set_append_right _ _ (by omega), Nat.sub_self]; rfl
theorem get_snoc {X : Heap} {nx : Nat} (hX : X.length = nx) (b : Blk) : (X ++ [b])[nx]? = some b := by
  subst hX; simp
theorem len_snoc {X : Heap} {nx : Nat} (hX : X.length = nx) (b : Blk) : (X ++ [b]).length = nx + 1 := by simp [hX]
end Go.Proofs.Ytgfejpngfikjiaa.Tidy

namespace Go.Proofs.Ytgfejpngfikjiaa.Tidy
open Go Go.IntWalk
set_option maxRecDepth 10000
set_option linter.unusedSimpArgs false
set_option maxHeartbeats 4000000

def rowA (t : Tab) (i : Nat) : List AVal := (t.cells.getD i []).map spV
set_option maxRecDepth 10000
set_option maxHeartbeats 2000000

theorem reach_some {H : Heap} : ∀ (ids seen : List Nat) (n : Nat), (∀ id ∈ ids, ∃ g sz es, H[id]? = some (.cells g sz true es)) → ids.length ≤ n → ∃ l, reach H n ids seen = some l
  | [], seen, n, _, _ => by cases n <;> exact ⟨_, rfl⟩
  | id :: ids, seen, n, hf, hl => by
    obtain ⟨n, rfl⟩ : ∃ m, n = m + 1 := ⟨n - 1, by simp at hl; omega⟩
    obtain ⟨g, sz, es, hH⟩ := hf id (by simp)
    have ih := fun seen => reach_some (H := H) ids seen n (fun x hx => hf x (by simp [hx])) (by simp at hl; omega)
    simp only [reach, hH, if_true]
    split
    · exact ih _
    · exact ih _

theorem call_lent {f : Nat} {args qs : List AVal} {lent : List Nat} {v w : AVal} {H H' : Heap} (hw : (env.hint f).whole = false) (hka : (env.hint f).keepAll = false) (hk : (env.hint f).keep = []) (hro : (env.hint f).ro = false)
    (hl : lend H (env.hint f).lits args 0 = some (qs, lent)) (hq : underL 0 qs = true) (hr : runT env f qs [] 0 = some (.ret v, H')) (hb : handBack H' 0 [] 4 v = some w) (hn : noRef w = true) (nx : Nat) :
    ∃ us, callT env f args 0 H nx = some (.ret w, .ups us) ∧ (w.noLit = true → us = []) := by
  unfold callT
  rw [callF_small hw, hl]
  have h0 : (lent.all fun id => decide (0 ≤ id)) = true := List.all_eq_true.2 fun _ _ => by simp
  have h1 : (lent.all fun id => !([] : List Nat).contains id) = true := List.all_eq_true.2 fun _ _ => by simp
  simp only [refs_noRef.2 qs hq, reach, getAll, h1, hro, List.all_nil, Bool.not_true, Bool.or_false, Bool.and_false, Bool.false_eq_true, if_false, List.map_nil, List.length_nil, (ren_noRef (idx [])).2 qs hq]
  rw [hr]
  simp only [Option.bind_some, callBack, keepOf, hka, hk, Bool.false_eq_true, if_false, List.filter_nil, uniq, getAll, List.length_nil, hb, h0, if_true]
  rw [(ren_noRef _).1 w hn]
  cases hnl : w.noLit with
  | true =>
    refine ⟨[], ?_, fun _ => rfl⟩
    simp [callUpd, hro, numbered]
  | false =>
    simp only [Bool.false_and, Bool.or_false]
    split
    · exact ⟨_, rfl, fun h => by cases h⟩
    · exact ⟨_, rfl, fun h => by cases h⟩

structure TbAt (H : Heap) (a b q ga gb g : Nat) (ps : Nat → Nat) (t : Tab) : Prop where
  rows : H[a]? = some (.cells ga 2 true (t.rows.map spV))
  cols : H[b]? = some (.cells gb 2 true (t.cols.map spV))
  acc : H[q]? = some (.cells g 1 false (vecA t.R fun i => .ref (ps i) 0 0 t.C false))
  row : ∀ i, i < t.R → H[ps i]? = some (.cells 0 2 true (rowA t i))
  ab : a ≠ b
  aq : a ≠ q
  bq : b ≠ q
  pa : ∀ i, i < t.R → ps i ≠ a ∧ ps i ≠ b ∧ ps i ≠ q
  pp : ∀ i j, i < t.R → j < t.R → ps i = ps j → i = j

def memT (t : Tab) (a b q ga gb g : Nat) : AVal := .agg [.ref a ga 0 t.R false, .ref b gb 0 t.C false, .ref q g 0 t.R false]

def canon (t : Tab) : TabV := ⟨⟨false, 2, t.rows⟩, ⟨false, 2, t.cols⟩, false, 1, t.cells.map fun l => ⟨false, 2, l⟩⟩
theorem canon_tab (t : Tab) : (canon t).tab = t := by
  unfold canon TabV.tab
  simp [Function.comp_def]

theorem canon_wf {t : Tab} (hR : t.R ≤ 8) (hC : t.C ≤ 8) (hl : t.cells.length = t.R) (hw : ∀ l ∈ t.cells, l.length = t.C) : (canon t).Wf where
  rows := .inr rfl
  cols := .inr rfl
  cells := .inr rfl
  each s hs := by obtain ⟨l, _, rfl⟩ := List.mem_map.1 hs; exact .inr rfl
  lr := by show t.R < _; omega
  lc := by show t.C < _; omega
  ll := by simp only [canon, List.length_map]; omega
  le s hs := by
    obtain ⟨l, hl, rfl⟩ := List.mem_map.1 hs
    have := hw l hl
    show l.length < _; omega

theorem rowA_length {t : Tab} (hl : t.cells.length = t.R) (hw : ∀ l ∈ t.cells, l.length = t.C) {i : Nat} (hi : i < t.R) : (rowA t i).length = t.C := by
  unfold rowA
  rw [List.length_map]
  exact hw _ (getD_mem (by omega) _)

section
variable {H : Heap} {a b q ga gb g : Nat} {ps : Nat → Nat} {t : Tab}

theorem TbAt.mono (h : TbAt H a b q ga gb g ps t) {H' : Heap} (e : ∀ i, i = a ∨ i = b ∨ i = q ∨ (∃ j, j < t.R ∧ i = ps j) → H'[i]? = H[i]?) : TbAt H' a b q ga gb g ps t where
  rows := by rw [e a (.inl rfl)]; exact h.rows
  cols := by rw [e b (.inr (.inl rfl))]; exact h.cols
  acc := by rw [e q (.inr (.inr (.inl rfl)))]; exact h.acc
  row i hi := by rw [e _ (.inr (.inr (.inr ⟨i, hi, rfl⟩)))]; exact h.row i hi
  ab := h.ab
  aq := h.aq
  bq := h.bq
  pa := h.pa
  pp := h.pp

theorem TbAt.toLit (h : TbAt H a b q ga gb g ps t) (hl : t.cells.length = t.R) (hw : ∀ l ∈ t.cells, l.length = t.C) (ok : Nat → Bool) (ha : ok a = true) (hb : ok b = true) (hq : ok q = true) (hp : ∀ i, i < t.R → ok (ps i) = true) (n : Nat) : toLit ok H (n + 3) (memT t a b q ga gb g) = some (canon t).v := by
  have t1 : (t.rows.map spV).take t.R = t.rows.map spV := List.take_of_length_le (by simp)
  have t2 : (t.cols.map spV).take t.C = t.cols.map spV := List.take_of_length_le (by simp)
  have t3 : (vecA t.R fun i => AVal.ref (ps i) 0 0 t.C false).take t.R = vecA t.R fun i => AVal.ref (ps i) 0 0 t.C false := List.take_of_length_le (by rw [vecA_length]; exact Nat.le_refl _)
  have hm : mapO (Tidy.toLit ok H (n + 1)) (vecA t.R fun i => AVal.ref (ps i) 0 0 t.C false) = some (vecA t.R fun i => AVal.lit false 2 (rowA t i)) := by
    have : ∀ (m : Nat), m ≤ t.R → mapO (Tidy.toLit ok H (n + 1)) ((List.range m).map fun i => AVal.ref (ps i) 0 0 t.C false) = some ((List.range m).map fun i => AVal.lit false 2 (rowA t i)) := by
      intro m hm
      have gen : ∀ l : List Nat, (∀ i ∈ l, i < t.R) → mapO (Tidy.toLit ok H (n + 1)) (l.map fun i => AVal.ref (ps i) 0 0 t.C false) = some (l.map fun i => AVal.lit false 2 (rowA t i)) := by
        intro l
        induction l with
        | nil => intro _; rfl
        | cons i l ih =>
          intro hl'
          have hi := hl' i (by simp)
          have hr := h.row i hi
          have hrl := rowA_length hl hw hi
          have htk : (rowA t i).take t.C = rowA t i := List.take_of_length_le (by omega)
          simp only [List.map_cons, mapO, ih fun j hj => hl' j (by simp [hj])]
          simp [Tidy.toLit, noRef, AVal.under, hr, hp i hi, hrl, htk]
      exact gen _ fun i hi => by rw [List.mem_range] at hi; omega
    exact this t.R (Nat.le_refl _)
  have ec : (canon t).v = .agg [.lit false 2 (t.rows.map spV), .lit false 2 (t.cols.map spV), .lit false 1 (vecA t.R fun i => AVal.lit false 2 (rowA t i))] := by
    show AVal.agg [_, _, .lit false 1 ((t.cells.map fun l => (⟨false, 2, l⟩ : SlV)).map SlV.v)] = _
    have e : (t.cells.map fun l => (⟨false, 2, l⟩ : SlV)).map SlV.v = vecA t.R fun i => AVal.lit false 2 (rowA t i) := ?_
    · rw [e]; rfl
    unfold vecA
    rw [List.map_map]
    apply List.ext_getElem
    · simp [hl]
    · intro i h1 h2
      have hi : i < t.cells.length := by simpa using h1
      simp [rowA, SlV.v, hi]
  have ea : Tidy.toLit ok H (n + 2) (.ref a ga 0 t.R false) = some (.lit false 2 (t.rows.map spV)) := by
    simp [Tidy.toLit, noRef, AVal.under, h.rows, ha, t1]
  have eb : Tidy.toLit ok H (n + 2) (.ref b gb 0 t.C false) = some (.lit false 2 (t.cols.map spV)) := by
    simp [Tidy.toLit, noRef, AVal.under, h.cols, hb, t2]
  have eq : Tidy.toLit ok H (n + 2) (.ref q g 0 t.R false) = some (.lit false 1 (vecA t.R fun i => AVal.lit false 2 (rowA t i))) := by
    unfold Tidy.toLit
    simp only [noRef, AVal.under, Nat.not_lt_zero, decide_false, Bool.false_eq_true, if_false, h.acc, hq, decide_true, Nat.zero_add, vecA_length, Nat.le_refl, Bool.and_true, if_true, List.drop_zero, t3, hm]
    rfl
  rw [ec]
  unfold Tidy.toLit
  simp only [memT, noRef, AVal.under, underL, Nat.not_lt_zero, decide_false, Bool.false_and, Bool.false_eq_true, if_false, mapO, ea, eb, eq]
  rfl

theorem TbAt.lend (h : TbAt H a b q ga gb g ps t) (hR : t.R ≤ 8) (hl : t.cells.length = t.R) (hw : ∀ l ∈ t.cells, l.length = t.C) {lits : List Nat} (h0 : lits.contains 0 = true) {args : List AVal} (ha : underL 0 args = true) : ∃ ids, lend H lits (memT t a b q ga gb g :: args) 0 = some ((canon t).v :: args, ids) := by
  have hlit := h.toLit hl hw (fun _ => true) rfl rfl rfl (fun _ _ => rfl) 5
  have hre : ∃ l, reach H fuel0 (memT t a b q ga gb g).refs [] = some l := by
    have hrefs : (memT t a b q ga gb g).refs = [a, b, q] := rfl
    rw [hrefs]
    have hab : b ≠ a := Ne.symm h.ab
    have haq : q ≠ a := Ne.symm h.aq
    have hbq : q ≠ b := Ne.symm h.bq
    have hrl : refsL (vecA t.R fun i => AVal.ref (ps i) 0 0 t.C false) = vecA t.R ps := by
      unfold vecA
      induction (List.range t.R) with
      | nil => rfl
      | cons i l ih => simp [refsL, AVal.refs, ih]
    obtain ⟨l, hl⟩ := reach_some (H := H) (vecA t.R ps) [a, b, q] 61 (fun id hid => by
      unfold vecA at hid
      obtain ⟨i, hi, rfl⟩ := List.mem_map.1 hid
      exact ⟨_, _, _, h.row i (List.mem_range.1 hi)⟩) (by rw [vecA_length]; omega)
    refine ⟨l, ?_⟩
    unfold fuel0
    simp [reach, h.rows, h.cols, h.acc, hab, haq, hbq, hrl, hl]
  obtain ⟨l, hre⟩ := hre
  have hnr : noRef (memT t a b q ga gb g) = false := rfl
  refine ⟨l ++ [], ?_⟩
  unfold Tidy.lend
  rw [lend_noRef H lits args 1 ha]
  simp only [h0, hnr, Bool.not_false, Bool.and_self, if_true, hlit, hre]
end

set_option maxRecDepth 10000
set_option maxHeartbeats 2000000

set_option maxRecDepth 10000
set_option maxHeartbeats 2000000

set_option maxRecDepth 10000
set_option maxHeartbeats 2000000

set_option maxRecDepth 10000
set_option maxHeartbeats 4000000

set_option maxRecDepth 10000
set_option maxHeartbeats 4000000

def accN (l : List AVal) : Blk := if l = [] then .cells 0 0 false [] else .cells l.length 2 true l
theorem accN_full {l : List AVal} (h : l ≠ []) : accN l = .cells l.length 2 true l := if_neg h
theorem append_span {H : Heap} {id n : Nat} {es : List AVal} {x : Spn} (hH : H[id]? = some (accN es)) (hn : es.length = n) (hb : n < 2 ^ 30) (nx : Nat) {ro : Nat} (hro : ro ≤ id) :
    appendOp env ro nx 22 (.ref id n 0 n false) (.lit true 2 [spV x]) H = some (.ref id (n + 1) 0 (n + 1) false, [(id, accN (es ++ [spV x]))]) := by
  subst hn
  have hfl : flatTy env 8 39 = true := rfl
  have hne : es ++ [spV x] ≠ [] := by simp
  have hln : (es ++ [spV x]).length = es.length + 1 := by simp
  by_cases h : es = []
  · subst h
    have hH' : H[id]? = some (.cells 0 0 false []) := hH
    have hnr : noRef (spV x) = true := rfl
    have hm : 17 ≤ maxBytes := by decide
    simp [appendOp, ti22, ti39, elems, hH', hfl, hro, newBlk, accN, AVal.cellsOf, AVal.isTuple, hnr, hm]
  · have hgr := append_ref (E := env) (ro := ro) (nx := nx) (H := H) (id := id) (g := es.length) (len := es.length) (x := .lit true 2 [spV x]) (nsz := 2) (new := [spV x]) (fl := true) (bs := es) ti22 ti39 rfl ⟨by decide, rfl, rfl⟩ rfl (by simp)
      (by rw [hH, accN, if_neg h]) rfl (List.length_pos_iff.2 h) hro (by show (es.length + 1) * 17 ≤ 2 ^ 45; omega) (fun _ => rfl)
    rw [hgr, accN, if_neg hne, hln]
    rfl

set_option maxRecDepth 10000
set_option maxHeartbeats 2000000

set_option maxRecDepth 10000
set_option maxHeartbeats 2000000

set_option maxRecDepth 10000
set_option maxHeartbeats 2000000

set_option maxRecDepth 10000
set_option maxHeartbeats 2000000

set_option maxRecDepth 10000
set_option maxHeartbeats 2000000

set_option maxRecDepth 10000
set_option maxHeartbeats 2000000

end Go.Proofs.Ytgfejpngfikjiaa.Tidy

