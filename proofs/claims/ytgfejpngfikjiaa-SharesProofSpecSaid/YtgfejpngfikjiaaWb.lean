/-
  What the functions that SharesProofSpec reaches compute; the law, run.
-/
import Derived.Test.YtgfejpngfikjiaaWa
import Derived.Test.YtgfejpngfikjiaaCe
import Derived.Test.YtgfejpngfikjiaaCf
set_option linter.all false
namespace Go.Proofs.Ytgfejpngfikjiaa.Tidy
open Go Go.IntWalk
set_option maxRecDepth 10000
set_option linter.unusedSimpArgs false
set_option maxHeartbeats 4000000

theorem TbAt.shift {H' : Heap} {a b q ga gb g : Nat} {ps : Nat → Nat} {t : Tab} (h : TbAt H' a b q ga gb g ps t) (H0 : Heap) :
    TbAt (H0 ++ H'.map (renB (nxF H0.length H'.length))) (H0.length + a) (H0.length + b) (H0.length + q) ga gb g (fun i => H0.length + ps i) t := by
  obtain ⟨l1, l2, l3, l4⟩ := h.lt
  have hg : ∀ i, (H0 ++ H'.map (renB (nxF H0.length H'.length)))[H0.length + i]? = (H'[i]?).map (renB (nxF H0.length H'.length)) := fun i => by
    rw [List.getElem?_append_right (by omega), Nat.add_sub_cancel_left, List.getElem?_map]
  have hr : renL (nxF H0.length H'.length) (vecA t.R fun i => AVal.ref (ps i) 0 0 t.C false) = vecA t.R fun i => AVal.ref (H0.length + ps i) 0 0 t.C false := by
    have gen : ∀ l : List Nat, (∀ i ∈ l, i < t.R) → renL (nxF H0.length H'.length) (l.map fun i => AVal.ref (ps i) 0 0 t.C false) = l.map fun i => AVal.ref (H0.length + ps i) 0 0 t.C false := by
      intro l
      induction l with
      | nil => intro _; rfl
      | cons i l ih =>
        intro hl
        have hi := l4 i (hl i (by simp))
        simp only [List.map_cons, renL, AVal.ren, ih fun j hj => hl j (by simp [hj])]
        unfold nxF
        rw [if_pos hi]
    exact gen _ fun i hi => by rw [List.mem_range] at hi; omega
  refine ⟨?_, ?_, ?_, fun i hi => ?_, by have := h.ab; omega, by have := h.aq; omega, by have := h.bq; omega, fun i hi => ?_, fun i j hi hj e => h.pp i j hi hj (by omega)⟩
  · rw [hg, h.rows]; rfl
  · rw [hg, h.cols]; rfl
  · rw [hg, h.acc]
    simp only [Option.map_some, renB, Bool.false_eq_true, if_false, hr]
  · rw [hg, h.row i hi]; rfl
  · obtain ⟨p1, p2, p3⟩ := h.pa i hi
    omega

theorem reach_old {H : Heap} : ∀ (ids seen : List Nat) (n : Nat) (l : List Nat), (∀ id ∈ ids, ∃ g sz es, H[id]? = some (.cells g sz true es)) → reach H n ids seen = some l → ∀ x ∈ l, x ∈ seen ∨ x ∈ ids
  | [], seen, n, l, _, h => by
    cases n <;> (cases h; exact fun x hx => .inl hx)
  | id :: ids, seen, 0, l, _, h => by cases h
  | id :: ids, seen, n + 1, l, hf, h => by
    obtain ⟨g, sz, es, hH⟩ := hf id (by simp)
    have ih := fun seen h => reach_old (H := H) ids seen n l (fun x hx => hf x (by simp [hx])) h
    simp only [reach, hH, if_true] at h
    split at h
    · exact fun x hx => (ih _ h x hx).imp (fun h => h) fun h => by simp [h]
    · intro x hx
      rcases ih _ h x hx with h | h
      · rw [List.mem_append] at h
        rcases h with h | h
        · exact .inl h
        · exact .inr (by simp at h; simp [h])
      · exact .inr (by simp [h])

theorem TbAt.lend' {H : Heap} {a b q ga gb g : Nat} {ps : Nat → Nat} {t : Tab} (h : TbAt H a b q ga gb g ps t) (hR : t.R ≤ 8) (hl : t.cells.length = t.R) (hw : ∀ l ∈ t.cells, l.length = t.C) {lits : List Nat} (h0 : lits.contains 0 = true) {args : List AVal} (ha : underL 0 args = true) :
    ∃ ids, Tidy.lend H lits (memT t a b q ga gb g :: args) 0 = some ((canon t).v :: args, ids) ∧ ∀ x ∈ ids, x = a ∨ x = b ∨ x = q ∨ ∃ i, i < t.R ∧ x = ps i := by
  have hlit := h.toLit hl hw (fun _ => true) rfl rfl rfl (fun _ _ => rfl) 5
  have hre : ∃ l, reach H fuel0 (memT t a b q ga gb g).refs [] = some l ∧ ∀ x ∈ l, x = a ∨ x = b ∨ x = q ∨ ∃ i, i < t.R ∧ x = ps i := by
    have hrefs : (memT t a b q ga gb g).refs = [a, b, q] := rfl
    rw [hrefs]
    have hab : b ≠ a := Ne.symm h.ab
    have haq : q ≠ a := Ne.symm h.aq
    have hbq : q ≠ b := Ne.symm h.bq
    have hrl : refsL (vecA t.R fun i => AVal.ref (ps i) 0 0 t.C false) = vecA t.R ps := by
      unfold vecA
      induction (List.range t.R) with
      | nil => rfl
      | cons i l ih => simp [refsL, AVal.refs, ih]
    have hflat : ∀ id ∈ vecA t.R ps, ∃ g sz es, H[id]? = some (.cells g sz true es) := fun id hid => by
      unfold vecA at hid
      obtain ⟨i, hi, rfl⟩ := List.mem_map.1 hid
      exact ⟨_, _, _, h.row i (List.mem_range.1 hi)⟩
    obtain ⟨l, hl⟩ := reach_some (H := H) (vecA t.R ps) [a, b, q] 61 hflat (by rw [vecA_length]; omega)
    have hs := reach_old _ _ _ _ hflat hl
    refine ⟨l, ?_, fun x hx => ?_⟩
    · unfold fuel0
      simp [reach, h.rows, h.cols, h.acc, hab, haq, hbq, hrl, hl]
    · rcases hs x hx with h | h
      · simp at h
        rcases h with h | h | h
        · exact .inl h
        · exact .inr (.inl h)
        · exact .inr (.inr (.inl h))
      · unfold vecA at h
        obtain ⟨i, hi, rfl⟩ := List.mem_map.1 h
        exact .inr (.inr (.inr ⟨i, List.mem_range.1 hi, rfl⟩))
  obtain ⟨l, hre, hs⟩ := hre
  have hnr : noRef (memT t a b q ga gb g) = false := rfl
  refine ⟨l ++ [], ?_, fun x hx => hs x (by simpa using hx)⟩
  unfold Tidy.lend
  rw [lend_noRef H lits args 1 ha]
  simp only [h0, hnr, Bool.not_false, Bool.and_self, if_true, hlit, hre]

theorem call_lent' {f : Nat} {args qs : List AVal} {lent : List Nat} {v w : AVal} {H H' : Heap} (hw : (env.hint f).whole = false) (hka : (env.hint f).keepAll = false) (hk : (env.hint f).keep = []) (hro : (env.hint f).ro = false)
    (hl : lend H (env.hint f).lits args 0 = some (qs, lent)) (hq : underL 0 qs = true) (hr : runT env f qs [] 0 = some (.ret v, H')) (hb : handBack H' 0 [] 4 v = some w) (hn : noRef w = true) (nx : Nat) :
    ∃ us, callT env f args 0 H nx = some (.ret w, .ups us) ∧ (us = [] ∨ us = lent.map (·, .dead)) := by
  unfold callT
  rw [callF_small hw, hl]
  have h0 : (lent.all fun id => decide (0 ≤ id)) = true := List.all_eq_true.2 fun _ _ => by simp
  have h1 : (lent.all fun id => !([] : List Nat).contains id) = true := List.all_eq_true.2 fun _ _ => by simp
  simp only [refs_noRef.2 qs hq, reach, getAll, h1, hro, List.all_nil, Bool.not_true, Bool.or_false, Bool.and_false, Bool.false_eq_true, if_false, List.map_nil, List.length_nil, (ren_noRef (idx [])).2 qs hq]
  rw [hr]
  simp only [Option.bind_some, callBack, keepOf, hka, hk, Bool.false_eq_true, if_false, List.filter_nil, uniq, getAll, List.length_nil, hb, h0, if_true]
  rw [(ren_noRef _).1 w hn]
  split
  · exact ⟨_, rfl, .inl (by simp [callUpd, hro, numbered])⟩
  · exact ⟨_, rfl, .inr (by simp [callUpd, hro, numbered])⟩

theorem putU_dead : ∀ (ids : List Nat) (H0 X : Heap), (∀ x ∈ ids, H0.length ≤ x ∧ x < H0.length + X.length) → ∃ X', X'.length = X.length ∧ putU (H0 ++ X) (ids.map (·, .dead)) = H0 ++ X'
  | [], H0, X, _ => ⟨X, rfl, rfl⟩
  | id :: ids, H0, X, h => by
    obtain ⟨h1, h2⟩ := h id (by simp)
    obtain ⟨X', e1, e2⟩ := putU_dead ids H0 (X.set (id - H0.length) .dead) fun x hx => by rw [List.length_set]; exact h x (by simp [hx])
    refine ⟨X', by rw [e1, List.length_set], ?_⟩
    rw [← e2]
    simp only [List.map_cons, putU]
    rw [if_pos (by rw [List.length_append]; exact h2), List.set_append_right _ _ h1]

theorem putU_lent {ids : List Nat} {us : Ups} (hus : us = [] ∨ us = ids.map (·, .dead)) (H0 X : Heap) (h : ∀ x ∈ ids, H0.length ≤ x ∧ x < H0.length + X.length) : ∃ X', X'.length = X.length ∧ putU (H0 ++ X) us = H0 ++ X' := by
  rcases hus with rfl | rfl
  · exact ⟨X, rfl, rfl⟩
  · exact putU_dead ids H0 X h

theorem plain_call (x : Spn) (up : Bool) (n : Int) (ro : Nat) (H : Heap) (nx : Nat) : callT env 115 [spV x, .bool up, .int .i64 n] ro H nx = some (.ret (.bool (plainB x up n)), .ups []) := by
  have : ∃ H', runT env 115 [spV x, .bool up, .int .i64 n] [] 0 = some (.ret (.bool (plainB x up n)), H') := by
    rw [run_unfold fn115 rfl]
    unfold plainB
    cases up with
    | true =>
      cases h : decide (x.hi ≤ n) <;> simp only [go_sem, simprocAttr, Try.f115, h, unwind, modeEx, resultsOf, one, if_true] <;> exact ⟨_, rfl⟩
    | false =>
      cases h : decide (n ≤ x.lo) <;> simp only [go_sem, simprocAttr, Try.f115, h, unwind, modeEx, resultsOf, one, Bool.false_eq_true, if_false] <;> exact ⟨_, rfl⟩
  obtain ⟨H', h⟩ := this
  exact call_pure rfl rfl rfl rfl h rfl ro H nx

theorem question_run {T : TabV} (hT : T.Wf) (hO : T.tab.Ok) {r c : Nat} (hr : r < T.tab.R) (hc : c < T.tab.C) {up : Bool} {n : Int} (hn0 : 0 ≤ n) (hn1 : n ≤ 2 ^ 30) :
    ∃ g H', runT env 116 [T.v, .int .i64 r, .int .i64 c, .bool up, .int .i64 n] [] 0 = some (.ret (memT T.tab 4 5 12 0 0 g), H') ∧ TbAt H' 4 5 12 0 0 g (clP' 2) (T.tab.setCell r c (quX (T.tab.cell r c) up n)) := by
  obtain ⟨gc, cl⟩ := clone_call hT hO
  have cl := cl 0 [boxT T, .cells 0 3 false [.agg [.lit true 0 [], .lit true 0 [], .lit true 0 []]]] 2
  have at0 := clone_at hO [boxT T, .cells 0 3 false [.agg [.lit true 0 [], .lit true 0 [], .lit true 0 []]]] gc
  have hpu := putU_end (clX T 2 gc) [boxT T, .cells 0 3 false [.agg [.lit true 0 [], .lit true 0 [], .lit true 0 []]]]
  have H1 : ([boxT T, .cells 0 3 false [.agg [.lit true 0 [], .lit true 0 [], .lit true 0 []]]] : Heap).length = 2 := rfl
  have hps : ∀ i, 2 ≤ clP' 2 i := fun i => by unfold clP'; split <;> omega
  rw [H1] at at0 hpu
  have hXl := clX_len T 2 gc hO.R1
  generalize hX : clX T 2 gc = X at cl at0 hpu hXl
  generalize hp : clP' 2 = ps at at0 hps ⊢
  have at1 := at0.more [.cells 0 3 false [memT T.tab (2 + 2) (2 + 3) (2 + 10) 0 0 gc]]
  have at2 := at1.write (k := c) hO.len hr (quX (T.tab.cell r c) up n)
  obtain ⟨l1, l2, l3, l4⟩ := at1.lt
  have l4 := l4 r hr
  have hp1 : ps r ≠ 1 := by have := hps r; omega
  have hpne : ps r ≠ X.length + 1 + 1 := fun e => by
    have := at0.lt.2.2.2 r hr
    rw [List.length_append, H1] at this
    omega
  have r0 : (0 : Int) ≤ (r : Int) := by omega
  have c0 : (0 : Int) ≤ (c : Int) := by omega
  have dR : decide ((r : Int) < (T.tab.R : Int)) = true := by simp; omega
  have dC : decide ((c : Int) < (T.tab.C : Int)) = true := by simp; omega
  have wA : IntKind.i64.wrap (n + 1) = n + 1 := i64_in _ (by omega)
  have wB : IntKind.i64.wrap (n - 1) = n - 1 := i64_in _ (by omega)
  have hget := rowA_get hO hr hc
  have hrl := rowA_length hO.len hO.wid hr
  have gs := fun b : Blk => get_snoc (X := X) rfl b
  have ss := fun b b' : Blk => set_snoc (X := X) rfl b b'
  have ls := fun b : Blk => len_snoc (X := X) rfl b
  have hacc := at1.acc
  have hrow := at1.row r hr
  have hva : (vecA T.tab.R fun i => AVal.ref (ps i) 0 0 T.tab.C false)[r]? = some (.ref (ps r) 0 0 T.tab.C false) := vecA_get _ hr
  have z1 : (ps r < X.length + 1 + 1 + 1) = True := eq_true (by
    rw [List.length_append, List.length_append, H1] at l4
    simp only [List.length_cons, List.length_nil] at l4; omega)
  have hcell : ∀ y, ((([boxT T, .cells 0 3 false [.agg [.lit true 0 [], .lit true 0 [], .lit true 0 []]]] ++ X) ++ [Blk.cells 0 3 false [memT T.tab (2 + 2) (2 + 3) (2 + 10) 0 0 gc]]).set (ps r) y)[X.length + 1 + 1]? = some (.cells 0 3 false [memT T.tab (2 + 2) (2 + 3) (2 + 10) 0 0 gc]) := fun y => by
    rw [List.getElem?_set_ne hpne]
    exact get_snoc (by rw [List.length_append, H1]; omega) _
  have hcell1 : ∀ y, ((([boxT T, .cells 0 3 false [.agg [.lit true 0 [], .lit true 0 [], .lit true 0 []]]] ++ X) ++ [Blk.cells 0 3 false [memT T.tab (2 + 2) (2 + 3) (2 + 10) 0 0 gc]]).set (ps r) y)[1]? = some (.cells 0 3 false [.agg [.lit true 0 [], .lit true 0 [], .lit true 0 []]]) := fun y => by
    rw [List.getElem?_set_ne hp1]; rfl
  refine ⟨gc, ((([boxT T, .cells 0 3 false [.agg [.lit true 0 [], .lit true 0 [], .lit true 0 []]]] ++ X) ++ [Blk.cells 0 3 false [memT T.tab (2 + 2) (2 + 3) (2 + 10) 0 0 gc]]).set (ps r) (.cells 0 2 true ((rowA T.tab r).set c (spV (quX (T.tab.cell r c) up n))))).set 1 (.cells 0 3 false [memT T.tab (2 + 2) (2 + 3) (2 + 10) 0 0 gc]), ?_, at2.mono fun i hi => ?_⟩
  · have z2 : (1 < X.length + 1 + 1 + 1) = True := eq_true (by omega)
    have hl1 : ∀ y b, (1 < (((boxT T :: Blk.cells 0 3 false [.agg [.lit true 0 [], .lit true 0 [], .lit true 0 []]] :: (X ++ [b])).set (ps r) y)).length) = True := fun y b => eq_true (by simp only [List.length_set, List.length_cons]; omega)
    have sel : ∀ (Z : Heap) (b : Blk), 1 < Z.length → (Z.set 1 b)[1]? = some b := fun Z b h => List.getElem?_set_self h
    have hl2 : ∀ y b, ((((boxT T :: Blk.cells 0 3 false [.agg [.lit true 0 [], .lit true 0 [], .lit true 0 []]] :: (X ++ [b])).set (ps r) y)).set 1 (.cells 0 3 false [memT T.tab (2 + 2) (2 + 3) (2 + 10) 0 0 gc]))[1]? = some (.cells 0 3 false [memT T.tab (2 + 2) (2 + 3) (2 + 10) 0 0 gc]) := fun y b => sel _ _ (of_eq_true (hl1 y b))
    simp only [boxT, Nat.reduceAdd, memT, List.cons_append, List.nil_append] at cl hpu hacc hrow hcell hcell1 hl1 hl2 ⊢
    cases up with
    | true =>
      have wr : writeAt (spV (T.tab.cell r c)) 0 (.int .i64 (n + 1)) = some (spV (quX (T.tab.cell r c) true n)) := rfl
      rw [run_unfold fn116 rfl]
      simp only [go_sem, simprocAttr, Try.f116, cl, hpu, r0, c0, Int.toNat_natCast, wA, wr, gs, ss, ls, hacc, hrow, hva, hcell, hcell1, hl1, hl2, hget, dR, dC, hrl, z1, z2, Nat.zero_le, Nat.lt_add_one, List.length_set, unwind, modeEx, resultsOf, one]
    | false =>
      have wr : writeAt (spV (T.tab.cell r c)) 1 (.int .i64 (n - 1)) = some (spV (quX (T.tab.cell r c) false n)) := rfl
      rw [run_unfold fn116 rfl]
      simp only [go_sem, simprocAttr, Try.f116, cl, hpu, r0, c0, Int.toNat_natCast, wB, wr, gs, ss, ls, hacc, hrow, hva, hcell, hcell1, hl1, hl2, hget, dR, dC, hrl, z1, z2, Nat.zero_le, Nat.lt_add_one, List.length_set, unwind, modeEx, resultsOf, one]
  · rw [List.getElem?_set_ne]
    rcases hi with rfl | rfl | rfl | ⟨j, hj, rfl⟩
    · omega
    · omega
    · omega
    · have := hps j; omega

theorem question_call {T : TabV} (hT : T.Wf) (hO : T.tab.Ok) {r c : Nat} (hr : r < T.tab.R) (hc : c < T.tab.C) {up : Bool} {n : Int} (hn0 : 0 ≤ n) (hn1 : n ≤ 2 ^ 30) (ro : Nat) (H : Heap) :
    ∃ g ps X, callT env 116 [T.v, .int .i64 r, .int .i64 c, .bool up, .int .i64 n] ro H H.length = some (.ret (memT T.tab (H.length + 4) (H.length + 5) (H.length + 12) 0 0 g), .ups (numbered H.length X)) ∧
      TbAt (H ++ X) (H.length + 4) (H.length + 5) (H.length + 12) 0 0 g ps (T.tab.setCell r c (quX (T.tab.cell r c) up n)) ∧ ∀ i, H.length ≤ ps i := by
  obtain ⟨g, H', hrun, hat⟩ := question_run hT hO hr hc (up := up) hn0 hn1
  have hu : underL 0 [T.v, .int .i64 r, .int .i64 c, .bool up, .int .i64 n] = true := by simp [underL, AVal.under, TabV.under]
  obtain ⟨l1, l2, l3, _⟩ := hat.lt
  have hcn : ∀ j, j < H'.length → (List.range' 0 H'.length).contains j = true := fun j hj => by simp; omega
  have hf : ∀ j, j < H'.length → nxF H.length H'.length j = some (H.length + j) := fun j hj => by unfold nxF; rw [if_pos hj]
  have hcall := call_keepAll (f := 116) rfl rfl rfl hu hrun (w := memT T.tab 4 5 12 0 0 g) (by
    unfold memT
    simp only [handBack, mapO, hcn 4 l1, hcn 5 l2, hcn 12 l3, Bool.or_true, if_true, Option.map_some]) ro H H.length
  refine ⟨g, _, _, ?_, hat.shift H, fun i => by omega⟩
  rw [hcall]
  simp only [AVal.ren, renL, memT, hf 4 l1, hf 5 l2, hf 12 l3]

set_option maxRecDepth 10000
set_option maxHeartbeats 4000000

theorem mod_facts {T : TabV} (hT : T.Wf) (hO : T.tab.Ok) {r c : Nat} (hr : r < T.tab.R) (x : Spn) (hx : x.ok = true) :
    ∃ (gc : Nat) (X : Heap) (p : Nat) (acc : List AVal), callT env 89 [T.v] 0 [boxT T] 1 = some (.ret (.agg [.ref 3 1 0 T.tab.R false, .ref 4 1 0 T.tab.C false, .ref 5 gc 0 T.tab.R false]), .ups (numbered 1 X)) ∧
      putU [boxT T] (numbered 1 X) = boxT T :: X ∧
      (boxT T :: (X ++ [.cells 0 3 false [.agg [.ref 3 1 0 T.tab.R false, .ref 4 1 0 T.tab.C false, .ref 5 gc 0 T.tab.R false]]]))[5]? = some (.cells gc 1 false acc) ∧
      acc[r]? = some (.ref p 0 0 T.tab.C false) ∧
      (boxT T :: (X ++ [.cells 0 3 false [.agg [.ref 3 1 0 T.tab.R false, .ref 4 1 0 T.tab.C false, .ref 5 gc 0 T.tab.R false]]]))[p]? = some (.cells 0 2 true (rowA T.tab r)) ∧
      (p < X.length + 1 + 1) = True ∧
      ((boxT T :: (X ++ [.cells 0 3 false [.agg [.ref 3 1 0 T.tab.R false, .ref 4 1 0 T.tab.C false, .ref 5 gc 0 T.tab.R false]]])).set p (.cells 0 2 true ((rowA T.tab r).set c (spV x))))[X.length + 1]? = some (.cells 0 3 false [.agg [.ref 3 1 0 T.tab.R false, .ref 4 1 0 T.tab.C false, .ref 5 gc 0 T.tab.R false]]) ∧
      callT env 75 [.agg [.ref 3 1 0 T.tab.R false, .ref 4 1 0 T.tab.C false, .ref 5 gc 0 T.tab.R false]] 0 ((boxT T :: (X ++ [.cells 0 3 false [.agg [.ref 3 1 0 T.tab.R false, .ref 4 1 0 T.tab.C false, .ref 5 gc 0 T.tab.R false]]])).set p (.cells 0 2 true ((rowA T.tab r).set c (spV x)))) (X.length + 1 + 1) = some (.ret (.bool (canB (T.tab.setCell r c x))), .ups []) ∧
      ∀ Tm ro V, trunc 1 ⟨Tm, (boxT T :: (X ++ [.cells 0 3 false [.agg [.ref 3 1 0 T.tab.R false, .ref 4 1 0 T.tab.C false, .ref 5 gc 0 T.tab.R false]]])).set p (.cells 0 2 true ((rowA T.tab r).set c (spV x))), [], ro, V⟩ = ⟨Tm.map (scrub 1), [boxT T], [], ro, V⟩ := by
  obtain ⟨gc, cl⟩ := copied_call hT hO
  have cl := cl 0 [boxT T] 1
  have at0 := copied_at hO [boxT T] gc
  have hpu := putU_end (cpX T 1 gc) [boxT T]
  have H1 : ([boxT T] : Heap).length = 1 := rfl
  have hps : ∀ i, cpP 1 i ≠ 0 := fun i => by unfold cpP; omega
  rw [H1] at at0 hpu
  generalize hX : cpX T 1 gc = X at cl at0 hpu
  generalize hp : cpP 1 = ps at at0 hps
  have at1 := at0.more [.cells 0 3 false [memT T.tab (1 + 2) (1 + 3) (1 + 4) 1 1 gc]]
  have at2 := at1.write (k := c) hO.len hr x
  obtain ⟨l1, l2, l3, l4⟩ := at1.lt
  have l4 := l4 r hr
  have hlen2 : (([boxT T] ++ X) ++ [Blk.cells 0 3 false [memT T.tab (1 + 2) (1 + 3) (1 + 4) 1 1 gc]]).length = X.length + 1 + 1 := by
    rw [List.length_append, List.length_append, H1]; simp only [List.length_cons, List.length_nil]; omega
  have hO2 : (T.tab.setCell r c x).Ok := setCell_ok hO hr hx
  have hpne : ps r ≠ X.length + 1 := fun e => by
    have := at0.lt.2.2.2 r hr
    rw [List.length_append, H1] at this
    omega
  have hcan := Can_run (canon_wf hO2.R8 hO2.C8 hO2.len hO2.wid) (by rw [canon_tab]; exact hO2)
  rw [canon_tab] at hcan
  obtain ⟨Hm, mr⟩ := hcan
  obtain ⟨ids, hle⟩ := at2.lend (lits := [0]) hO2.R8 hO2.len hO2.wid rfl (args := []) rfl
  obtain ⟨us, mc, hus⟩ := call_lent (f := 75) rfl rfl rfl rfl hle tv_pure mr (handBack_noRef _ _ _ _ _ rfl) rfl (X.length + 1 + 1)
  have hus := hus rfl
  subst hus
  refine ⟨gc, X, ps r, vecA T.tab.R fun i => .ref (ps i) 0 0 T.tab.C false, cl, hpu, at1.acc, vecA_get _ hr, at1.row r hr, eq_true (by rw [hlen2] at l4; exact l4), ?_, mc, fun Tm ro V => ?_⟩
  · show ((([boxT T] ++ X) ++ [Blk.cells 0 3 false [memT T.tab (1 + 2) (1 + 3) (1 + 4) 1 1 gc]]).set (ps r) _)[X.length + 1]? = _
    rw [List.getElem?_set_ne hpne]
    exact get_snoc (by rw [List.length_append, H1]; omega) _
  · obtain ⟨q, hq⟩ : ∃ q, ps r = q + 1 := ⟨ps r - 1, by have := hps r; omega⟩
    rw [hq, List.set_cons_succ]
    unfold trunc
    have h1 : ¬ ((boxT T :: (X ++ [Blk.cells 0 3 false [.agg [.ref 3 1 0 T.tab.R false, .ref 4 1 0 T.tab.C false, .ref 5 gc 0 T.tab.R false]]]).set q (Blk.cells 0 2 true ((rowA T.tab r).set c (spV x)))).length ≤ 1) := by
      simp only [List.length_cons, List.length_set, List.length_append, List.length_nil]; omega
    simp only [h1, if_false, List.take_succ_cons, List.take_zero, List.all_cons, List.all_nil, Bool.and_true]
    have h2 : underB 1 (boxT T) = true := by simp [underB, boxT, underL, TabV.under]
    simp only [h2, if_true]

structure Least (t : Tab) (r c : Nat) (v : Int) : Prop where
  at_ : ∃ s, Fits t s ∧ s r c = v
  all : ∀ s, Fits t s → v ≤ s r c
structure Great (t : Tab) (r c : Nat) (v : Int) : Prop where
  at_ : ∃ s, Fits t s ∧ s r c = v
  all : ∀ s, Fits t s → s r c ≤ v

theorem fits_narrow {t : Tab} (hO : t.Ok) {r c : Nat} (hr : r < t.R) (hc : c < t.C) {x : Spn} (h1 : (t.cell r c).lo ≤ x.lo) (h2 : x.hi ≤ (t.cell r c).hi) (s : Nat → Nat → Int) : Fits (t.setCell r c x) s ↔ Fits t s ∧ x.lo ≤ s r c ∧ s r c ≤ x.hi := by
  have hs := fun i k => setCell_cell hO x hr hc i k
  constructor
  · intro h
    have h0 := h.cell r c hr hc
    rw [hs, if_pos ⟨rfl, rfl⟩] at h0
    refine ⟨⟨fun i k hi hk => ?_, fun i hi => h.row i hi, fun k hk => h.col k hk⟩, h0⟩
    have h3 := h.cell i k hi hk
    rw [hs] at h3
    by_cases h4 : i = r ∧ k = c
    · obtain ⟨rfl, rfl⟩ := h4; omega
    · rwa [if_neg h4] at h3
  · rintro ⟨h, h3⟩
    refine ⟨fun i k hi hk => ?_, fun i hi => h.row i hi, fun k hk => h.col k hk⟩
    rw [hs]
    by_cases h4 : i = r ∧ k = c
    · obtain ⟨rfl, rfl⟩ := h4; rw [if_pos ⟨rfl, rfl⟩]; exact h3
    · rw [if_neg h4]; exact h.cell i k hi hk

theorem can_low {t : Tab} (hO : t.Ok) {r c : Nat} (hr : r < t.R) (hc : c < t.C) {v m : Int} (hv : Least t r c v) (h2 : m ≤ (t.cell r c).hi) : canB (t.setCell r c ⟨(t.cell r c).lo, m⟩) = decide (v ≤ m) := by
  rw [Bool.eq_iff_iff, canB_true, decide_eq_true_eq]
  have hf := fits_narrow hO hr hc (x := ⟨(t.cell r c).lo, m⟩) (Int.le_refl _) h2
  constructor
  · rintro ⟨s, hs⟩
    have := (hf s).1 hs
    have h3 := hv.all s this.1
    have : s r c ≤ m := this.2.2
    omega
  · intro hm
    obtain ⟨s, hs, e⟩ := hv.at_
    have := hs.cell r c hr hc
    exact ⟨s, (hf s).2 ⟨hs, by show (t.cell r c).lo ≤ s r c; omega, by show s r c ≤ m; omega⟩⟩
theorem can_high {t : Tab} (hO : t.Ok) {r c : Nat} (hr : r < t.R) (hc : c < t.C) {v m : Int} (hv : Great t r c v) (h2 : (t.cell r c).lo ≤ m) : canB (t.setCell r c ⟨m, (t.cell r c).hi⟩) = decide (m ≤ v) := by
  rw [Bool.eq_iff_iff, canB_true, decide_eq_true_eq]
  have hf := fits_narrow hO hr hc (x := ⟨m, (t.cell r c).hi⟩) h2 (Int.le_refl _)
  constructor
  · rintro ⟨s, hs⟩
    have := (hf s).1 hs
    have h3 := hv.all s this.1
    have : m ≤ s r c := this.2.1
    omega
  · intro hm
    obtain ⟨s, hs, e⟩ := hv.at_
    have := hs.cell r c hr hc
    exact ⟨s, (hf s).2 ⟨hs, by show m ≤ s r c; omega, by show s r c ≤ (t.cell r c).hi; omega⟩⟩

theorem lc_loop {T : TabV} (hT : T.Wf) (hO : T.tab.Ok) {r c : Nat} (hr : r < T.tab.R) (hc : c < T.tab.C) {v : Int} (hv : Least T.tab r c v) : ∀ (n : Nat) (lo hi : Int) (j0 j4 j5 j6 j9 j10 j11 j12 j13 j14 j15 j16 j17 j18 j19 j20 j21 j22 j23 j24 j25 j26 j27 j28 j29 j30 j31 j32 j33 j34 j35 j36 j37 j38 j39 j40 j41 j42 j43 j44 j45 j46 j47 j48 j49 j50 j51 j52 j53 j54 : AVal), hi - lo < n → (T.tab.cell r c).lo ≤ lo → lo ≤ v → v ≤ hi → hi ≤ (T.tab.cell r c).hi →
    Goes (execT env (Try.f85.at [1, 1, 0, 0]) ⟨[j0, .int .i64 r, .int .i64 c, .ptr 0 0 0 0, j4, j5, j6, .int .i64 lo, .int .i64 hi, j9, j10, j11, j12, j13, j14, j15, j16, j17, j18, j19, j20, j21, j22, j23, j24, j25, j26, j27, j28, j29, j30, j31, j32, j33, j34, j35, j36, j37, j38, j39, j40, j41, j42, j43, j44, j45, j46, j47, j48, j49, j50, j51, j52, j53, j54], [boxT T], [], 0, []⟩) fun ex s =>
      ex = .exit 0 ∧ FrP 55 [(7, .int .i64 v)] [boxT T] [] 0 [] s := by
  have bc := hO.cell_ok hr hc
  have r0 : (0 : Int) ≤ (r : Int) := by omega
  have c0 : (0 : Int) ≤ (c : Int) := by omega
  have dR : decide ((r : Int) < (T.tab.R : Int)) = true := by simp; omega
  have dC : decide ((c : Int) < (T.tab.C : Int)) = true := by simp; omega
  have hrl := rowA_length hO.len hO.wid hr
  have hget := rowA_get hO hr hc
  intro n
  induction n with
  | zero =>
    intro lo hi; intros; rename_i h1 h2 h3 h4 h5
    omega
  | succ n ih =>
    intro lo hi; intros; rename_i h1 h2 h3 h4 h5
    by_cases hlt : lo < hi
    · have hd : decide (lo < hi) = true := decide_eq_true hlt
      have wq0 : (hi - lo).tdiv 2 = (hi - lo) / 2 := Int.tdiv_eq_ediv_of_nonneg (by omega)
      have w1 : IntKind.i64.wrap (hi - lo) = hi - lo := i64_in _ (by omega)
      have w2 : IntKind.i64.wrap ((hi - lo).tdiv 2) = (hi - lo) / 2 := by rw [wq0]; exact i64_in _ (by omega)
      have w3 : IntKind.i64.wrap (lo + (hi - lo) / 2) = lo + (hi - lo) / 2 := i64_in _ (by omega)
      generalize hm : lo + (hi - lo) / 2 = m at w3
      have w4 : IntKind.i64.wrap (m + 1) = m + 1 := i64_in _ (by omega)
      obtain ⟨gc, X, p, acc, k1, k2, k3, k4, k5, k6, k7, k8, k9⟩ := mod_facts hT hO (c := c) hr ⟨(T.tab.cell r c).lo, m⟩ (by simp [Spn.ok]; omega)
      rw [can_low hO hr hc hv (by omega)] at k8
      have gs := fun b : Blk => get_snoc (X := X) rfl b
      have ss := fun b b' : Blk => set_snoc (X := X) rfl b b'
      have ls := fun b : Blk => len_snoc (X := X) rfl b
      have wr : ∀ y : Spn, writeAt (spV y) 1 (.int .i64 m) = some (spV ⟨y.lo, m⟩) := fun _ => rfl
      have scI : ∀ (k : IntKind) (z : Int), scrub 1 (.int k z) = .int k z := fun _ _ => rfl
      have scP : scrub 1 (.ptr 0 0 0 0) = .ptr 0 0 0 0 := rfl
      simp only [boxT] at k1 k2 k3 k5 k7 k8 k9
      cases hq : decide (v ≤ m) with
      | true =>
        rw [hq] at k8
        have hq' := of_decide_eq_true hq
        have ih' := ih lo m
        simp only [go_sem, simprocAttr, Try.f85, boxT] at ih' ⊢
        rw [exec_loop]
        simp only [go_sem, simprocAttr, hd, r0, c0, Int.toNat_natCast, w1, w2, hm, w3, w4, k1, k2, k3, k4, k5, k6, k7, k8, k9, gs, ss, ls, wr, hget, dR, dC, hrl, Nat.zero_le, Nat.lt_add_one, List.length_set, List.map_cons, List.map_nil, scI, scP]
        exact ih' _ _ _ _ _ _ _ _ _ _ _ _ _ _ _ _ _ _ _ _ _ _ _ _ _ _ _ _ _ _ _ _ _ _ _ _ _ _ _ _ _ _ _ _ _ _ _ _ _ _ (by omega) h2 h3 hq' (by omega)
      | false =>
        rw [hq] at k8
        have hq' := of_decide_eq_false hq
        have ih' := ih (m + 1) hi
        simp only [go_sem, simprocAttr, Try.f85, boxT] at ih' ⊢
        rw [exec_loop]
        simp only [go_sem, simprocAttr, hd, r0, c0, Int.toNat_natCast, w1, w2, hm, w3, w4, k1, k2, k3, k4, k5, k6, k7, k8, k9, gs, ss, ls, wr, hget, dR, dC, hrl, Nat.zero_le, Nat.lt_add_one, List.length_set, List.map_cons, List.map_nil, scI, scP]
        exact ih' _ _ _ _ _ _ _ _ _ _ _ _ _ _ _ _ _ _ _ _ _ _ _ _ _ _ _ _ _ _ _ _ _ _ _ _ _ _ _ _ _ _ _ _ _ _ _ _ _ _ (by omega) (by omega) (by omega) h4 h5
    · have hd : decide (lo < hi) = false := decide_eq_false hlt
      have : lo = v := by omega
      subst this
      simp only [go_sem, simprocAttr, Try.f85]
      rw [exec_loop]
      simp only [go_sem, simprocAttr, hd]
      exact frP (by kernel_rfl)

set_option maxRecDepth 10000
set_option maxHeartbeats 4000000

theorem gc_loop {T : TabV} (hT : T.Wf) (hO : T.tab.Ok) {r c : Nat} (hr : r < T.tab.R) (hc : c < T.tab.C) {v : Int} (hv : Great T.tab r c v) : ∀ (n : Nat) (lo hi : Int) (j0 j4 j5 j6 j9 j10 j11 j12 j13 j14 j15 j16 j17 j18 j19 j20 j21 j22 j23 j24 j25 j26 j27 j28 j29 j30 j31 j32 j33 j34 j35 j36 j37 j38 j39 j40 j41 j42 j43 j44 j45 j46 j47 j48 j49 j50 j51 j52 j53 j54 j55 : AVal), hi - lo < n → (T.tab.cell r c).lo ≤ lo → lo ≤ v → v ≤ hi → hi ≤ (T.tab.cell r c).hi →
    Goes (execT env (Try.f86.at [1, 1, 0, 0]) ⟨[j0, .int .i64 r, .int .i64 c, .ptr 0 0 0 0, j4, j5, j6, .int .i64 lo, .int .i64 hi, j9, j10, j11, j12, j13, j14, j15, j16, j17, j18, j19, j20, j21, j22, j23, j24, j25, j26, j27, j28, j29, j30, j31, j32, j33, j34, j35, j36, j37, j38, j39, j40, j41, j42, j43, j44, j45, j46, j47, j48, j49, j50, j51, j52, j53, j54, j55], [boxT T], [], 0, []⟩) fun ex s =>
      ex = .exit 0 ∧ FrP 56 [(7, .int .i64 v)] [boxT T] [] 0 [] s := by
  have bc := hO.cell_ok hr hc
  have r0 : (0 : Int) ≤ (r : Int) := by omega
  have c0 : (0 : Int) ≤ (c : Int) := by omega
  have dR : decide ((r : Int) < (T.tab.R : Int)) = true := by simp; omega
  have dC : decide ((c : Int) < (T.tab.C : Int)) = true := by simp; omega
  have hrl := rowA_length hO.len hO.wid hr
  have hget := rowA_get hO hr hc
  intro n
  induction n with
  | zero =>
    intro lo hi; intros; rename_i h1 h2 h3 h4 h5
    omega
  | succ n ih =>
    intro lo hi; intros; rename_i h1 h2 h3 h4 h5
    by_cases hlt : lo < hi
    · have hd : decide (lo < hi) = true := decide_eq_true hlt
      have wq0 : (hi - lo + 1).tdiv 2 = (hi - lo + 1) / 2 := Int.tdiv_eq_ediv_of_nonneg (by omega)
      have w1 : IntKind.i64.wrap (hi - lo) = hi - lo := i64_in _ (by omega)
      have w0 : IntKind.i64.wrap (hi - lo + 1) = hi - lo + 1 := i64_in _ (by omega)
      have w2 : IntKind.i64.wrap ((hi - lo + 1).tdiv 2) = (hi - lo + 1) / 2 := by rw [wq0]; exact i64_in _ (by omega)
      have w3 : IntKind.i64.wrap (lo + (hi - lo + 1) / 2) = lo + (hi - lo + 1) / 2 := i64_in _ (by omega)
      generalize hm : lo + (hi - lo + 1) / 2 = m at w3
      have w4 : IntKind.i64.wrap (m - 1) = m - 1 := i64_in _ (by omega)
      obtain ⟨gc, X, p, acc, k1, k2, k3, k4, k5, k6, k7, k8, k9⟩ := mod_facts hT hO (c := c) hr ⟨m, (T.tab.cell r c).hi⟩ (by simp [Spn.ok]; omega)
      rw [can_high hO hr hc hv (by omega)] at k8
      have gs := fun b : Blk => get_snoc (X := X) rfl b
      have ss := fun b b' : Blk => set_snoc (X := X) rfl b b'
      have ls := fun b : Blk => len_snoc (X := X) rfl b
      have wr : ∀ y : Spn, writeAt (spV y) 0 (.int .i64 m) = some (spV ⟨m, y.hi⟩) := fun _ => rfl
      have scI : ∀ (k : IntKind) (z : Int), scrub 1 (.int k z) = .int k z := fun _ _ => rfl
      have scP : scrub 1 (.ptr 0 0 0 0) = .ptr 0 0 0 0 := rfl
      simp only [boxT] at k1 k2 k3 k5 k7 k8 k9
      cases hq : decide (m ≤ v) with
      | true =>
        rw [hq] at k8
        have hq' := of_decide_eq_true hq
        have ih' := ih m hi
        simp only [go_sem, simprocAttr, Try.f86, boxT] at ih' ⊢
        rw [exec_loop]
        simp only [go_sem, simprocAttr, hd, r0, c0, Int.toNat_natCast, w0, w1, w2, hm, w3, w4, k1, k2, k3, k4, k5, k6, k7, k8, k9, gs, ss, ls, wr, hget, dR, dC, hrl, Nat.zero_le, Nat.lt_add_one, List.length_set, List.map_cons, List.map_nil, scI, scP]
        exact ih' _ _ _ _ _ _ _ _ _ _ _ _ _ _ _ _ _ _ _ _ _ _ _ _ _ _ _ _ _ _ _ _ _ _ _ _ _ _ _ _ _ _ _ _ _ _ _ _ _ _ _ (by omega) (by omega) hq' h4 h5
      | false =>
        rw [hq] at k8
        have hq' := of_decide_eq_false hq
        have ih' := ih lo (m - 1)
        simp only [go_sem, simprocAttr, Try.f86, boxT] at ih' ⊢
        rw [exec_loop]
        simp only [go_sem, simprocAttr, hd, r0, c0, Int.toNat_natCast, w0, w1, w2, hm, w3, w4, k1, k2, k3, k4, k5, k6, k7, k8, k9, gs, ss, ls, wr, hget, dR, dC, hrl, Nat.zero_le, Nat.lt_add_one, List.length_set, List.map_cons, List.map_nil, scI, scP]
        exact ih' _ _ _ _ _ _ _ _ _ _ _ _ _ _ _ _ _ _ _ _ _ _ _ _ _ _ _ _ _ _ _ _ _ _ _ _ _ _ _ _ _ _ _ _ _ _ _ _ _ _ _ (by omega) h2 h3 (by omega) (by omega)
    · have hd : decide (lo < hi) = false := decide_eq_false hlt
      have : lo = v := by omega
      subst this
      simp only [go_sem, simprocAttr, Try.f86]
      rw [exec_loop]
      simp only [go_sem, simprocAttr, hd]
      exact frP (by kernel_rfl)

theorem Least.range {t : Tab} {r c : Nat} (hr : r < t.R) (hc : c < t.C) {v : Int} (h : Least t r c v) : (t.cell r c).lo ≤ v ∧ v ≤ (t.cell r c).hi := by
  obtain ⟨s, hs, rfl⟩ := h.at_
  exact hs.cell r c hr hc
theorem Great.range {t : Tab} {r c : Nat} (hr : r < t.R) (hc : c < t.C) {v : Int} (h : Great t r c v) : (t.cell r c).lo ≤ v ∧ v ≤ (t.cell r c).hi := by
  obtain ⟨s, hs, rfl⟩ := h.at_
  exact hs.cell r c hr hc

theorem leastCell_call {T : TabV} (hT : T.Wf) (hO : T.tab.Ok) {r c : Nat} (hr : r < T.tab.R) (hc : c < T.tab.C) {v : Int} (hv : Least T.tab r c v) (ro : Nat) (H : Heap) (nx : Nat) : callT env 85 [T.v, .int .i64 r, .int .i64 c] ro H nx = some (.ret (.int .i64 v), .ups []) := by
  have hu : underL 0 [T.v, .int .i64 r, .int .i64 c] = true := by simp [underL, AVal.under, TabV.under]
  have : ∃ H', runT env 85 [T.v, .int .i64 r, .int .i64 c] [] 0 = some (.ret (.int .i64 v), H') := by
    have r0 : (0 : Int) ≤ (r : Int) := by omega
    have c0 : (0 : Int) ≤ (c : Int) := by omega
    obtain ⟨s, _, q1, q2, q3, _, _⟩ := TabV.at hT hO hr hc
    have q3 := eq_true q3
    obtain ⟨v1, v2⟩ := hv.range hr hc
    have bc := hO.cell_ok hr hc
    obtain ⟨ex, st, hx, hp⟩ := lc_loop hT hO hr hc hv (((T.tab.cell r c).hi - (T.tab.cell r c).lo).toNat + 1) (T.tab.cell r c).lo (T.tab.cell r c).hi _ _ _ _ _ _ _ _ _ _ _ _ _ _ _ _ _ _ _ _ _ _ _ _ _ _ _ _ _ _ _ _ _ _ _ _ _ _ _ _ _ _ _ _ _ _ _ _ _ _ (by omega) (Int.le_refl _) v1 v2 (Int.le_refl _)
    obtain ⟨rfl, jp, rfl⟩ := hp
    simp only [go_sem, simprocAttr, Try.f85, boxT] at hx
    rw [run_unfold fn85 rfl]
    simp only [go_sem, simprocAttr, Try.f85, r0, c0, Int.toNat_natCast, q1, q2, q3]
    rw [hx]
    simp only [go_sem, simprocAttr, unwind, modeEx, resultsOf, one]
    exact ⟨_, rfl⟩
  obtain ⟨H', h⟩ := this
  exact call_pure rfl rfl rfl hu h rfl ro H nx

theorem greatestCell_call {T : TabV} (hT : T.Wf) (hO : T.tab.Ok) {r c : Nat} (hr : r < T.tab.R) (hc : c < T.tab.C) {v : Int} (hv : Great T.tab r c v) (ro : Nat) (H : Heap) (nx : Nat) : callT env 86 [T.v, .int .i64 r, .int .i64 c] ro H nx = some (.ret (.int .i64 v), .ups []) := by
  have hu : underL 0 [T.v, .int .i64 r, .int .i64 c] = true := by simp [underL, AVal.under, TabV.under]
  have : ∃ H', runT env 86 [T.v, .int .i64 r, .int .i64 c] [] 0 = some (.ret (.int .i64 v), H') := by
    have r0 : (0 : Int) ≤ (r : Int) := by omega
    have c0 : (0 : Int) ≤ (c : Int) := by omega
    obtain ⟨s, _, q1, q2, q3, _, _⟩ := TabV.at hT hO hr hc
    have q3 := eq_true q3
    obtain ⟨v1, v2⟩ := hv.range hr hc
    have bc := hO.cell_ok hr hc
    obtain ⟨ex, st, hx, hp⟩ := gc_loop hT hO hr hc hv (((T.tab.cell r c).hi - (T.tab.cell r c).lo).toNat + 1) (T.tab.cell r c).lo (T.tab.cell r c).hi _ _ _ _ _ _ _ _ _ _ _ _ _ _ _ _ _ _ _ _ _ _ _ _ _ _ _ _ _ _ _ _ _ _ _ _ _ _ _ _ _ _ _ _ _ _ _ _ _ _ _ (by omega) (Int.le_refl _) v1 v2 (Int.le_refl _)
    obtain ⟨rfl, jp, rfl⟩ := hp
    simp only [go_sem, simprocAttr, Try.f86, boxT] at hx
    rw [run_unfold fn86 rfl]
    simp only [go_sem, simprocAttr, Try.f86, r0, c0, Int.toNat_natCast, q1, q2, q3]
    rw [hx]
    simp only [go_sem, simprocAttr, unwind, modeEx, resultsOf, one]
    exact ⟨_, rfl⟩
  obtain ⟨H', h⟩ := this
  exact call_pure rfl rfl rfl hu h rfl ro H nx

theorem askS_zero {t : Tab} {i k : Int} (h : askS t i k = 0) : t.Ok ∧ canB t = true ∧ outB t i k = false := by
  unfold askS at h
  cases hok : t.ok with
  | false => rw [hok] at h; simp at h
  | true =>
    rw [hok] at h
    cases hcan : canB t with
    | false => rw [hcan] at h; simp at h
    | true =>
      rw [hcan] at h
      cases ho : outB t i k with
      | true => rw [ho] at h; simp at h
      | false => exact ⟨Tab.ok_iff.1 hok, rfl, rfl⟩

theorem ends_cell {t : Tab} {r c : Nat} (hr : r < t.R) (hc : c < t.C) {lo hi : Int} (h : IsEnds t.net [r * t.C + c] lo hi) : Least t r c lo ∧ Great t r c hi := by
  obtain ⟨⟨x, hx, ex⟩, ⟨y, hy, ey⟩, ha⟩ := isEnds_iff.1 h
  rw [brings_cell t _ hr hc] at ex ey
  refine ⟨⟨⟨x, hx, ex⟩, fun s hs => ?_⟩, ⟨⟨y, hy, ey⟩, fun s hs => ?_⟩⟩
  · have := (ha s hs).1; rwa [brings_cell t _ hr hc] at this
  · have := (ha s hs).2; rwa [brings_cell t _ hr hc] at this

theorem rCell_call {T : TabV} (hT : T.Wf) (i k : Int) {v : AVal} (hv : EndsAns T.tab (askS T.tab i k) [i.toNat * T.tab.C + k.toNat] v) (ro : Nat) (H : Heap) (nx : Nat) : callT env 27 [T.v, .int .i64 i, .int .i64 k] ro H nx = some (.ret v, .ups []) := by
  have hu : underL 0 [T.v, .int .i64 i, .int .i64 k] = true := by simp [underL, AVal.under, TabV.under]
  have : ∃ H', runT env 27 [T.v, .int .i64 i, .int .i64 k] [] 0 = some (.ret v, H') := by
    have rc := ready_call hT i k
    rcases hv with ⟨hz, rfl⟩ | ⟨hz, hO, lo, hi, he, rfl⟩
    · have hz' : decide (askS T.tab i k = 0) = false := decide_eq_false hz
      rw [run_unfold fn27 rfl]
      simp only [go_sem, simprocAttr, Try.f27, rc, hz', unwind, modeEx, resultsOf, one]
      exact ⟨_, rfl⟩
    · obtain ⟨_, _, ho⟩ := askS_zero hz
      obtain ⟨r, c, rfl, rfl, hr, hc⟩ := outB_no ho
      rw [Int.toNat_natCast, Int.toNat_natCast] at he
      obtain ⟨e1, e2⟩ := ends_cell hr hc he
      have c1 := leastCell_call hT hO hr hc e1
      have c2 := greatestCell_call hT hO hr hc e2
      rw [hz] at rc
      rw [run_unfold fn27 rfl]
      simp only [go_sem, simprocAttr, Try.f27, rc, c1, c2, unwind, modeEx, resultsOf, one]
      rw [apart_ok]
      · simp only [go_sem, simprocAttr, unwind, modeEx, resultsOf, one]
        exact ⟨_, rfl⟩
      · kernel_rfl
  obtain ⟨H', h⟩ := this
  have hn : noRef v = true := hv.pure.1
  exact call_pure rfl rfl rfl hu h hn ro H nx

set_option maxRecDepth 10000
set_option maxHeartbeats 4000000

theorem gap_run' {T : TabV} (hT : T.Wf) (hO : T.tab.Ok) (hn : canB T.tab = false) : ∃ (v : AVal) (H' : Heap) (l1 l2 : List Bool), runT env 76 [T.v] [] 0 = some (.ret v, H') ∧ handBack H' 0 [] 4 v = some (.tuple [cutV l1 l2, .bool true]) ∧
    l1.length = T.tab.R ∧ l2.length = T.tab.C ∧ T.tab.gap (fun i => l1.getD i false) (fun k => l2.getD k false) = true := by
  obtain ⟨v, w, H', hr, hb, hw⟩ := gap_run hT hO
  rcases hw with ⟨hf, rfl⟩ | ⟨met, hs, rfl⟩
  · rw [canB_true.2 ((settle_can hO).2 hf)] at hn; cases hn
  · have hov := (settle_bring (netOk_tab hO)).2
    rw [hs] at hov
    exact ⟨v, H', _, _, hr, hb, sideL_length _ _ _ _, sideL_length _ _ _ _, gap_is hov.2⟩

theorem cutV_pure (l1 l2 : List Bool) : noRef (.tuple [cutV l1 l2, .bool true]) = true := by
  have h := (⟨false, 1, l1, false, 1, l2⟩ : CutA).under 0
  have : noRef (cutV l1 l2) = true := h
  simp [noRef, AVal.under, underL] at this ⊢
  exact this

def bndS (up : Bool) (lo hi : Int) : Int := if up then hi else lo
def PrfAns (t : Tab) (i k : Int) (up : Bool) (w : AVal) : Prop := (askS t i k ≠ 0 ∧ w = .tuple [.agg [.lit true 0 [], .lit true 0 []], .int .i64 (askS t i k)]) ∨
  (askS t i k = 0 ∧ t.Ok ∧ ∃ lo hi c, IsEnds t.net [i.toNat * t.C + k.toNat] lo hi ∧ CutA.Wf c ∧ fitC t c = true ∧
    (plainB (t.cell i.toNat k.toNat) up (bndS up lo hi) || gapC (t.setCell i.toNat k.toNat (quX (t.cell i.toNat k.toNat) up (bndS up lo hi))) c) = true ∧ w = .tuple [c.v, .int .i64 0])

theorem beyond {t : Tab} (hO : t.Ok) {r c : Nat} (hr : r < t.R) (hc : c < t.C) {lo hi : Int} (he : IsEnds t.net [r * t.C + c] lo hi) (up : Bool) : canB (t.setCell r c (quX (t.cell r c) up (bndS up lo hi))) = false := by
  obtain ⟨e1, e2⟩ := ends_cell hr hc he
  obtain ⟨a1, a2⟩ := e1.range hr hc
  obtain ⟨b1, b2⟩ := e2.range hr hc
  rw [canB_false]
  rintro ⟨s, hs⟩
  cases up with
  | true =>
    have h := (fits_narrow hO hr hc (x := ⟨hi + 1, (t.cell r c).hi⟩) (by show (t.cell r c).lo ≤ hi + 1; omega) (Int.le_refl _) s).1 hs
    have h1 := e2.all s h.1
    have h2 : hi + 1 ≤ s r c := h.2.1
    omega
  | false =>
    have h := (fits_narrow hO hr hc (x := ⟨(t.cell r c).lo, lo - 1⟩) (Int.le_refl _) (by show lo - 1 ≤ (t.cell r c).hi; omega) s).1 hs
    have h1 := e1.all s h.1
    have h2 : s r c ≤ lo - 1 := h.2.2
    omega

theorem q_gap {T : TabV} (hT : T.Wf) (hO : T.tab.Ok) {r c : Nat} (hr : r < T.tab.R) (hc : c < T.tab.C) {up : Bool} {n : Int} (hn0 : 0 ≤ n) (hn1 : n ≤ 2 ^ 30) (hp : plainB (T.tab.cell r c) up n = false)
    (hno : canB (T.tab.setCell r c (quX (T.tab.cell r c) up n)) = false) (B1 B2 : Blk) :
    ∃ (g : Nat) (X X' : Heap) (us : Ups) (l1 l2 : List Bool), callT env 116 [T.v, .int .i64 r, .int .i64 c, .bool up, .int .i64 n] 0 [boxT T, B1, B2] 3 = some (.ret (.agg [.ref 7 0 0 T.tab.R false, .ref 8 0 0 T.tab.C false, .ref 15 g 0 T.tab.R false]), .ups (numbered 3 X)) ∧
      putU [boxT T, B1, B2] (numbered 3 X) = boxT T :: B1 :: B2 :: X ∧
      callT env 76 [.agg [.ref 7 0 0 T.tab.R false, .ref 8 0 0 T.tab.C false, .ref 15 g 0 T.tab.R false]] 0 (boxT T :: B1 :: B2 :: X) (X.length + 1 + 1 + 1) = some (.ret (.tuple [cutV l1 l2, .bool true]), .ups us) ∧
      putU (boxT T :: B1 :: B2 :: X) us = boxT T :: B1 :: B2 :: X' ∧ X'.length = X.length ∧
      l1.length = T.tab.R ∧ l2.length = T.tab.C ∧ gapC (T.tab.setCell r c (quX (T.tab.cell r c) up n)) ⟨false, 1, l1, false, 1, l2⟩ = true := by
  have hbc := hO.cell_ok hr hc
  have hqx : (quX (T.tab.cell r c) up n).ok = true := quX_ok (by simp [Spn.ok]; omega) hn0 hn1 hp
  have hO2 : (T.tab.setCell r c (quX (T.tab.cell r c) up n)).Ok := setCell_ok hO hr hqx
  obtain ⟨g, ps, X, qc, hat, hps⟩ := question_call hT hO hr hc (up := up) hn0 hn1 0 [boxT T, B1, B2]
  have H1 : ([boxT T, B1, B2] : Heap).length = 3 := rfl
  have hpu := putU_end X [boxT T, B1, B2]
  rw [H1] at qc hat hps hpu
  obtain ⟨v, H', l1, l2, hr', hb, k1, k2, k3⟩ := gap_run' (canon_wf hO2.R8 hO2.C8 hO2.len hO2.wid) (by rw [canon_tab]; exact hO2) (by rw [canon_tab]; exact hno)
  rw [canon_tab] at k1 k2 k3
  obtain ⟨ids, hle, hids⟩ := hat.lend' (lits := [0]) hO2.R8 hO2.len hO2.wid rfl (args := []) rfl
  obtain ⟨us, gc, hus⟩ := call_lent' (f := 76) rfl rfl rfl rfl hle tv_pure hr' hb (cutV_pure l1 l2) (X.length + 1 + 1 + 1)
  obtain ⟨X', e1, e2⟩ := putU_lent hus [boxT T, B1, B2] X (fun x hx => by
    obtain ⟨m1, m2, m3, m4⟩ := hat.lt
    rw [List.length_append, H1] at m1 m2 m3 m4
    rw [H1]
    rcases hids x hx with rfl | rfl | rfl | ⟨i, hi, rfl⟩
    · omega
    · omega
    · omega
    · exact ⟨hps i, m4 i hi⟩)
  exact ⟨g, X, X', us, l1, l2, qc, hpu, gc, e2, e1, k1, k2, k3⟩

theorem proof_call {T : TabV} (hT : T.Wf) (i k : Int) (up : Bool) : ∃ w, PrfAns T.tab i k up w ∧ ∀ ro H nx, callT env 59 [T.v, .int .i64 i, .int .i64 k, .bool up] ro H nx = some (.ret w, .ups []) := by
  have hu : underL 0 [T.v, .int .i64 i, .int .i64 k, .bool up] = true := by simp [underL, AVal.under, TabV.under]
  obtain ⟨w, hw, ce⟩ := cellE_call hT i k
  rcases hw with ⟨hz, rfl⟩ | ⟨hz, hO, lo, hi, he, rfl⟩
  · have hz' : decide (askS T.tab i k = 0) = false := decide_eq_false hz
    have : ∃ H', runT env 59 [T.v, .int .i64 i, .int .i64 k, .bool up] [] 0 = some (.ret (.tuple [.agg [.lit true 0 [], .lit true 0 []], .int .i64 (askS T.tab i k)]), H') := by
      rw [run_unfold fn59 rfl]
      simp only [go_sem, simprocAttr, Try.f59, ce, hz', unwind, modeEx, resultsOf, one]
      exact ⟨_, rfl⟩
    obtain ⟨H', h⟩ := this
    exact ⟨_, .inl ⟨hz, rfl⟩, fun ro H nx => call_pure rfl rfl rfl hu h rfl ro H nx⟩
  · obtain ⟨_, _, ho⟩ := askS_zero hz
    obtain ⟨r, c, rfl, rfl, hr, hc⟩ := outB_no ho
    rw [Int.toNat_natCast, Int.toNat_natCast] at he
    have r0 : (0 : Int) ≤ (r : Int) := by omega
    have c0 : (0 : Int) ≤ (c : Int) := by omega
    obtain ⟨s, _, q1, q2, q3, _, _⟩ := TabV.at hT hO hr hc
    have q3 := eq_true q3
    obtain ⟨e1, e2⟩ := ends_cell hr hc he
    obtain ⟨a1, a2⟩ := e1.range hr hc
    obtain ⟨b1, b2⟩ := e2.range hr hc
    have hbc := hO.cell_ok hr hc
    have pc := plain_call (T.tab.cell r c) up (bndS up lo hi)
    have hb0 : 0 ≤ bndS up lo hi := by cases up <;> simp only [bndS, if_true, Bool.false_eq_true, if_false] <;> omega
    have hb1 : bndS up lo hi ≤ 2 ^ 30 := by cases up <;> simp only [bndS, if_true, Bool.false_eq_true, if_false] <;> omega
    have hR8 := hO.R8
    have hC8 := hO.C8
    cases hp : plainB (T.tab.cell r c) up (bndS up lo hi) with
    | true =>
      rw [hp] at pc
      have lr : T.rows.l.length = T.tab.R := rfl
      have lc : T.cols.l.length = T.tab.C := rfl
      have R0 : (0 : Int) ≤ (T.tab.R : Int) := by omega
      have C0 : (0 : Int) ≤ (T.tab.C : Int) := by omega
      have m1 : T.tab.R * 2 ≤ maxBytes := by unfold maxBytes; omega
      have m2 : T.tab.C * 2 ≤ maxBytes := by unfold maxBytes; omega
      have bd28 : build env ⟨.struct [(26, 0), (26, 1)], 2, 48, .agg [.lit true 0 [], .lit true 0 []]⟩ [(0, .ref 3 0 0 T.tab.R false), (1, .ref 4 0 0 T.tab.C false)] = some (.agg [.ref 3 0 0 T.tab.R false, .ref 4 0 0 T.tab.C false]) := rfl
      have : ∃ H' : Heap, H'[3]? = some (.cells 0 1 true (List.replicate T.tab.R (.bool false))) ∧ H'[4]? = some (.cells 0 1 true (List.replicate T.tab.C (.bool false))) ∧ runT env 59 [T.v, .int .i64 r, .int .i64 c, .bool up] [] 0 = some (.ret (.tuple [.agg [.ref 3 0 0 T.tab.R false, .ref 4 0 0 T.tab.C false], .int .i64 0]), H') := by
        cases up with
        | true =>
          have pc' := pc
          simp only [bndS, if_true] at pc'
          refine ⟨?_, ?_, ?_, ?_⟩
          case refine_4 =>
            rw [run_unfold fn59 rfl]
            simp only [go_sem, simprocAttr, Try.f59, ce, r0, c0, Int.toNat_natCast, q1, q2, q3, pc', List.length_map, lr, lc, R0, C0, m1, m2, bd28, unwind, modeEx, resultsOf, one]
            rw [apart_ok]
            · simp only [go_sem, simprocAttr, unwind, modeEx, resultsOf, one]
              rfl
            · kernel_rfl
          · rfl
          · rfl
        | false =>
          have pc' := pc
          simp only [bndS, Bool.false_eq_true, if_false] at pc'
          refine ⟨?_, ?_, ?_, ?_⟩
          case refine_4 =>
            rw [run_unfold fn59 rfl]
            simp only [go_sem, simprocAttr, Try.f59, ce, r0, c0, Int.toNat_natCast, q1, q2, q3, pc', List.length_map, lr, lc, R0, C0, m1, m2, bd28, unwind, modeEx, resultsOf, one]
            rw [apart_ok]
            · simp only [go_sem, simprocAttr, unwind, modeEx, resultsOf, one]
              rfl
            · kernel_rfl
          · rfl
          · rfl
      obtain ⟨H', h3, h4, h⟩ := this
      have w1 : List.replicate T.tab.R (AVal.bool false) = boolsV (List.replicate T.tab.R false) := by simp [boolsV]
      have w2 : List.replicate T.tab.C (AVal.bool false) = boolsV (List.replicate T.tab.C false) := by simp [boolsV]
      have hwf : (⟨false, 1, List.replicate T.tab.R false, false, 1, List.replicate T.tab.C false⟩ : CutA).Wf := ⟨.inr rfl, .inr rfl, by simp; omega, by simp; omega⟩
      have hb : handBack H' 0 [] 4 (.tuple [.agg [.ref 3 0 0 T.tab.R false, .ref 4 0 0 T.tab.C false], .int .i64 0]) = some (.tuple [(⟨false, 1, List.replicate T.tab.R false, false, 1, List.replicate T.tab.C false⟩ : CutA).v, .int .i64 0]) := by
        rw [w1] at h3
        rw [w2] at h4
        have t1 : (boolsV (List.replicate T.tab.R false)).take T.tab.R = boolsV (List.replicate T.tab.R false) := List.take_of_length_le (by simp [boolsV])
        have t2 : (boolsV (List.replicate T.tab.C false)).take T.tab.C = boolsV (List.replicate T.tab.C false) := List.take_of_length_le (by simp [boolsV])
        simp [handBack, toLit, noRef, AVal.under, mapO, h3, h4, t1, t2, CutA.v, boolsV_length]
      refine ⟨_, .inr ⟨hz, hO, lo, hi, _, by rw [Int.toNat_natCast, Int.toNat_natCast]; exact he, hwf, by simp [fitC], by rw [Int.toNat_natCast, Int.toNat_natCast, hp]; rfl, rfl⟩, fun ro H nx => call_back rfl rfl rfl hu h hb ?_ ro H nx⟩
      have := (⟨false, 1, List.replicate T.tab.R false, false, 1, List.replicate T.tab.C false⟩ : CutA).under 0
      simp [noRef, AVal.under, underL, this]
    | false =>
      rw [hp] at pc
      obtain ⟨g, X, X', us, l1, l2, k1, k2, k3, k4, k5, k6, k7, k8⟩ := q_gap hT hO hr hc hb0 hb1 hp (beyond hO hr hc he up) (.cells 0 2 false [.agg [.lit true 0 [], .lit true 0 []]]) (.cells 0 2 true [spV ⟨lo, hi⟩])
      have gs := fun b : Blk => get_snoc (X := X') k5 b
      have ss := fun b b' : Blk => set_snoc (X := X') k5 b b'
      have ls := fun b : Blk => len_snoc (X := X') k5 b
      have hcu : cutV l1 l2 = (⟨false, 1, l1, false, 1, l2⟩ : CutA).v := rfl
      rw [hcu] at k3
      have hun := (⟨false, 1, l1, false, 1, l2⟩ : CutA).under 0
      refine ⟨.tuple [(⟨false, 1, l1, false, 1, l2⟩ : CutA).v, .int .i64 0], .inr ⟨hz, hO, lo, hi, _, by rw [Int.toNat_natCast, Int.toNat_natCast]; exact he, ⟨.inr rfl, .inr rfl, by show l1.length < _; omega, by show l2.length < _; omega⟩, fitC_iff.2 ⟨k6, k7⟩, by rw [Int.toNat_natCast, Int.toNat_natCast, k8, Bool.or_true], rfl⟩, ?_⟩
      have : ∃ H', runT env 59 [T.v, .int .i64 r, .int .i64 c, .bool up] [] 0 = some (.ret (.tuple [(⟨false, 1, l1, false, 1, l2⟩ : CutA).v, .int .i64 0]), H') := by
        simp only [boxT, spV_eq] at k1 k2 k3 k4
        cases up with
        | true =>
          simp only [bndS, if_true] at pc k1
          rw [run_unfold fn59 rfl]
          simp only [go_sem, simprocAttr, Try.f59, ce, r0, c0, Int.toNat_natCast, q1, q2, q3, pc, k1, k2, k3, k4, k5, gs, ss, ls, Nat.lt_add_one, unwind, modeEx, resultsOf, one]
          exact ⟨_, rfl⟩
        | false =>
          simp only [bndS, Bool.false_eq_true, if_false] at pc k1
          rw [run_unfold fn59 rfl]
          simp only [go_sem, simprocAttr, Try.f59, ce, r0, c0, Int.toNat_natCast, q1, q2, q3, pc, k1, k2, k3, k4, k5, gs, ss, ls, Nat.lt_add_one, unwind, modeEx, resultsOf, one]
          exact ⟨_, rfl⟩
      obtain ⟨H', h⟩ := this
      exact fun ro H nx => call_pure rfl rfl rfl hu h (by simp [noRef, AVal.under, underL, hun]) ro H nx

set_option maxRecDepth 10000
set_option maxHeartbeats 4000000

def Cov (m : Nat) : List Foot → List Foot → Prop
  | [], [] => True
  | a :: l, b :: l' => (a.i = b.i ∧ (∀ x ∈ a.reads, min x m ∈ b.reads) ∧ ∀ x ∈ a.writes, min x m ∈ b.writes) ∧ Cov m l l'
  | _, _ => False
theorem meets_cov {m : Nat} {a b a' b' : List Nat} (ha : ∀ x ∈ a, min x m ∈ a') (hb : ∀ x ∈ b, min x m ∈ b') (h : meets a' b' = false) : meets a b = false := by
  simp only [meets, List.any_eq_false, List.contains_iff_mem] at h ⊢
  exact fun x hx hxb => h _ (ha x hx) (hb x hxb)
theorem apart_cov {m : Nat} {bf : Array Nat} : ∀ {l l' : List Foot}, Cov m l l' → apart bf l' = true → apart bf l = true
  | [], [], _, _ => rfl
  | a :: l, b :: l', ⟨⟨e, h1, h2⟩, hc⟩, h => by
    simp only [apart, Bool.and_eq_true] at h ⊢
    refine ⟨?_, apart_cov hc h.2⟩
    have key : ∀ (l l' : List Foot), Cov m l l' → (l'.all fun c => !clash b c || (bf.getD c.i 0).testBit b.i) = true → (l.all fun c => !clash a c || (bf.getD c.i 0).testBit a.i) = true := by
      intro l
      induction l with
      | nil => intro l' _ _; rfl
      | cons c l ih =>
        intro l' hc h
        cases l' with
        | nil => exact hc.elim
        | cons c' l' =>
          obtain ⟨⟨e2, k1, k2⟩, hc⟩ := hc
          simp only [List.all_cons, Bool.and_eq_true, Bool.or_eq_true] at h ⊢
          refine ⟨?_, ih l' hc h.2⟩
          rcases h.1 with h | h
          · left
            simp only [clash, Bool.not_eq_true', Bool.or_eq_false_iff] at h ⊢
            refine ⟨?_, ?_⟩ <;> first
              | exact meets_cov h2 (fun x hx => by
                  rw [List.mem_append] at hx ⊢
                  exact hx.imp (k1 x) (k2 x)) (by first | exact h.1 | exact h.2)
              | exact meets_cov k2 h1 (by first | exact h.1 | exact h.2)
              | exact meets_cov h1 k2 (by first | exact h.1 | exact h.2)
          · right
            rw [e, e2]; exact h
    exact key _ _ hc h.1
  | [], _ :: _, h, _ => h.elim
  | _ :: _, [], h, _ => h.elim
def cpFoot : List Foot := [⟨0, [], []⟩, ⟨1, [0], []⟩, ⟨2, [], []⟩, ⟨3, [], []⟩, ⟨4, [], []⟩, ⟨5, [], []⟩, ⟨6, [], []⟩, ⟨7, [], []⟩, ⟨8, [], []⟩, ⟨9, [], []⟩, ⟨10, [], []⟩, ⟨11, [], []⟩, ⟨12, [0], []⟩, ⟨13, [], []⟩, ⟨14, [], []⟩, ⟨15, [], []⟩, ⟨16, [], []⟩, ⟨17, [], [2]⟩, ⟨18, [1], []⟩, ⟨19, [0, 1, 2], []⟩, ⟨20, [], []⟩]
theorem consec_num {m : Nat} : ∀ (l : List Blk) (n : Nat), m ≤ n → consec m n (numbered n l) = true
  | [], _, _ => rfl
  | b :: l, n, h => by
    simp only [numbered, consec]
    rw [if_neg (by omega), beq_self_eq_true, Bool.true_and]
    exact consec_num l (n + 1) (by omega)
theorem num_ge : ∀ (l : List Blk) (n : Nat), ∀ x ∈ (numbered n l).map (fun x => x.1), n ≤ x
  | [], _, x, h => by simp [numbered] at h
  | b :: l, n, x, h => by
    simp only [numbered, List.map_cons, List.mem_cons] at h
    rcases h with rfl | h
    · exact Nat.le_refl _
    · have := num_ge l (n + 1) x h; omega

theorem looks_some {H : Heap} : ∀ (ids seen : List Nat) (n : Nat), (∀ id ∈ ids, ∃ g sz es, H[id]? = some (.cells g sz true es)) → ids.length ≤ n → ∃ l, looks H n ids seen = some l
  | [], seen, n, _, _ => by cases n <;> exact ⟨_, rfl⟩
  | id :: ids, seen, n, hf, hl => by
    obtain ⟨n, rfl⟩ : ∃ m, n = m + 1 := ⟨n - 1, by simp at hl; omega⟩
    obtain ⟨g, sz, es, hH⟩ := hf id (by simp)
    have ih := fun seen => looks_some (H := H) ids seen n (fun x hx => hf x (by simp [hx])) (by simp at hl; omega)
    simp only [looks, hH, if_true]
    split
    · exact ih _
    · exact ih _
theorem TbAt.looks {H : Heap} {a b q ga gb g : Nat} {ps : Nat → Nat} {t : Tab} (h : TbAt H a b q ga gb g ps t) (hR : t.R ≤ 8) : ∃ l, Tidy.looks H fuel0 [a, b, q] [] = some l := by
  have hab : b ≠ a := Ne.symm h.ab
  have haq : q ≠ a := Ne.symm h.aq
  have hbq : q ≠ b := Ne.symm h.bq
  have hrl : refsL (vecA t.R fun i => AVal.ref (ps i) 0 0 t.C false) = vecA t.R ps := by
    unfold vecA
    induction (List.range t.R) with
    | nil => rfl
    | cons i l ih => simp [refsL, AVal.refs, ih]
  obtain ⟨l, hl⟩ := looks_some (H := H) (vecA t.R ps) [a, b, q] 61 (fun id hid => by
    unfold vecA at hid
    obtain ⟨i, hi, rfl⟩ := List.mem_map.1 hid
    exact ⟨_, _, _, h.row i (List.mem_range.1 hi)⟩) (by rw [vecA_length]; omega)
  refine ⟨l, ?_⟩
  unfold fuel0
  simp [Tidy.looks, h.rows, h.cols, h.acc, hab, haq, hbq, hrl, hl]

theorem q_is {T : TabV} (hT : T.Wf) (hO : T.tab.Ok) {r c : Nat} (hr : r < T.tab.R) (hc : c < T.tab.C) {up : Bool} {n : Int} (hn0 : 0 ≤ n) (hn1 : n ≤ 2 ^ 30) (hp : plainB (T.tab.cell r c) up n = false)
    {cu : CutA} (hcu : cu.Wf) (h1 : cu.l1.length = T.tab.R) (h2 : cu.l2.length = T.tab.C) (B1 : Blk) :
    ∃ (g : Nat) (X : Heap) (lk : List Nat), looks (boxT T :: B1 :: X) fuel0 [6, 7, 14] [] = some lk ∧ callT env 116 [T.v, .int .i64 r, .int .i64 c, .bool up, .int .i64 n] 0 [boxT T, B1] 2 = some (.ret (.agg [.ref 6 0 0 T.tab.R false, .ref 7 0 0 T.tab.C false, .ref 14 g 0 T.tab.R false]), .ups (numbered 2 X)) ∧
      putU [boxT T, B1] (numbered 2 X) = boxT T :: B1 :: X ∧
      callT env 78 [.agg [.ref 6 0 0 T.tab.R false, .ref 7 0 0 T.tab.C false, .ref 14 g 0 T.tab.R false], cu.v] 0 (boxT T :: B1 :: X) (X.length + 1 + 1) = some (.ret (.bool (gapC (T.tab.setCell r c (quX (T.tab.cell r c) up n)) cu)), .ups []) := by
  have hbc := hO.cell_ok hr hc
  have hqx : (quX (T.tab.cell r c) up n).ok = true := quX_ok (by simp [Spn.ok]; omega) hn0 hn1 hp
  have hO2 : (T.tab.setCell r c (quX (T.tab.cell r c) up n)).Ok := setCell_ok hO hr hqx
  obtain ⟨g, ps, X, qc, hat, hps⟩ := question_call hT hO hr hc (up := up) hn0 hn1 0 [boxT T, B1]
  have H1 : ([boxT T, B1] : Heap).length = 2 := rfl
  have hpu := putU_end X [boxT T, B1]
  rw [H1] at qc hat hps hpu
  have hgap := is_run (canon_wf hO2.R8 hO2.C8 hO2.len hO2.wid) (by rw [canon_tab]; exact hO2) hcu (by rw [canon_tab]; exact h1) (by rw [canon_tab]; exact h2)
  rw [canon_tab] at hgap
  obtain ⟨Hm, mr⟩ := hgap
  obtain ⟨ids, hle⟩ := hat.lend (lits := [0, 1]) hO2.R8 hO2.len hO2.wid rfl (args := [cu.v]) (by simp [underL, CutA.under])
  obtain ⟨us, mc, hus⟩ := call_lent (f := 78) rfl rfl rfl rfl hle (tc_pure _ _) mr (handBack_noRef _ _ _ _ _ rfl) rfl (X.length + 1 + 1)
  have hus := hus rfl
  subst hus
  obtain ⟨lk, hlk⟩ := hat.looks hO2.R8
  exact ⟨g, X, lk, hlk, qc, hpu, mc⟩

theorem cp_call {T : TabV} (hT : T.Wf) (i k : Int) (up : Bool) (n : Int) {cu : CutA} (hcu : cu.Wf) (ro : Nat) (H : Heap) (nx : Nat) : callT env 60 [T.v, .int .i64 i, .int .i64 k, .bool up, .int .i64 n, cu.v] ro H nx = some (.ret (.int .i64 (cpS T.tab i k up n cu)), .ups []) := by
  have hu : underL 0 [T.v, .int .i64 i, .int .i64 k, .bool up, .int .i64 n, cu.v] = true := by simp [underL, AVal.under, TabV.under, CutA.under]
  have : ∃ H', runT env 60 [T.v, .int .i64 i, .int .i64 k, .bool up, .int .i64 n, cu.v] [] 0 = some (.ret (.int .i64 (cpS T.tab i k up n cu)), H') := by
    have ck := check_call T hT
    have fc := fits_call T cu
    have lr : T.rows.l.length = T.tab.R := rfl
    have lc : T.cols.l.length = T.tab.C := rfl
    have sh := share_call n
    unfold cpS badB
    rw [run_unfold fn60 rfl]
    cases hok : T.tab.ok with
    | false =>
      simp only [go_sem, simprocAttr, Try.f60, ck, ckS_no hok, unwind, modeEx, resultsOf, one, Bool.false_eq_true, if_false]
      exact ⟨_, rfl⟩
    | true =>
      cases ho : outB T.tab i k with
      | true =>
        cases d1 : decide (i < 0) <;> cases d2 : decide ((T.tab.R : Int) ≤ i) <;> cases d3 : decide (k < 0) <;> cases d4 : decide ((T.tab.C : Int) ≤ k) <;>
          first
          | (exfalso; unfold outB at ho; rw [d1, d2, d3, d4] at ho; exact Bool.noConfusion ho)
          | (simp only [go_sem, simprocAttr, Try.f60, ck, ckS_ok hok, List.length_map, lr, lc, d1, d2, d3, d4, unwind, modeEx, resultsOf, one, if_true, Bool.true_or]
             exact ⟨_, rfl⟩)
      | false =>
        have d : decide (i < 0) = false ∧ decide ((T.tab.R : Int) ≤ i) = false ∧ decide (k < 0) = false ∧ decide ((T.tab.C : Int) ≤ k) = false := by
          unfold outB at ho
          simpa only [Bool.or_eq_false_iff] using ho
        obtain ⟨d1, d2, d3, d4⟩ := d
        cases hb : decide (0 ≤ n) && decide (n ≤ 2 ^ 30) with
        | false =>
          rw [hb] at sh
          simp only [go_sem, simprocAttr, Try.f60, ck, ckS_ok hok, List.length_map, lr, lc, d1, d2, d3, d4, sh, hb, unwind, modeEx, resultsOf, one, if_true, Bool.false_or, Bool.not_false]
          exact ⟨_, rfl⟩
        | true =>
          rw [hb] at sh
          cases hf : fitC T.tab cu with
          | false =>
            rw [hf] at fc
            simp only [go_sem, simprocAttr, Try.f60, ck, ckS_ok hok, List.length_map, lr, lc, d1, d2, d3, d4, sh, hb, fc, unwind, modeEx, resultsOf, one, if_true, Bool.false_or, Bool.not_true, Bool.false_eq_true, if_false]
            exact ⟨_, rfl⟩
          | true =>
            rw [hf] at fc
            have hO := Tab.ok_iff.1 hok
            obtain ⟨h1, h2⟩ := fitC_iff.1 hf
            rw [Bool.and_eq_true, decide_eq_true_eq, decide_eq_true_eq] at hb
            obtain ⟨hn0, hn1⟩ := hb
            have hb : (decide (0 ≤ n) && decide (n ≤ 2 ^ 30)) = true := by rw [Bool.and_eq_true, decide_eq_true_eq, decide_eq_true_eq]; exact ⟨hn0, hn1⟩
            obtain ⟨r, c, rfl, rfl, hr, hc⟩ := outB_no ho
            have r0 : (0 : Int) ≤ (r : Int) := by omega
            have c0 : (0 : Int) ≤ (c : Int) := by omega
            obtain ⟨s, _, q1, q2, q3, _, _⟩ := TabV.at hT hO hr hc
            have q3 := eq_true q3
            have pc := plain_call (T.tab.cell r c) up n
            rw [Int.toNat_natCast, Int.toNat_natCast]
            cases hp : plainB (T.tab.cell r c) up n with
            | true =>
              rw [hp] at pc
              simp only [go_sem, simprocAttr, Try.f60, ck, ckS_ok hok, List.length_map, lr, lc, d1, d2, d3, d4, sh, hb, fc, r0, c0, Int.toNat_natCast, q1, q2, q3, pc, unwind, modeEx, resultsOf, one, if_true, Bool.false_or, Bool.not_true, Bool.false_eq_true, if_false, Bool.true_or]
              exact ⟨_, rfl⟩
            | false =>
              rw [hp] at pc
              obtain ⟨g, X, lk, k0, k1, k2, k3⟩ := q_is hT hO hr hc hn0 hn1 hp hcu h1 h2 (.cells 0 2 false [cu.v])
              simp only [boxT] at k0 k1 k2 k3
              have z1 : decide (1 < X.length + 1 + 1) = true := decide_eq_true (by omega)
              have z2 : consec 2 2 (numbered 2 X) = true := consec_num X 2 (Nat.le_refl _)
              have hW : ∀ x ∈ (numbered 2 X).map (fun x => x.1), min x 2 = 2 := fun x hx => by have := num_ge X 2 x hx; omega
              cases hg : gapC (T.tab.setCell r c (quX (T.tab.cell r c) up n)) cu <;> rw [hg] at k3 <;>
                (simp only [go_sem, simprocAttr, Try.f60, ck, ckS_ok hok, List.length_map, lr, lc, d1, d2, d3, d4, sh, hb, fc, r0, c0, Int.toNat_natCast, q1, q2, q3, pc, k0, k1, k2, k3, z1, z2, unwind, modeEx, resultsOf, one, if_true, Bool.false_or, Bool.not_true, Bool.false_eq_true, if_false]
                 rw [apart_ok]
                 · simp only [go_sem, simprocAttr, unwind, modeEx, resultsOf, one]
                   exact ⟨_, rfl⟩
                 · generalize (numbered 2 X).map (fun x => x.1) = W at hW ⊢
                   refine apart_cov (m := 2) (l' := cpFoot) ?_ (apart_of_V (by kernel_rfl))
                   have hlt : ∀ x ∈ lk, x = 0 ∨ min x 2 = 1 ∨ min x 2 = 2 := fun x _ => by omega
                   simp [Cov, cpFoot]
                   exact ⟨hW, hlt⟩)
  obtain ⟨H', h⟩ := this
  exact call_pure rfl rfl rfl hu h rfl ro H nx

set_option maxRecDepth 10000
set_option maxHeartbeats 4000000

theorem cpS_zero {t : Tab} {i k : Int} {up : Bool} {n : Int} {c : CutA} (hO : t.Ok) (ho : outB t i k = false) (h0 : 0 ≤ n) (h1 : n ≤ 2 ^ 30) (hf : fitC t c = true) (hg : (plainB (t.cell i.toNat k.toNat) up n || gapC (t.setCell i.toNat k.toNat (quX (t.cell i.toNat k.toNat) up n)) c) = true) : cpS t i k up n c = 0 := by
  unfold cpS badB
  rw [Tab.ok_iff.2 hO, ho, hf, hg]
  simp only [decide_eq_true h0, decide_eq_true h1, Bool.and_self, Bool.not_true, Bool.or_false, Bool.false_eq_true, if_true, if_false]

theorem proof_law (a0 a1 a2 a3 a4 a5 : List AVal) (h0 : FitT env 8 25 a0) (h1 : FitT env 8 3 a1) (h2 : FitT env 8 3 a2) (h3 : FitT env 8 4 a3) (h4 : FitT env 8 3 a4) (h5 : FitT env 8 28 a5) : ∃ H', runT env 16 [pack ⟨.struct [(22, 0), (22, 1), (23, 2)], 3, 72, .agg [.lit true 0 [], .lit true 0 [], .lit true 0 []]⟩ a0, pack ⟨.int .i64, 1, 8, .int .i64 (0)⟩ a1, pack ⟨.int .i64, 1, 8, .int .i64 (0)⟩ a2, pack ⟨.bool, 1, 1, .bool false⟩ a3, pack ⟨.int .i64, 1, 8, .int .i64 (0)⟩ a4, pack ⟨.struct [(26, 0), (26, 1)], 2, 48, .agg [.lit true 0 [], .lit true 0 []]⟩ a5] [] 0 = some (.ret (.bool true), H') := by
  obtain ⟨T, hT, e0⟩ := fit_tab (m := 3) h0
  obtain ⟨i, rfl, _⟩ := fit_int ti3 h1
  obtain ⟨k, rfl, _⟩ := fit_int ti3 h2
  obtain ⟨up, rfl⟩ := fit_bool h3
  obtain ⟨n, rfl, _⟩ := fit_int ti3 h4
  obtain ⟨cu, hcu, e5⟩ := fit_cut (m := 5) h5
  show ∃ H', runT env 16 [.agg a0, .int .i64 i, .int .i64 k, .bool up, .int .i64 n, .agg a5] [] 0 = some (.ret (.bool true), H')
  rw [e0, e5]
  have sc := small_call T
  obtain ⟨v, hv, _⟩ := cellE_call hT i k
  have rc := rCell_call hT i k hv
  obtain ⟨w, hw, pc⟩ := proof_call hT i k up
  have c1 := cp_call hT i k up n hcu
  have c2 := rcp_call hT i k up n hcu
  have eqq : decide (cpS T.tab i k up n cu = cpS T.tab i k up n cu) = true := decide_eq_true rfl
  rw [run_unfold fn16 rfl]
  cases hs : smallB T.tab with
  | false =>
    simp only [go_sem, simprocAttr, Try.f16, sc, hs, unwind, modeEx, resultsOf, one]
    exact ⟨_, rfl⟩
  | true =>
    rcases hw with ⟨hz, rfl⟩ | ⟨hz, hO, lo, hi, c, he, hc, hf, hg, rfl⟩
    · rcases hv with ⟨_, rfl⟩ | ⟨hz', _⟩
      · have d1 : decide (askS T.tab i k = 0) = false := decide_eq_false hz
        have d2 : decide (askS T.tab i k = askS T.tab i k) = true := decide_eq_true rfl
        simp only [go_sem, simprocAttr, Try.f16, sc, hs, rc, pc, c1, c2, eqq, d1, d2, unwind, modeEx, resultsOf, one]
        exact ⟨_, rfl⟩
      · exact absurd hz' hz
    · rcases hv with ⟨hz', _⟩ | ⟨_, _, lo', hi', he', rfl⟩
      · exact absurd hz hz'
      · obtain ⟨rfl, rfl⟩ := he'.unique he
        obtain ⟨_, _, ho⟩ := askS_zero hz
        obtain ⟨r, cc, rfl, rfl, hr, hcc⟩ := outB_no ho
        rw [Int.toNat_natCast, Int.toNat_natCast] at he
        obtain ⟨e1, e2⟩ := ends_cell hr hcc he
        obtain ⟨a1, a2⟩ := e1.range hr hcc
        obtain ⟨b1, b2⟩ := e2.range hr hcc
        have hbc := hO.cell_ok hr hcc
        cases up with
        | true =>
          have c3 := rcp_call hT r cc true hi' hc
          rw [cpS_zero hO ho (by omega) (by omega) hf (by simpa only [bndS, if_true, Bool.false_eq_true, if_false] using hg)] at c3
          simp only [go_sem, simprocAttr, Try.f16, sc, hs, rc, pc, c1, c2, c3, eqq, unwind, modeEx, resultsOf, one]
          exact ⟨_, rfl⟩
        | false =>
          have c3 := rcp_call hT r cc false lo' hc
          rw [cpS_zero hO ho (by omega) (by omega) hf (by simpa only [bndS, if_true, Bool.false_eq_true, if_false] using hg)] at c3
          simp only [go_sem, simprocAttr, Try.f16, sc, hs, rc, pc, c1, c2, c3, eqq, unwind, modeEx, resultsOf, one]
          exact ⟨_, rfl⟩
end Go.Proofs.Ytgfejpngfikjiaa.Tidy

