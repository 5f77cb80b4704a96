/-
  What the functions that SharesTurned reaches compute; the law, run.
-/
import Derived.Test.YtgfejpngfikjiaaCf
import Derived.Test.YtgfejpngfikjiaaCb
import Derived.Test.YtgfejpngfikjiaaCd
import Derived.Test.YtgfejpngfikjiaaCe
set_option linter.all false
namespace Go.Proofs.Ytgfejpngfikjiaa.Tidy
open Go Go.IntWalk
set_option maxRecDepth 10000
set_option linter.unusedSimpArgs false
set_option maxHeartbeats 4000000

theorem sz_at {s : SlV} (h : s.l = [] ∨ s.sz = 2) {i : Nat} (hi : i < s.l.length) : s.sz = 2 := by
  rcases h with h | h
  · rw [h] at hi; simp at hi
  · exact h

theorem sm_loop {s u : SlV} (hs : s.l = [] ∨ s.sz = 2) (hu : u.l = [] ∨ u.sz = 2) (he : s.l = u.l) (hlen : s.l.length < 2 ^ 62) : ∀ (n i : Nat) (j2 j3 j6 j7 j8 j9 j10 j11 j12 j13 j14 j15 j16 j17 j18 j19 j20 j21 j22 j23 j24 j25 : AVal), i + n = s.l.length →
    Goes (execT env (Try.f114.at [1, 1, 0, 1, 0]) ⟨[s.v, u.v, j2, j3, .bool false, .int .i64 i, j6, j7, j8, j9, j10, j11, j12, j13, j14, j15, j16, j17, j18, j19, j20, j21, j22, j23, j24, j25], [], [], 0, []⟩) fun ex st =>
      ex = .exit 0 ∧ FrP 26 [] [] [] 0 [] st := by
  intro n
  induction n with
  | zero =>
    intro i; intros; rename_i hi
    have hd : decide ((i : Int) < (s.l.length : Int)) = false := by simp; omega
    simp only [go_sem, simprocAttr, Try.f114, SlV.v]
    rw [exec_loop]
    simp only [go_sem, simprocAttr, List.length_map, hd]
    exact frP (by kernel_rfl)
  | succ n ih =>
    intro i; intros; rename_i hi
    have hd : decide ((i : Int) < (s.l.length : Int)) = true := by simp; omega
    have i0 : (0 : Int) ≤ (i : Int) := by omega
    obtain ⟨x, hx⟩ : ∃ x, s.l[i]? = some x := ⟨s.l[i], List.getElem?_eq_getElem (by omega)⟩
    have g1 : (s.l.map spV)[i]? = some (spV x) := by rw [List.getElem?_map, hx]; rfl
    have g2 : (u.l.map spV)[i]? = some (spV x) := by rw [← he]; exact g1
    have z1 := eq_true (sz_at hs (i := i) (by omega))
    have z2 := eq_true (sz_at hu (i := i) (by rw [← he]; omega))
    have dd : ∀ x : Int, decide (x = x) = true := fun x => decide_eq_true rfl
    have ih' := ih (i + 1)
    simp only [go_sem, simprocAttr, Try.f114, SlV.v] at ih' ⊢
    rw [exec_loop]
    simp only [go_sem, simprocAttr, List.length_map, hd, i0, Int.toNat_natCast, g1, g2, z1, z2, neq_spV, dd, trunc, wrap_succ (show i < 2 ^ 63 - 1 by omega)]
    exact ih' _ _ _ _ _ _ _ _ _ _ _ _ _ _ _ _ _ _ _ _ _ _ (by omega)

theorem same_call {s u : SlV} (hs : s.l = [] ∨ s.sz = 2) (hu : u.l = [] ∨ u.sz = 2) (he : s.l = u.l) (hlen : s.l.length < 2 ^ 62) (ro : Nat) (H : Heap) (nx : Nat) : callT env 114 [s.v, u.v] ro H nx = some (.ret (.bool true), .ups []) := by
  have : ∃ H', runT env 114 [s.v, u.v] [] 0 = some (.ret (.bool true), H') := by
    obtain ⟨ex, st, hx, hp⟩ := sm_loop hs hu he hlen s.l.length 0 _ _ _ _ _ _ _ _ _ _ _ _ _ _ _ _ _ _ _ _ _ _ (by omega)
    obtain ⟨rfl, jp, rfl⟩ := hp
    have hd : decide ((s.l.length : Int) = (u.l.length : Int)) = true := by rw [he]; exact decide_eq_true rfl
    simp only [go_sem, simprocAttr, Try.f114, SlV.v, Int.ofNat_zero, Int.natCast_zero] at hx
    rw [run_unfold fn114 rfl]
    simp only [go_sem, simprocAttr, Try.f114, SlV.v, List.length_map, hd]
    rw [hx]
    simp only [go_sem, simprocAttr, unwind, modeEx, resultsOf, one]
    exact ⟨_, rfl⟩
  obtain ⟨H', h⟩ := this
  have hp : ∀ s : SlV, s.v.under 0 = true := fun s => rfl
  exact call_pure rfl rfl rfl (by simp [underL, hp]) h rfl ro H nx

theorem Sm_loop {T U : TabV} (hT : T.Wf) (hU : U.Wf) (he : T.tab = U.tab) (hl : ∀ s ∈ T.cells, s.l.length < 2 ^ 62) (hcl : T.cells.length < 2 ^ 62) : ∀ (n i : Nat) (j0 j1 j6 j7 j8 j9 j10 j11 j12 j13 j14 j15 j16 j17 j18 j19 j20 j21 j22 j23 j24 j25 j26 j27 j28 j29 j30 j31 j32 j33 j34 j35 j36 j37 j38 j39 j40 j41 j42 j43 j44 j45 j46 j47 : AVal), i + n = T.cells.length →
    Goes (execT env (Try.f52.at [1, 1, 0, 1, 0]) ⟨[j0, j1, .ptr 0 0 0 0, .ptr 1 0 0 0, .bool false, .int .i64 i, j6, j7, j8, j9, j10, j11, j12, j13, j14, j15, j16, j17, j18, j19, j20, j21, j22, j23, j24, j25, j26, j27, j28, j29, j30, j31, j32, j33, j34, j35, j36, j37, j38, j39, j40, j41, j42, j43, j44, j45, j46, j47], [boxT T, boxT U], [], 0, []⟩) fun ex st =>
      ex = .exit 0 ∧ FrP 48 [] [boxT T, boxT U] [] 0 [] st := by
  have hc : T.cells.map (·.l) = U.cells.map (·.l) := congrArg Tab.cells he
  have hlu : U.cells.length = T.cells.length := by have := congrArg List.length hc; simpa using this.symm
  intro n
  induction n with
  | zero =>
    intro i; intros; rename_i hi
    have hd : decide ((i : Int) < (T.cells.length : Int)) = false := by simp; omega
    simp only [go_sem, simprocAttr, Try.f52, boxT]
    rw [exec_loop]
    simp only [go_sem, simprocAttr, List.length_map, hd]
    exact frP (by kernel_rfl)
  | succ n ih =>
    intro i; intros; rename_i hi
    have hiT : i < T.cells.length := by omega
    have hd : decide ((i : Int) < (T.cells.length : Int)) = true := by simp; omega
    have i0 : (0 : Int) ≤ (i : Int) := by omega
    obtain ⟨s, hs⟩ : ∃ x, T.cells[i]? = some x := ⟨T.cells[i], List.getElem?_eq_getElem hiT⟩
    obtain ⟨u, hu⟩ : ∃ x, U.cells[i]? = some x := ⟨U.cells[i]'(by omega), List.getElem?_eq_getElem (by omega)⟩
    have hsu : s.l = u.l := by
      have := congrArg (fun l => l[i]?) hc
      simpa [hs, hu] using this
    have g1 : (T.cells.map SlV.v)[i]? = some s.v := by rw [List.getElem?_map, hs]; rfl
    have g2 : (U.cells.map SlV.v)[i]? = some u.v := by rw [List.getElem?_map, hu]; rfl
    have z1 : (T.sz = 1) = True := eq_true (by
      rcases hT.cells with h | h
      · rw [h] at hiT; simp at hiT
      · exact h)
    have z2 : (U.sz = 1) = True := eq_true (by
      rcases hU.cells with h | h
      · rw [h] at hlu; simp at hlu; omega
      · exact h)
    have sc := same_call (hT.each s (List.mem_of_getElem? hs)) (hU.each u (List.mem_of_getElem? hu)) hsu (hl s (List.mem_of_getElem? hs))
    have ih' := ih (i + 1)
    simp only [SlV.v] at g1 g2 sc
    simp only [go_sem, simprocAttr, Try.f52, boxT] at ih' ⊢
    rw [exec_loop]
    simp only [go_sem, simprocAttr, List.length_map, hd, i0, Int.toNat_natCast, g1, g2, z1, z2, sc, trunc, wrap_succ (show i < 2 ^ 63 - 1 by omega)]
    exact ih' _ _ _ _ _ _ _ _ _ _ _ _ _ _ _ _ _ _ _ _ _ _ _ _ _ _ _ _ _ _ _ _ _ _ _ _ _ _ _ _ _ _ _ _ (by omega)

theorem Same_call {T U : TabV} (hT : T.Wf) (hU : U.Wf) (he : T.tab = U.tab) (hr : T.rows.l.length < 2 ^ 62) (hc : T.cols.l.length < 2 ^ 62) (hl : ∀ s ∈ T.cells, s.l.length < 2 ^ 62) (hcl : T.cells.length < 2 ^ 62) (ro : Nat) (H : Heap) (nx : Nat) : callT env 52 [T.v, U.v] ro H nx = some (.ret (.bool true), .ups []) := by
  have : ∃ H', runT env 52 [T.v, U.v] [] 0 = some (.ret (.bool true), H') := by
    obtain ⟨ex, st, hx, hp⟩ := Sm_loop hT hU he hl hcl T.cells.length 0 _ _ _ _ _ _ _ _ _ _ _ _ _ _ _ _ _ _ _ _ _ _ _ _ _ _ _ _ _ _ _ _ _ _ _ _ _ _ _ _ _ _ _ _ (by omega)
    obtain ⟨rfl, jp, rfl⟩ := hp
    have s1 := same_call hT.rows hU.rows (congrArg Tab.rows he) hr
    have s2 := same_call hT.cols hU.cols (congrArg Tab.cols he) hc
    have hcc : T.cells.map (·.l) = U.cells.map (·.l) := congrArg Tab.cells he
    have hd : decide ((T.cells.length : Int) = (U.cells.length : Int)) = true := by
      have := congrArg List.length hcc
      simp only [List.length_map] at this
      rw [this]; exact decide_eq_true rfl
    simp only [SlV.v] at s1 s2
    simp only [go_sem, simprocAttr, Try.f52, boxT, Int.ofNat_zero, Int.natCast_zero] at hx
    rw [run_unfold fn52 rfl]
    simp only [go_sem, simprocAttr, Try.f52, s1, s2, List.length_map, hd]
    rw [hx]
    simp only [go_sem, simprocAttr, unwind, modeEx, resultsOf, one]
    exact ⟨_, rfl⟩
  obtain ⟨H', h⟩ := this
  exact call_pure rfl rfl rfl (by simp [underL, TabV.under]) h rfl ro H nx
end Go.Proofs.Ytgfejpngfikjiaa.Tidy

namespace Go.Proofs.Ytgfejpngfikjiaa.Tidy
open Go

abbrev RowD := Nat × List AVal

def rowT (sz : Nat) : Nat → List RowD → Heap
  | _, [] => []
  | p, r :: rs => .cells r.1 sz true r.2 :: .cells 0 1 false [.ref p r.1 0 r.2.length false] :: rowT sz (p + 2) rs
def rowR : Nat → List RowD → List AVal
  | _, [] => []
  | p, r :: rs => .ref p r.1 0 r.2.length false :: rowR (p + 2) rs

theorem rowT_length (sz : Nat) : ∀ (rs : List RowD) (p : Nat), (rowT sz p rs).length = 2 * rs.length
  | [], _ => rfl
  | r :: rs, p => by simp only [rowT, List.length_cons, rowT_length sz rs]; omega
theorem rowR_length : ∀ (rs : List RowD) (p : Nat), (rowR p rs).length = rs.length
  | [], _ => rfl
  | r :: rs, p => by simp only [rowR, List.length_cons, rowR_length rs]
theorem rowT_snoc (sz : Nat) (r : RowD) : ∀ (rs : List RowD) (p : Nat), rowT sz p (rs ++ [r]) = rowT sz p rs ++ [.cells r.1 sz true r.2, .cells 0 1 false [.ref (p + 2 * rs.length) r.1 0 r.2.length false]]
  | [], p => rfl
  | x :: rs, p => by
    simp only [List.cons_append, rowT, rowT_snoc sz r rs, List.length_cons]
    rw [show p + 2 + 2 * rs.length = p + 2 * (rs.length + 1) by omega]
theorem rowR_snoc (r : RowD) : ∀ (rs : List RowD) (p : Nat), rowR p (rs ++ [r]) = rowR p rs ++ [.ref (p + 2 * rs.length) r.1 0 r.2.length false]
  | [], p => rfl
  | x :: rs, p => by
    simp only [List.cons_append, rowR, rowR_snoc r rs, List.length_cons]
    rw [show p + 2 + 2 * rs.length = p + 2 * (rs.length + 1) by omega]
theorem rowT_get (sz : Nat) : ∀ (rs : List RowD) (p i : Nat) (r : RowD), rs[i]? = some r → (rowT sz p rs)[2 * i]? = some (.cells r.1 sz true r.2)
  | [], _, i, r, h => by simp at h
  | x :: rs, p, 0, r, h => by simp at h; subst h; rfl
  | x :: rs, p, i + 1, r, h => by
    simp only [List.getElem?_cons_succ] at h
    have := rowT_get sz rs (p + 2) i r h
    rw [show 2 * (i + 1) = 2 * i + 1 + 1 by omega]
    simpa [rowT] using this
theorem rowR_get : ∀ (rs : List RowD) (p i : Nat) (r : RowD), rs[i]? = some r → (rowR p rs)[i]? = some (.ref (p + 2 * i) r.1 0 r.2.length false)
  | [], _, i, r, h => by simp at h
  | x :: rs, p, 0, r, h => by simp at h; subst h; rfl
  | x :: rs, p, i + 1, r, h => by
    simp only [List.getElem?_cons_succ] at h
    have := rowR_get rs (p + 2) i r h
    rw [show p + 2 * (i + 1) = p + 2 + 2 * i by omega]
    simpa [rowR] using this

def accR (g p : Nat) (rs : List RowD) : Blk := if rs = [] then .cells 0 0 false [] else .cells g 1 false (rowR p rs)
def gR (g : Nat) (rs : List RowD) : Nat := if rs = [] then 0 else g
theorem accR_nil (g p : Nat) : accR g p [] = .cells 0 0 false [] := rfl
theorem gR_nil (g : Nat) : gR g [] = 0 := rfl

theorem append_row {t e n m : Nat} {z : AVal} {te : TI} (ht : env.ti t = some ⟨.slice e, n, m, z⟩) (he : env.ti e = some te) (hz : te.sz = 1 ∧ te.bytes = 24 ∧ te.zero.cellsOf.length = 1 ∧ te.zero.isTuple = false) (hfl : flatTy env 8 e = false)
    {H : Heap} {q j g p : Nat} {rs : List RowD} {r : RowD} {cl : Bool} (hH : H[q]? = some (accR g p rs)) (hj : H[j]? = some (.cells 0 1 false [.ref (p + 2 * rs.length) r.1 0 r.2.length false])) (hb : rs.length < 2 ^ 20) (nx : Nat) {ro : Nat} (hro : ro ≤ q) :
    ∃ g', appendOp env ro nx t (.ref q (gR g rs) 0 rs.length false) (.ref j 0 0 1 cl) H = some (.ref q (gR g' (rs ++ [r])) 0 (rs ++ [r]).length false, [(q, accR g' p (rs ++ [r]))]) := by
  have hne : ∀ l : List RowD, l ++ [r] ≠ [] := by simp
  obtain ⟨z1, z2, z3, z4⟩ := hz
  have hel : elems H (.ref j 0 0 1 cl) = some (1, [.ref (p + 2 * rs.length) r.1 0 r.2.length false]) := by simp [elems, hj]
  by_cases h : rs = []
  · subst h
    refine ⟨1, ?_⟩
    simp only [List.length_nil] at hel
    simp only [accR, gR, if_true, List.nil_append] at hH ⊢
    simp [appendOp, ht, he, hel, z1, z2, z3, z4, hH, hfl, hro, rowR, maxBytes]
  · have hgr := append_ref (E := env) (ro := ro) (nx := nx) (t := t) (e := e) (n := n) (m := m) (z := z) (te := te) (H := H) (id := q) (g := g) (len := rs.length) (x := .ref j 0 0 1 cl) (nsz := 1) (new := [.ref (p + 2 * rs.length) r.1 0 r.2.length false]) (fl := false) (bs := rowR p rs) ht he hel ⟨by omega, by omega, z4⟩ z1.symm (by simp)
      (by rw [hH, accR, if_neg h, z1]) (rowR_length rs p) (List.length_pos_iff.2 h) hro (by rw [z2]; simp only [List.length_singleton, maxBytes]; omega) (fun h => by cases h)
    refine ⟨g + 1, ?_⟩
    simp only [gR, if_neg h, if_neg (hne rs), accR]
    rw [hgr, z1, rowR_snoc]
    simp

def rwH (A B : Heap) (g sz : Nat) (rs : List RowD) : Heap := A ++ (accR g (A.length + 1 + B.length) rs :: (B ++ rowT sz (A.length + 1 + B.length) rs))

section
variable {A B : Heap} {g sz : Nat} {rs : List RowD}
theorem rwH_len : (rwH A B g sz rs).length = A.length + 1 + B.length + 2 * rs.length := by
  simp only [rwH, List.length_append, List.length_cons, rowT_length]; omega
theorem rwH_acc (Z : Heap) : (rwH A B g sz rs ++ Z)[A.length]? = some (accR g (A.length + 1 + B.length) rs) := by
  simp [rwH]
theorem rwH_row (Z : Heap) {i : Nat} {r : RowD} (h : rs[i]? = some r) : (rwH A B g sz rs ++ Z)[A.length + 1 + B.length + 2 * i]? = some (.cells r.1 sz true r.2) := by
  have hi : i < rs.length := (List.getElem?_eq_some_iff.1 h).1
  have hl := rowT_length sz rs (A.length + 1 + B.length)
  unfold rwH
  rw [List.append_assoc, List.getElem?_append_right (by omega), show A.length + 1 + B.length + 2 * i - A.length = B.length + 2 * i + 1 by omega, List.cons_append, List.getElem?_cons_succ, List.append_assoc, List.getElem?_append_right (by omega), show B.length + 2 * i - B.length = 2 * i by omega, List.getElem?_append_left (by omega)]
  exact rowT_get sz rs _ i r h
theorem rwH_push {r : RowD} (g' : Nat) : ((rwH A B g sz rs ++ [Blk.cells r.1 sz true r.2]) ++ [Blk.cells 0 1 false [.ref (A.length + 1 + B.length + 2 * rs.length) r.1 0 r.2.length false]]).set A.length (accR g' (A.length + 1 + B.length) (rs ++ [r])) = rwH A B g' sz (rs ++ [r]) := by
  unfold rwH
  rw [List.append_assoc, List.append_assoc, List.set_append_right _ _ (by omega), Nat.sub_self, List.cons_append, List.set_cons_zero, rowT_snoc]
  simp
theorem rwH_trunc {r : RowD} {m : Nat} (hm : m = A.length + 1 + B.length + 2 * rs.length) (T : List AVal) (ro : Nat) (V : List Nat) : trunc m ⟨T, rwH A B g sz (rs ++ [r]), [], ro, V⟩ = ⟨T, rwH A B g sz (rs ++ [r]), [], ro, V⟩ := by
  have hr : rs ++ [r] ≠ [] := by simp
  unfold trunc
  have h1 : ¬ (rwH A B g sz (rs ++ [r])).length ≤ m := by rw [rwH_len, List.length_append, List.length_singleton]; omega
  have h2 : ((rwH A B g sz (rs ++ [r])).take m).all (underB m) = false := by
    cases h : ((rwH A B g sz (rs ++ [r])).take m).all (underB m) with
    | false => rfl
    | true =>
      have h3 : ((rwH A B g sz (rs ++ [r])).take m)[A.length]? = some (.cells g 1 false (rowR (A.length + 1 + B.length) (rs ++ [r]))) := by
        rw [List.getElem?_take, if_pos (by omega)]
        have := rwH_acc (A := A) (B := B) (g := g) (sz := sz) (rs := rs ++ [r]) []
        rw [List.append_nil] at this
        rw [this, accR, if_neg hr]
      have h4 := List.all_eq_true.1 h _ (List.mem_of_getElem? h3)
      simp only [underB, Bool.false_or] at h4
      have h5 : (rowR (A.length + 1 + B.length) (rs ++ [r]))[rs.length]? = some (.ref (A.length + 1 + B.length + 2 * rs.length) r.1 0 r.2.length false) := rowR_get _ _ _ _ (by simp)
      have h6 := underL_mem h4 _ (List.mem_of_getElem? h5)
      simp only [AVal.under, decide_eq_true_eq] at h6
      omega
  simp only [h1, if_false, h2, Bool.false_and, Bool.false_eq_true]
end

theorem trunc_keep {m : Nat} {T : List AVal} {H : Heap} {df : List (Nat × List AVal)} {ro : Nat} {V : List Nat} {i g sz : Nat} {es : List AVal} {p g' o n : Nat} {cl : Bool} (hi : i < m) (hb : H[i]? = some (.cells g sz false es)) (hr : AVal.ref p g' o n cl ∈ es) (hp : m ≤ p) : trunc m ⟨T, H, df, ro, V⟩ = ⟨T, H, df, ro, V⟩ := by
  unfold trunc
  by_cases h1 : H.length ≤ m
  · simp only [h1, if_true]
  · have h2 : (H.take m).all (underB m) = false := by
      cases h : (H.take m).all (underB m) with
      | false => rfl
      | true =>
        have h3 : (H.take m)[i]? = some (.cells g sz false es) := by rw [List.getElem?_take, if_pos hi, hb]
        have h4 := List.all_eq_true.1 h _ (List.mem_of_getElem? h3)
        simp only [underB, Bool.false_or] at h4
        have h5 := underL_mem h4 _ hr
        simp only [AVal.under, decide_eq_true_eq] at h5
        omega
    simp only [h1, if_false, h2, Bool.false_and, Bool.false_eq_true]

theorem mapO_rows {H : Heap} {ok : Nat → Bool} {sz n : Nat} : ∀ (rs : List RowD) (p : Nat), (∀ i r, rs[i]? = some r → H[p + 2 * i]? = some (.cells r.1 sz true r.2)) → (∀ j, p ≤ j → ok j = true) → mapO (toLit ok H (n + 1)) (rowR p rs) = some (rs.map fun r => .lit false sz r.2)
  | [], _, _, _ => rfl
  | r :: rs, p, h, hok => by
    have h0 := h 0 r rfl
    have ih := mapO_rows (H := H) (ok := ok) (sz := sz) (n := n) rs (p + 2) (fun i x hx => by
      have := h (i + 1) x (by simpa using hx)
      rw [show p + 2 + 2 * i = p + 2 * (i + 1) by omega]; exact this) fun j hj => hok j (by omega)
    simp only [Nat.mul_zero, Nat.add_zero] at h0
    have ht : (r.2.drop 0).take r.2.length = r.2 := by simp
    simp only [rowR, mapO, ih, List.map_cons]
    simp [toLit, noRef, AVal.under, h0, hok p (Nat.le_refl _)]

theorem set_snoc {X : Heap} {nx : Nat} (hX : X.length = nx) (b b' : Blk) : (X ++ [b]).set nx b' = X ++ [b'] := by
  subst hX
  rw [List.set_append_right _ _ (by omega), Nat.sub_self]; rfl
theorem get_snoc {X : Heap} {nx : Nat} (hX : X.length = nx) (b : Blk) : (X ++ [b])[nx]? = some b := by
  subst hX; simp
theorem len_snoc {X : Heap} {nx : Nat} (hX : X.length = nx) (b : Blk) : (X ++ [b]).length = nx + 1 := by simp [hX]
theorem low_snoc {X : Heap} {nx i : Nat} (hX : X.length = nx) (b : Blk) (hi : i < nx) : (X ++ [b])[i]? = X[i]? := by
  rw [List.getElem?_append_left (by omega)]

def rowsLit (sz : Nat) (rs : List RowD) : AVal := .lit false (if rs = [] then 0 else 1) (rs.map fun r => .lit false sz r.2)

theorem toLit_rows {A B Z : Heap} {ok : Nat → Bool} {g sz n : Nat} {rs : List RowD} (h1 : ok A.length = true) (h2 : ∀ j, A.length + 1 + B.length ≤ j → ok j = true) : toLit ok (rwH A B g sz rs ++ Z) (n + 2) (.ref A.length (gR g rs) 0 rs.length false) = some (rowsLit sz rs) := by
  have ha := rwH_acc (A := A) (B := B) (g := g) (sz := sz) (rs := rs) Z
  by_cases h : rs = []
  · subst h
    rw [accR_nil] at ha
    simp [toLit, noRef, AVal.under, ha, h1, gR, mapO, rowsLit]
  · rw [accR, if_neg h] at ha
    have hm := mapO_rows (H := rwH A B g sz rs ++ Z) (ok := ok) (sz := sz) (n := n) rs (A.length + 1 + B.length) (fun i r hr => rwH_row Z hr) h2
    have ht : (rowR (A.length + 1 + B.length) rs).take rs.length = rowR (A.length + 1 + B.length) rs := List.take_of_length_le (by rw [rowR_length]; exact Nat.le_refl _)
    unfold toLit
    simp only [noRef, AVal.under, Nat.not_lt_zero, decide_false, Bool.false_eq_true, if_false, ha, h1, gR, if_neg h, decide_true, Nat.zero_add, rowR_length, Nat.le_refl, if_true, List.drop_zero, ht, hm, rowsLit, Bool.and_true]
    rfl
end Go.Proofs.Ytgfejpngfikjiaa.Tidy

namespace Go.Proofs.Ytgfejpngfikjiaa.Tidy
open Go Go.IntWalk
set_option maxRecDepth 10000
set_option linter.unusedSimpArgs false
set_option maxHeartbeats 4000000

theorem putList_full {bs new : List AVal} (h : new.length = bs.length) : putList bs 0 new = new := by
  have := putList_append [] new bs (by omega)
  rw [List.nil_append, List.length_nil] at this
  rw [this, List.drop_eq_nil_of_le (by omega)]; simp

def rowA (t : Tab) (i : Nat) : List AVal := (t.cells.getD i []).map spV
theorem rowA_pure (t : Tab) (i : Nat) : (rowA t i).all noRef = true := by
  unfold rowA
  rw [List.all_eq_true]
  intro x hx
  obtain ⟨y, _, rfl⟩ := List.mem_map.1 hx
  rfl
def clD (t : Tab) (n : Nat) : List RowD := (List.range n).map fun i => (0, rowA t (i + 1))
theorem clD_succ (t : Tab) (n : Nat) : clD t (n + 1) = clD t n ++ [(0, rowA t (n + 1))] := by simp [clD, List.range_succ]
theorem clD_length (t : Tab) (n : Nat) : (clD t n).length = n := by simp [clD]

def clH (T : TabV) (g n : Nat) : Heap := [boxT T, .cells 0 3 false [.agg [.lit true 0 [], .lit true 0 [], .lit true 0 []]], .cells 0 2 true (T.rows.l.map spV), .cells 0 2 true (T.cols.l.map spV), .cells 0 0 false [], .cells 0 0 false [], .cells 0 0 false [],
  .cells 0 3 false [.agg [.ref 2 0 0 T.tab.R false, .ref 3 0 0 T.tab.C false, .ref 10 g 0 (n + 1) false]], .cells 0 2 true (rowA T.tab 0), .cells 0 1 false [.ref 8 0 0 T.tab.C false], .cells g 1 false (.ref 8 0 0 T.tab.C false :: rowR 11 (clD T.tab n))] ++ rowT 2 11 (clD T.tab n)

theorem clone_loop {T : TabV} (hT : T.Wf) (hO : T.tab.Ok) : ∀ (n m g : Nat) (j0 j4 j5 j6 j7 j8 j9 j10 j11 j12 j13 j14 j15 j16 j17 j18 j19 j20 j21 j22 j23 j24 j25 j26 j30 j31 j32 j33 j34 j35 j36 j37 j38 j39 j40 j41 j42 j43 j44 j45 j46 : AVal), m + 1 + n = T.tab.R →
    Goes (execT env (Try.f96.at [1, 1, 1, 1, 0, 1, 0]) ⟨[j0, .ptr 0 0 0 0, .ptr 1 0 0 0, .ptr 7 0 0 0, j4, j5, j6, j7, j8, j9, j10, j11, j12, j13, j14, j15, j16, j17, j18, j19, j20, j21, j22, j23, j24, j25, j26, .lit T.cl T.sz (T.cells.map SlV.v), .int .i64 T.tab.R, .int .i64 (m + 1 : Nat), j30, j31, j32, j33, j34, j35, j36, j37, j38, j39, j40, j41, j42, j43, j44, j45, j46], clH T g m, [], 0, [3, 42]⟩) fun ex st =>
      ex = .exit 0 ∧ ∃ (g : Nat), FrP 47 [(2, .ptr 1 0 0 0), (3, .ptr 7 0 0 0)] (clH T g (T.tab.R - 1)) [] 0 [3, 42] st := by
  have hR8 := hO.R8
  have hC8 := hO.C8
  intro n
  induction n with
  | zero =>
    intro m g; intros; rename_i hm
    have hd : decide (((m + 1 : Nat) : Int) < (T.tab.R : Int)) = false := by simp; omega
    have e : T.tab.R - 1 = m := by omega
    rw [e]
    simp only [go_sem, simprocAttr, Try.f96]
    rw [exec_loop]
    simp only [go_sem, simprocAttr, hd]
    exact ⟨g, frP (by kernel_rfl)⟩
  | succ n ih =>
    intro m g; intros; rename_i hm
    have hmR : m + 1 < T.tab.R := by omega
    have hd : decide (((m + 1 : Nat) : Int) < (T.tab.R : Int)) = true := by simp; omega
    have i0 : (0 : Int) ≤ ((m + 1 : Nat) : Int) := by omega
    have c0 : (0 : Int) ≤ (T.tab.C : Int) := by omega
    have m1 : T.tab.C * 17 ≤ maxBytes := by unfold maxBytes; omega
    obtain ⟨c, hcm, hc1, _, hsz, hcl, hce⟩ := TabV.at hT hO hmR (show 0 < T.tab.C from hO.C1)
    have hra : c.l.map spV = rowA T.tab (m + 1) := by unfold rowA; rw [hce]
    have hrl : (rowA T.tab (m + 1)).length = T.tab.C := by rw [← hra, List.length_map, hcl]
    have htk : (rowA T.tab (m + 1)).take T.tab.C = rowA T.tab (m + 1) := List.take_of_length_le (by omega)
    have hpl : putList (List.replicate T.tab.C (AVal.agg [.int .i64 0, .int .i64 0])) 0 (rowA T.tab (m + 1)) = rowA T.tab (m + 1) := putList_full (by rw [hrl, List.length_replicate])
    have hnr : (rowA T.tab (m + 1)).all noRef = true := rowA_pure _ _
    have hTl : (rowT 2 11 (clD T.tab m)).length = 2 * m := by rw [rowT_length, clD_length]
    have hl1 : ∀ b, (rowT 2 11 (clD T.tab m) ++ [b]).length = 2 * m + 1 := fun b => len_snoc hTl b
    have hg1 : ∀ b, (rowT 2 11 (clD T.tab m) ++ [b])[2 * m]? = some b := fun b => get_snoc hTl b
    have hs1 : ∀ b b', (rowT 2 11 (clD T.tab m) ++ [b]).set (2 * m) b' = rowT 2 11 (clD T.tab m) ++ [b'] := fun b b' => set_snoc hTl b b'
    have z0 : (2 * m + 1 + 1 + 1 + 1 + 1 + 1 + 1 + 1 + 1 + 1 + 1 < 2 * m + 1 + 1 + 1 + 1 + 1 + 1 + 1 + 1 + 1 + 1 + 1 + 1) = True := eq_true (Nat.lt_succ_self _)
    have hCl : (clH T g m).length = 2 * m + 1 + 1 + 1 + 1 + 1 + 1 + 1 + 1 + 1 + 1 + 1 := by unfold clH; rw [List.length_append, hTl]; simp only [List.length_cons, List.length_nil]; omega
    have hel : elems ((clH T g m ++ [.cells 0 2 true (rowA T.tab (m + 1))]) ++ [.cells 0 1 false [.ref (2 * m + 1 + 1 + 1 + 1 + 1 + 1 + 1 + 1 + 1 + 1 + 1) 0 0 T.tab.C false]]) (.ref (2 * m + 1 + 1 + 1 + 1 + 1 + 1 + 1 + 1 + 1 + 1 + 1 + 1) 0 0 1 false) = some (1, [.ref (2 * m + 1 + 1 + 1 + 1 + 1 + 1 + 1 + 1 + 1 + 1 + 1) 0 0 T.tab.C false]) := by
      have := get_snoc (len_snoc hCl (.cells 0 2 true (rowA T.tab (m + 1)))) (.cells 0 1 false [.ref (2 * m + 1 + 1 + 1 + 1 + 1 + 1 + 1 + 1 + 1 + 1 + 1) 0 0 T.tab.C false])
      simp only [elems, this]
      rfl
    have hl2 : ∀ b b', (rowT 2 11 (clD T.tab m) ++ [b] ++ [b']).length = 2 * m + 1 + 1 := fun b b' => len_snoc (hl1 b) b'
    have ap := append_ref (E := env) (ro := 0) (nx := 2 * m + 1 + 1 + 1 + 1 + 1 + 1 + 1 + 1 + 1 + 1 + 1 + 1 + 1) (g := g) (id := 10) (len := m + 1) (fl := false) (bs := .ref 8 0 0 T.tab.C false :: rowR 11 (clD T.tab m)) ti23 ti22 hel ⟨by decide, rfl, rfl⟩ rfl (by simp) rfl (by simp [rowR_length, clD_length]) (by omega) (Nat.zero_le _) (by unfold maxBytes; simp only [List.length_singleton]; omega) (fun h => by cases h)
    have hr1 : (AVal.ref 8 0 0 T.tab.C false :: rowR 11 (clD T.tab m)) ++ [.ref (2 * m + 1 + 1 + 1 + 1 + 1 + 1 + 1 + 1 + 1 + 1 + 1) 0 0 T.tab.C false] = .ref 8 0 0 T.tab.C false :: rowR 11 (clD T.tab (m + 1)) := by
      rw [clD_succ, rowR_snoc, clD_length, hrl, show 11 + 2 * m = 2 * m + 1 + 1 + 1 + 1 + 1 + 1 + 1 + 1 + 1 + 1 + 1 by omega]; rfl
    have ht1 : rowT 2 11 (clD T.tab m) ++ [.cells 0 2 true (rowA T.tab (m + 1))] ++ [.cells 0 1 false [.ref (2 * m + 1 + 1 + 1 + 1 + 1 + 1 + 1 + 1 + 1 + 1 + 1) 0 0 T.tab.C false]] = rowT 2 11 (clD T.tab (m + 1)) := by
      rw [clD_succ, rowT_snoc, clD_length, hrl, show 11 + 2 * m = 2 * m + 1 + 1 + 1 + 1 + 1 + 1 + 1 + 1 + 1 + 1 + 1 by omega]; simp
    have hTl' : (rowT 2 11 (clD T.tab (m + 1))).length = 2 * m + 1 + 1 := by rw [rowT_length, clD_length]; omega
    rw [hr1] at ap
    simp only [clH, boxT, List.cons_append, List.nil_append, List.length_singleton, ht1] at ap
    have hmem : AVal.ref (2 * m + 1 + 1 + 1 + 1 + 1 + 1 + 1 + 1 + 1 + 1 + 1) 0 0 T.tab.C false ∈ (AVal.ref 8 0 0 T.tab.C false :: rowR 11 (clD T.tab (m + 1))) := by rw [← hr1]; simp
    have htr : ∀ Tm V, trunc (2 * m + 1 + 1 + 1 + 1 + 1 + 1 + 1 + 1 + 1 + 1 + 1) ⟨Tm, clH T (g + 1) (m + 1), [], 0, V⟩ = ⟨Tm, clH T (g + 1) (m + 1), [], 0, V⟩ := fun Tm V => trunc_keep (i := 10) (by omega) (by unfold clH; rfl) hmem (Nat.le_refl _)
    simp only [clH, boxT, List.cons_append, List.nil_append] at htr
    have wi : IntKind.i64.wrap (((m + 1 : Nat) : Int) + 1) = ((m + 1 + 1 : Nat) : Int) := wrap_succ (by omega)
    have z1 : (10 < 2 * m + 1 + 1 + 1 + 1 + 1 + 1 + 1 + 1 + 1 + 1 + 1 + 1 + 1) = True := eq_true (by omega)
    have z2 : (7 < 2 * m + 1 + 1 + 1 + 1 + 1 + 1 + 1 + 1 + 1 + 1 + 1 + 1 + 1) = True := eq_true (by omega)
    have ih' := ih (m + 1) (g + 1)
    simp only [go_sem, simprocAttr, Try.f96, clH, boxT, hsz] at ih' ⊢
    rw [exec_loop]
    simp only [go_sem, simprocAttr, hd, i0, Int.toNat_natCast, hc1, hcl, List.length_map, c0, m1, hra, hTl, hl1, hg1, hs1, htk, hpl, hrl, hnr, z0, hl2, ap, ht1, hTl', z1, z2, wi, htr]
    exact ih' _ _ _ _ _ _ _ _ _ _ _ _ _ _ _ _ _ _ _ _ _ _ _ _ _ _ _ _ _ _ _ _ _ _ _ _ _ _ _ _ _ (by omega)

theorem bd25 (a b c d a' b' c' d' : Nat) (e e' : Bool) : build env ⟨.struct [(22, 0), (22, 1), (23, 2)], 3, 72, .agg [.lit true 0 [], .lit true 0 [], .lit true 0 []]⟩ [(0, .ref a b c d e), (1, .ref a' b' c' d' e')] = some (.agg [.ref a b c d e, .ref a' b' c' d' e', .lit true 0 []]) := rfl

def clX (T : TabV) (nx g : Nat) : Heap := [boxT T, .cells 0 3 false [.agg [.ref (nx + 2) 0 0 T.tab.R false, .ref (nx + 3) 0 0 T.tab.C false, .ref (nx + 10) g 0 T.tab.R false]], .cells 0 2 true (T.rows.l.map spV), .cells 0 2 true (T.cols.l.map spV), .cells 0 0 false [], .cells 0 0 false [], .cells 0 0 false [],
  .cells 0 3 false [.agg [.ref (nx + 2) 0 0 T.tab.R false, .ref (nx + 3) 0 0 T.tab.C false, .ref (nx + 10) g 0 T.tab.R false]], .cells 0 2 true (rowA T.tab 0), .cells 0 1 false [.ref (nx + 8) 0 0 T.tab.C false], .cells g 1 false (.ref (nx + 8) 0 0 T.tab.C false :: rowR (nx + 11) (clD T.tab (T.tab.R - 1)))] ++ rowT 2 (nx + 11) (clD T.tab (T.tab.R - 1))

def clP (T : TabV) : Heap := [boxT T, .cells 0 3 false [.agg [.lit true 0 [], .lit true 0 [], .lit true 0 []]], .cells 0 2 true (T.rows.l.map spV), .cells 0 2 true (T.cols.l.map spV), .cells 0 0 false [], .cells 0 0 false [], .cells 0 0 false [],
  .cells 0 3 false [.agg [.ref 2 0 0 T.tab.R false, .ref 3 0 0 T.tab.C false, .lit true 0 []]], .cells 0 2 true (rowA T.tab 0), .cells 0 1 false [.ref 8 0 0 T.tab.C false]]
theorem append_first (T : TabV) : appendOp env 0 10 23 (.lit true 0 []) (.ref 9 0 0 1 false) (clP T) = some (.ref 10 0 0 1 false, [(10, .cells 0 1 false [.ref 8 0 0 T.tab.C false])]) := by
  have h := append_lit (E := env) (ro := 0) (nx := 10) (sz := 0) (es := []) (H := clP T) (x := .ref 9 0 0 1 false) (nsz := 1) (new := [.ref 8 0 0 T.tab.C false]) ti23 ti22 rfl ⟨by decide, rfl, rfl⟩ rfl (by simp) (.inl rfl) (show (0 + 1) * 25 ≤ maxBytes by decide) (fun h => by cases h)
  rw [h]; rfl

theorem clone_run {T : TabV} (hT : T.Wf) (hO : T.tab.Ok) : ∃ g, runT env 96 [T.v] [] 0 = some (.ret (.agg [.ref 2 0 0 T.tab.R false, .ref 3 0 0 T.tab.C false, .ref 10 g 0 T.tab.R false]), clX T 0 g) := by
  have hR8 := hO.R8
  have hC8 := hO.C8
  have hR1 := hO.R1
  have hd : decide ((0 : Int) < (T.tab.R : Int)) = true := by simp; omega
  have lr : T.rows.l.length = T.tab.R := rfl
  have lc : T.cols.l.length = T.tab.C := rfl
  have ll : T.cells.length = T.tab.R := by have := hO.len; simpa [TabV.tab] using this
  have r0 : (0 : Int) ≤ (T.tab.R : Int) := by omega
  have c0 : (0 : Int) ≤ (T.tab.C : Int) := by omega
  have m0 : T.tab.R * 17 ≤ maxBytes := by unfold maxBytes; omega
  have m1 : T.tab.C * 17 ≤ maxBytes := by unfold maxBytes; omega
  obtain ⟨c, hcm, hc1, _, hsz, hcl, hce⟩ := TabV.at hT hO hR1 (show 0 < T.tab.C from hO.C1)
  have hra : c.l.map spV = rowA T.tab 0 := by unfold rowA; rw [hce]
  have hrl : (rowA T.tab 0).length = T.tab.C := by rw [← hra, List.length_map, hcl]
  have htk : (rowA T.tab 0).take T.tab.C = rowA T.tab 0 := List.take_of_length_le (by omega)
  have hpl : putList (List.replicate T.tab.C (AVal.agg [.int .i64 0, .int .i64 0])) 0 (rowA T.tab 0) = rowA T.tab 0 := putList_full (by rw [hrl, List.length_replicate])
  have hnr : (rowA T.tab 0).all noRef = true := rowA_pure _ _
  have tk1 : (T.rows.l.map spV).take T.tab.R = T.rows.l.map spV := List.take_of_length_le (by rw [List.length_map]; exact Nat.le_refl _)
  have tk2 : (T.cols.l.map spV).take T.tab.C = T.cols.l.map spV := List.take_of_length_le (by rw [List.length_map]; exact Nat.le_refl _)
  have pl1 : putList (List.replicate T.tab.R (AVal.agg [.int .i64 0, .int .i64 0])) 0 (T.rows.l.map spV) = T.rows.l.map spV := putList_full (by rw [List.length_map, List.length_replicate]; rfl)
  have pl2 : putList (List.replicate T.tab.C (AVal.agg [.int .i64 0, .int .i64 0])) 0 (T.cols.l.map spV) = T.cols.l.map spV := putList_full (by rw [List.length_map, List.length_replicate]; rfl)
  have all_pure : ∀ l : List Spn, (l.map spV).all noRef = true := fun l => by
    rw [List.all_eq_true]
    intro x hx
    obtain ⟨y, _, rfl⟩ := List.mem_map.1 hx
    rfl
  have hs1 : ∀ {α : Type} (l : List α), l = [] ∨ (2 : Nat) = 2 := fun _ => .inr rfl
  have hzr : (T.rows.l.map spV).isEmpty = false := by
    cases h : T.rows.l with
    | nil => rw [h] at lr; simp at lr; omega
    | cons a l => rfl
  have hzc : (T.cols.l.map spV).isEmpty = false := by
    cases h : T.cols.l with
    | nil => rw [h] at lc; simp at lc; have := hO.C1; omega
    | cons a l => rfl
  have z1 : T.rows.sz = 2 := (TabV.rowAt hT hR1).2
  have z2 : T.cols.sz = 2 := (TabV.colAt hT (show 0 < T.tab.C from hO.C1)).2
  obtain ⟨ex, st, hx, hp⟩ := clone_loop hT hO (T.tab.R - 1) 0 0 _ _ _ _ _ _ _ _ _ _ _ _ _ _ _ _ _ _ _ _ _ _ _ _ _ _ _ _ _ _ _ _ _ _ _ _ _ _ _ _ _ (by omega)
  obtain ⟨rfl, g, jp, rfl⟩ := hp
  refine ⟨g, ?_⟩
  have e0 : clD T.tab 0 = [] := rfl
  have e1 : ((0 + 1 : Nat) : Int) = 1 := rfl
  have eR : T.tab.R - 1 + 1 = T.tab.R := by omega
  simp only [go_sem, simprocAttr, Try.f96, clH, boxT, hsz, e0, rowR, rowT, e1] at hx
  have htr : ∀ Tm V, trunc 8 ⟨Tm, clH T 0 0, [], 0, V⟩ = ⟨Tm, clH T 0 0, [], 0, V⟩ := fun Tm V => by
    unfold trunc clH
    simp [clD, rowT, rowR, underB, underL, AVal.under, boxT]
  have w1 : IntKind.i64.wrap 1 = 1 := by decide
  simp only [clH, boxT, e0, rowR, rowT, List.cons_append, List.nil_append] at htr
  have ap := append_first T
  simp only [clP, boxT] at ap
  rw [run_unfold fn96 rfl]
  simp only [go_sem, simprocAttr, Try.f96, virtual, List.length_map, lr, lc, r0, c0, m0, m1, Int.toNat_natCast, bd25]
  rw [apart_ok]
  · simp only [go_sem, simprocAttr, virtual, List.length_map, lr, lc, z1, z2, hzr, hzc, tk1, tk2, pl1, pl2, all_pure, ll]
    rw [exec_loop]
    simp only [go_sem, simprocAttr, hd, hc1, hsz, hcl, List.length_map, c0, m1, Int.toNat_natCast, hra, hrl, htk, hpl, hnr, ap, htr, w1]
    rw [hx]
    simp only [go_sem, simprocAttr, unwind, modeEx, resultsOf, one, eR]
    rfl
  · kernel_rfl

set_option maxRecDepth 10000
set_option maxHeartbeats 2000000

structure TbAt (H : Heap) (a b q ga gb g : Nat) (ps : Nat → Nat) (t : Tab) : Prop where
  rows : H[a]? = some (.cells ga 2 true (t.rows.map spV))
  cols : H[b]? = some (.cells gb 2 true (t.cols.map spV))
  acc : H[q]? = some (.cells g 1 false (vecA t.R fun i => .ref (ps i) 0 0 t.C false))
  row : ∀ i, i < t.R → H[ps i]? = some (.cells 0 2 true (rowA t i))
  ab : a ≠ b
  aq : a ≠ q
  bq : b ≠ q
  pa : ∀ i, i < t.R → ps i ≠ a ∧ ps i ≠ b ∧ ps i ≠ q
  pp : ∀ i j, i < t.R → j < t.R → ps i = ps j → i = j

def memT (t : Tab) (a b q ga gb g : Nat) : AVal := .agg [.ref a ga 0 t.R false, .ref b gb 0 t.C false, .ref q g 0 t.R false]

def canon (t : Tab) : TabV := ⟨⟨false, 2, t.rows⟩, ⟨false, 2, t.cols⟩, false, 1, t.cells.map fun l => ⟨false, 2, l⟩⟩
theorem canon_tab (t : Tab) : (canon t).tab = t := by
  unfold canon TabV.tab
  simp [Function.comp_def]

theorem canon_wf {t : Tab} (hR : t.R ≤ 8) (hC : t.C ≤ 8) (hl : t.cells.length = t.R) (hw : ∀ l ∈ t.cells, l.length = t.C) : (canon t).Wf where
  rows := .inr rfl
  cols := .inr rfl
  cells := .inr rfl
  each s hs := by obtain ⟨l, _, rfl⟩ := List.mem_map.1 hs; exact .inr rfl
  lr := by show t.R < _; omega
  lc := by show t.C < _; omega
  ll := by simp only [canon, List.length_map]; omega
  le s hs := by
    obtain ⟨l, hl, rfl⟩ := List.mem_map.1 hs
    have := hw l hl
    show l.length < _; omega

theorem rowA_length {t : Tab} (hl : t.cells.length = t.R) (hw : ∀ l ∈ t.cells, l.length = t.C) {i : Nat} (hi : i < t.R) : (rowA t i).length = t.C := by
  unfold rowA
  rw [List.length_map]
  exact hw _ (getD_mem (by omega) _)

section
variable {H : Heap} {a b q ga gb g : Nat} {ps : Nat → Nat} {t : Tab}

theorem TbAt.mono (h : TbAt H a b q ga gb g ps t) {H' : Heap} (e : ∀ i, i = a ∨ i = b ∨ i = q ∨ (∃ j, j < t.R ∧ i = ps j) → H'[i]? = H[i]?) : TbAt H' a b q ga gb g ps t where
  rows := by rw [e a (.inl rfl)]; exact h.rows
  cols := by rw [e b (.inr (.inl rfl))]; exact h.cols
  acc := by rw [e q (.inr (.inr (.inl rfl)))]; exact h.acc
  row i hi := by rw [e _ (.inr (.inr (.inr ⟨i, hi, rfl⟩)))]; exact h.row i hi
  ab := h.ab
  aq := h.aq
  bq := h.bq
  pa := h.pa
  pp := h.pp

theorem TbAt.lt (h : TbAt H a b q ga gb g ps t) : a < H.length ∧ b < H.length ∧ q < H.length ∧ ∀ i, i < t.R → ps i < H.length :=
  ⟨(List.getElem?_eq_some_iff.1 h.rows).1, (List.getElem?_eq_some_iff.1 h.cols).1, (List.getElem?_eq_some_iff.1 h.acc).1, fun i hi => (List.getElem?_eq_some_iff.1 (h.row i hi)).1⟩

theorem TbAt.more (h : TbAt H a b q ga gb g ps t) (Z : Heap) : TbAt (H ++ Z) a b q ga gb g ps t := by
  obtain ⟨l1, l2, l3, l4⟩ := h.lt
  refine h.mono fun i hi => ?_
  rw [List.getElem?_append_left]
  rcases hi with rfl | rfl | rfl | ⟨j, hj, rfl⟩
  · exact l1
  · exact l2
  · exact l3
  · exact l4 j hj

theorem TbAt.toLit (h : TbAt H a b q ga gb g ps t) (hl : t.cells.length = t.R) (hw : ∀ l ∈ t.cells, l.length = t.C) (ok : Nat → Bool) (ha : ok a = true) (hb : ok b = true) (hq : ok q = true) (hp : ∀ i, i < t.R → ok (ps i) = true) (n : Nat) : toLit ok H (n + 3) (memT t a b q ga gb g) = some (canon t).v := by
  have t1 : (t.rows.map spV).take t.R = t.rows.map spV := List.take_of_length_le (by simp)
  have t2 : (t.cols.map spV).take t.C = t.cols.map spV := List.take_of_length_le (by simp)
  have t3 : (vecA t.R fun i => AVal.ref (ps i) 0 0 t.C false).take t.R = vecA t.R fun i => AVal.ref (ps i) 0 0 t.C false := List.take_of_length_le (by rw [vecA_length]; exact Nat.le_refl _)
  have hm : mapO (Tidy.toLit ok H (n + 1)) (vecA t.R fun i => AVal.ref (ps i) 0 0 t.C false) = some (vecA t.R fun i => AVal.lit false 2 (rowA t i)) := by
    have : ∀ (m : Nat), m ≤ t.R → mapO (Tidy.toLit ok H (n + 1)) ((List.range m).map fun i => AVal.ref (ps i) 0 0 t.C false) = some ((List.range m).map fun i => AVal.lit false 2 (rowA t i)) := by
      intro m hm
      have gen : ∀ l : List Nat, (∀ i ∈ l, i < t.R) → mapO (Tidy.toLit ok H (n + 1)) (l.map fun i => AVal.ref (ps i) 0 0 t.C false) = some (l.map fun i => AVal.lit false 2 (rowA t i)) := by
        intro l
        induction l with
        | nil => intro _; rfl
        | cons i l ih =>
          intro hl'
          have hi := hl' i (by simp)
          have hr := h.row i hi
          have hrl := rowA_length hl hw hi
          have htk : (rowA t i).take t.C = rowA t i := List.take_of_length_le (by omega)
          simp only [List.map_cons, mapO, ih fun j hj => hl' j (by simp [hj])]
          simp [Tidy.toLit, noRef, AVal.under, hr, hp i hi, hrl, htk]
      exact gen _ fun i hi => by rw [List.mem_range] at hi; omega
    exact this t.R (Nat.le_refl _)
  have ec : (canon t).v = .agg [.lit false 2 (t.rows.map spV), .lit false 2 (t.cols.map spV), .lit false 1 (vecA t.R fun i => AVal.lit false 2 (rowA t i))] := by
    show AVal.agg [_, _, .lit false 1 ((t.cells.map fun l => (⟨false, 2, l⟩ : SlV)).map SlV.v)] = _
    have e : (t.cells.map fun l => (⟨false, 2, l⟩ : SlV)).map SlV.v = vecA t.R fun i => AVal.lit false 2 (rowA t i) := ?_
    · rw [e]; rfl
    unfold vecA
    rw [List.map_map]
    apply List.ext_getElem
    · simp [hl]
    · intro i h1 h2
      have hi : i < t.cells.length := by simpa using h1
      simp [rowA, SlV.v, hi]
  have ea : Tidy.toLit ok H (n + 2) (.ref a ga 0 t.R false) = some (.lit false 2 (t.rows.map spV)) := by
    simp [Tidy.toLit, noRef, AVal.under, h.rows, ha, t1]
  have eb : Tidy.toLit ok H (n + 2) (.ref b gb 0 t.C false) = some (.lit false 2 (t.cols.map spV)) := by
    simp [Tidy.toLit, noRef, AVal.under, h.cols, hb, t2]
  have eq : Tidy.toLit ok H (n + 2) (.ref q g 0 t.R false) = some (.lit false 1 (vecA t.R fun i => AVal.lit false 2 (rowA t i))) := by
    unfold Tidy.toLit
    simp only [noRef, AVal.under, Nat.not_lt_zero, decide_false, Bool.false_eq_true, if_false, h.acc, hq, decide_true, Nat.zero_add, vecA_length, Nat.le_refl, Bool.and_true, if_true, List.drop_zero, t3, hm]
    rfl
  rw [ec]
  unfold Tidy.toLit
  simp only [memT, noRef, AVal.under, underL, Nat.not_lt_zero, decide_false, Bool.false_and, Bool.false_eq_true, if_false, mapO, ea, eb, eq]
  rfl

end

theorem renR_rows (f : Nat → Option Nat) (nx : Nat) : ∀ (rs : List RowD) (p : Nat), (∀ i, i < rs.length → f (p + 2 * i) = some (nx + p + 2 * i)) → renL f (rowR p rs) = rowR (nx + p) rs
  | [], _, _ => rfl
  | r :: rs, p, h => by
    have h0 := h 0 (by simp)
    have ih := renR_rows f nx rs (p + 2) fun i hi => by
      have := h (i + 1) (by simp; omega)
      rw [show p + 2 + 2 * i = p + 2 * (i + 1) by omega, this, show nx + p + 2 * (i + 1) = nx + (p + 2) + 2 * i by omega]
    simp only [Nat.mul_zero, Nat.add_zero] at h0
    simp only [rowR, renL, AVal.ren, h0, ih, Nat.add_assoc]

theorem renT_rows (f : Nat → Option Nat) (nx sz : Nat) : ∀ (rs : List RowD) (p : Nat), (∀ i, i < rs.length → f (p + 2 * i) = some (nx + p + 2 * i)) → (rowT sz p rs).map (renB f) = rowT sz (nx + p) rs
  | [], _, _ => rfl
  | r :: rs, p, h => by
    have h0 := h 0 (by simp)
    have ih := renT_rows f nx sz rs (p + 2) fun i hi => by
      have := h (i + 1) (by simp; omega)
      rw [show p + 2 + 2 * i = p + 2 * (i + 1) by omega, this, show nx + p + 2 * (i + 1) = nx + (p + 2) + 2 * i by omega]
    simp only [Nat.mul_zero, Nat.add_zero] at h0
    simp only [rowT, List.map_cons, renB, renL, AVal.ren, h0, ih, Nat.add_assoc, if_true, Bool.false_eq_true, if_false]

def clP' (nx i : Nat) : Nat := if i = 0 then nx + 8 else nx + 9 + 2 * i

theorem clX_len (T : TabV) (nx g : Nat) (hR : 1 ≤ T.tab.R) : (clX T nx g).length = 9 + 2 * T.tab.R := by
  unfold clX
  rw [List.length_append, rowT_length, clD_length]
  simp only [List.length_cons, List.length_nil]; omega

theorem clone_call {T : TabV} (hT : T.Wf) (hO : T.tab.Ok) : ∃ g, ∀ (ro : Nat) (H : Heap) (nx : Nat), callT env 96 [T.v] ro H nx = some (.ret (memT T.tab (nx + 2) (nx + 3) (nx + 10) 0 0 g), .ups (numbered nx (clX T nx g))) := by
  have hR1 := hO.R1
  obtain ⟨g, hr⟩ := clone_run hT hO
  refine ⟨g, fun ro H nx => ?_⟩
  have hlen := clX_len T 0 g hR1
  have hc : ∀ j, j < 9 + 2 * T.tab.R → (List.range' 0 (clX T 0 g).length).contains j = true := fun j hj => by
    rw [hlen]; simp; omega
  have hf : ∀ j, j < 9 + 2 * T.tab.R → nxF nx (clX T 0 g).length j = some (nx + j) := fun j hj => by
    unfold nxF; rw [hlen, if_pos hj]
  rw [call_keepAll rfl rfl rfl tv_pure hr (w := .agg [.ref 2 0 0 T.tab.R false, .ref 3 0 0 T.tab.C false, .ref 10 g 0 T.tab.R false]) (by
    simp only [handBack, mapO, hc 2 (by omega), hc 3 (by omega), hc 10 (by omega), Bool.or_true, if_true, Option.map_some])]
  have e1 : (clX T 0 g).map (renB (nxF nx (clX T 0 g).length)) = clX T nx g := by
    generalize hF : nxF nx (clX T 0 g).length = F at hf ⊢
    have r1 := renT_rows F nx 2 (clD T.tab (T.tab.R - 1)) 11 fun i hi => by
      rw [clD_length] at hi
      rw [hf _ (by omega)]; congr 1; omega
    have r2 := renR_rows F nx (clD T.tab (T.tab.R - 1)) 11 fun i hi => by
      rw [clD_length] at hi
      rw [hf _ (by omega)]; congr 1; omega
    unfold clX
    simp only [List.map_append, List.map_cons, List.map_nil, Nat.zero_add, r1, renB_box]
    simp only [renB, renL, AVal.ren, hf 2 (by omega), hf 3 (by omega), hf 8 (by omega), hf 10 (by omega), r2, if_true, Bool.false_eq_true, if_false]
  rw [e1]
  simp only [AVal.ren, renL, hf 2 (by omega), hf 3 (by omega), hf 10 (by omega), memT]

theorem clone_at {T : TabV} (hO : T.tab.Ok) (H : Heap) (g : Nat) : TbAt (H ++ clX T H.length g) (H.length + 2) (H.length + 3) (H.length + 10) 0 0 g (clP' H.length) T.tab := by
  have hR1 := hO.R1
  have hg : ∀ i, (H ++ clX T H.length g)[H.length + i]? = (clX T H.length g)[i]? := fun i => by
    rw [List.getElem?_append_right (by omega), Nat.add_sub_cancel_left]
  have hacc : AVal.ref (H.length + 8) 0 0 T.tab.C false :: rowR (H.length + 11) (clD T.tab (T.tab.R - 1)) = vecA T.tab.R fun i => .ref (clP' H.length i) 0 0 T.tab.C false := by
    apply List.ext_getElem?
    intro i
    cases i with
    | zero => rw [vecA_get _ (by omega)]; rfl
    | succ i =>
      rw [List.getElem?_cons_succ]
      by_cases hi : i + 1 < T.tab.R
      · rw [vecA_get _ hi]
        have hd : (clD T.tab (T.tab.R - 1))[i]? = some (0, rowA T.tab (i + 1)) := by
          unfold clD
          rw [List.getElem?_map, List.getElem?_range (by omega)]; rfl
        rw [rowR_get _ _ _ _ hd]
        have hrl := rowA_length (t := T.tab) hO.len hO.wid hi
        show some (AVal.ref (H.length + 11 + 2 * i) 0 0 (rowA T.tab (i + 1)).length false) = _
        rw [hrl]
        unfold clP'
        rw [if_neg (by omega), show H.length + 9 + 2 * (i + 1) = H.length + 11 + 2 * i by omega]
      · rw [List.getElem?_eq_none (by rw [rowR_length, clD_length]; omega), List.getElem?_eq_none (by rw [vecA_length]; omega)]
  refine ⟨?_, ?_, ?_, fun i hi => ?_, by omega, by omega, by omega, fun i hi => ?_, fun i j hi hj e => ?_⟩
  · rw [hg]; rfl
  · rw [hg]; rfl
  · rw [hg, ← hacc]; rfl
  · unfold clP'
    by_cases h0 : i = 0
    · subst h0; rw [if_pos rfl, hg]; rfl
    · rw [if_neg h0, Nat.add_assoc, hg]
      have hd : (clD T.tab (T.tab.R - 1))[i - 1]? = some (0, rowA T.tab i) := by
        unfold clD
        rw [List.getElem?_map, List.getElem?_range (by omega)]
        simp only [Option.map_some]
        rw [show i - 1 + 1 = i by omega]
      have := rowT_get 2 (clD T.tab (T.tab.R - 1)) (H.length + 11) (i - 1) _ hd
      unfold clX
      rw [List.getElem?_append_right (by simp; omega)]
      simp only [List.length_cons, List.length_nil]
      rw [show 9 + 2 * i - (0 + 1 + 1 + 1 + 1 + 1 + 1 + 1 + 1 + 1 + 1 + 1) = 2 * (i - 1) by omega]
      exact this
  · unfold clP'
    split <;> omega
  · unfold clP' at e
    split at e <;> split at e <;> omega

set_option maxRecDepth 10000
set_option maxHeartbeats 2000000

set_option maxRecDepth 10000
set_option maxHeartbeats 2000000

def matM (t : Tab) (x : Nat → Nat → Int) : MatV := ⟨false, 1, vecA t.R fun i => ⟨false, 1, vecA t.C (x i)⟩⟩

theorem matM_m (t : Tab) (x : Nat → Nat → Int) : (matM t x).m = vecA t.R fun i => vecA t.C (x i) := by
  unfold MatV.m matM
  rw [vecA_map]

theorem matM_of {t : Tab} {x : Nat → Nat → Int} {i k : Nat} (hi : i < t.R) (hk : k < t.C) : matOf (matM t x).m i k = x i k := by
  rw [matM_m]
  unfold matOf
  have h1 : (vecA t.R fun i => vecA t.C (x i)).getD i [] = vecA t.C (x i) := getD_some (vecA_get _ hi)
  rw [h1]
  exact getD_some (vecA_get _ hk)

theorem matM_dims (t : Tab) (x : Nat → Nat → Int) : dimsB t (matM t x).m = true := by
  rw [matM_m]
  unfold dimsB
  simp [vecA]

theorem fits_congr {t : Tab} {x y : Nat → Nat → Int} (h : ∀ i k, i < t.R → k < t.C → x i k = y i k) (hx : Fits t x) : Fits t y where
  cell i k hi hk := by rw [← h i k hi hk]; exact hx.cell i k hi hk
  row i hi := by
    have := hx.row i hi
    rwa [sumN_congr fun k hk => h i k hi hk] at this
  col k hk := by
    have := hx.col k hk
    rwa [sumN_congr fun i hi => h i k hi hk] at this

theorem matM_fits {t : Tab} {x : Nat → Nat → Int} (h : Fits t x) : fitsB t (matOf (matM t x).m) = true :=
  fitsB_iff.2 (fits_congr (fun i k hi hk => (matM_of hi hk).symm) h)

theorem matM_wf {t : Tab} (hO : t.Ok) {x : Nat → Nat → Int} (h : Fits t x) : (matM t x).Wf := by
  have hR8 := hO.R8
  have hC8 := hO.C8
  have hm : ∀ s ∈ (matM t x).rows, ∃ i, i < t.R ∧ s = ⟨false, 1, vecA t.C (x i)⟩ := by
    intro s hs
    unfold matM vecA at hs
    obtain ⟨i, hi, rfl⟩ := List.mem_map.1 hs
    exact ⟨i, List.mem_range.1 hi, rfl⟩
  refine ⟨.inr rfl, fun s hs => ?_, ?_, fun s hs => ?_, fun s hs y hy => ?_⟩
  · obtain ⟨i, _, rfl⟩ := hm s hs; exact .inr rfl
  · unfold matM; simp only [vecA_length]; omega
  · obtain ⟨i, _, rfl⟩ := hm s hs
    simp only [vecA_length]; omega
  · obtain ⟨i, hi, rfl⟩ := hm s hs
    simp only [vecA, List.mem_map, List.mem_range] at hy
    obtain ⟨k, hk, rfl⟩ := hy
    have h1 := h.cell i k hi hk
    have h2 := hO.cell_ok hi hk
    omega

set_option maxRecDepth 10000
set_option maxHeartbeats 2000000

theorem rowA_get {t : Tab} (hO : t.Ok) {i k : Nat} (hi : i < t.R) (hk : k < t.C) : (rowA t i)[k]? = some (spV (t.cell i k)) := by
  have h1 : t.cells.getD i [] ∈ t.cells := getD_mem (by rw [hO.len]; exact hi) _
  have hw := hO.wid _ h1
  unfold rowA Tab.cell
  rw [List.getElem?_map, List.getElem?_eq_getElem (by omega), List.getD_eq_getElem?_getD (l := t.cells.getD i []), List.getElem?_eq_getElem (by omega)]
  rfl

set_option maxRecDepth 10000
set_option maxHeartbeats 4000000

set_option maxRecDepth 10000
set_option maxHeartbeats 4000000

def colL (t : Tab) (k n : Nat) : List Spn := (List.range n).map fun i => t.cell i k
def Tab.turn (t : Tab) : Tab := ⟨t.cols, t.rows, (List.range t.C).map fun k => colL t k t.R⟩
def colN (t : Tab) (k n : Nat) : List AVal := (colL t k n).map spV
theorem colL_length (t : Tab) (k n : Nat) : (colL t k n).length = n := by simp [colL]
theorem colN_length (t : Tab) (k n : Nat) : (colN t k n).length = n := by simp [colN, colL]
theorem colN_succ (t : Tab) (k n : Nat) : colN t k (n + 1) = colN t k n ++ [spV (t.cell n k)] := by simp [colN, colL, List.range_succ]
def accN (l : List AVal) : Blk := if l = [] then .cells 0 0 false [] else .cells l.length 2 true l
theorem accN_full {l : List AVal} (h : l ≠ []) : accN l = .cells l.length 2 true l := if_neg h
theorem append_span {H : Heap} {id n : Nat} {es : List AVal} {x : Spn} (hH : H[id]? = some (accN es)) (hn : es.length = n) (hb : n < 2 ^ 30) (nx : Nat) {ro : Nat} (hro : ro ≤ id) :
    appendOp env ro nx 22 (.ref id n 0 n false) (.lit true 2 [spV x]) H = some (.ref id (n + 1) 0 (n + 1) false, [(id, accN (es ++ [spV x]))]) := by
  subst hn
  have hfl : flatTy env 8 39 = true := rfl
  have hne : es ++ [spV x] ≠ [] := by simp
  have hln : (es ++ [spV x]).length = es.length + 1 := by simp
  by_cases h : es = []
  · subst h
    have hH' : H[id]? = some (.cells 0 0 false []) := hH
    have hnr : noRef (spV x) = true := rfl
    have hm : 17 ≤ maxBytes := by decide
    simp [appendOp, ti22, ti39, elems, hH', hfl, hro, newBlk, accN, AVal.cellsOf, AVal.isTuple, hnr, hm]
  · have hgr := append_ref (E := env) (ro := ro) (nx := nx) (H := H) (id := id) (g := es.length) (len := es.length) (x := .lit true 2 [spV x]) (nsz := 2) (new := [spV x]) (fl := true) (bs := es) ti22 ti39 rfl ⟨by decide, rfl, rfl⟩ rfl (by simp)
      (by rw [hH, accN, if_neg h]) rfl (List.length_pos_iff.2 h) hro (by show (es.length + 1) * 17 ≤ 2 ^ 45; omega) (fun _ => rfl)
    rw [hgr, accN, if_neg hne, hln]
    rfl

def tuD (t : Tab) (n : Nat) : List RowD := (List.range n).map fun k => (t.R, colN t (k + 1) t.R)
theorem tuD_succ (t : Tab) (n : Nat) : tuD t (n + 1) = tuD t n ++ [(t.R, colN t (n + 1) t.R)] := by simp [tuD, List.range_succ]
theorem tuD_length (t : Tab) (n : Nat) : (tuD t n).length = n := by simp [tuD]

set_option maxRecDepth 10000
set_option maxHeartbeats 4000000

theorem intsV_succ (n : Nat) (f : Nat → Int) : intsV (n + 1) f = intsV n f ++ [.int .i64 (f n)] := by
  simp [intsV, vecA, List.range_succ]

def accI (l : List AVal) : Blk := if l = [] then .cells 0 0 false [] else .cells l.length 1 true l
theorem append_int {H : Heap} {id n : Nat} {f : Nat → Int} (hH : H[id]? = some (accI (intsV n f))) (hb : n < 2 ^ 30) (nx : Nat) {ro : Nat} (hro : ro ≤ id) :
    appendOp env ro nx 51 (.ref id n 0 n false) (.lit true 1 [.int .i64 (f n)]) H = some (.ref id (n + 1) 0 (n + 1) false, [(id, accI (intsV (n + 1) f))]) := by
  have hfl : flatTy env 8 3 = true := rfl
  have hln := intsV_length (n + 1) f
  have hne : intsV (n + 1) f ≠ [] := fun e => by rw [e] at hln; simp at hln
  by_cases h : n = 0
  · subst h
    have hH' : H[id]? = some (.cells 0 0 false []) := hH
    have hm : 9 ≤ maxBytes := by decide
    have e1 : accI (intsV (0 + 1) f) = .cells 1 1 true [.int .i64 (f 0)] := by
      unfold accI
      rw [if_neg hne]
      rfl
    rw [e1]
    simp [appendOp, ti51, ti3, elems, hH', hfl, hro, newBlk, AVal.cellsOf, AVal.isTuple, noRef, AVal.under, hm]
  · have h0 : intsV n f ≠ [] := fun e => by have := intsV_length n f; rw [e] at this; simp at this; omega
    have hgr := append_ref (E := env) (ro := ro) (nx := nx) (H := H) (id := id) (g := n) (len := n) (x := .lit true 1 [.int .i64 (f n)]) (nsz := 1) (new := [.int .i64 (f n)]) (fl := true) (bs := intsV n f) ti51 ti3 rfl ⟨by decide, rfl, rfl⟩ rfl (by simp)
      (by rw [hH, accI, if_neg h0, intsV_length]) (intsV_length _ _) (by omega) hro (by show (n + 1) * 9 ≤ 2 ^ 45; omega) (fun _ => rfl)
    rw [hgr, accI, if_neg hne, hln, intsV_succ]
    rfl

theorem to_inner {M : MatV} (hM : M.Wf) {R C : Nat} (hR : M.rows.length = R) (hR8 : R ≤ 8) (hC : ∀ s ∈ M.rows, s.l.length = C) {X : Heap} {nx : Nat} (hX : X.length = nx) {k : Nat} (hk : k < C) (v5 : AVal) (z : Int) : ∀ (n i : Nat) (j1 j2 j3 j4 j8 j9 j12 j13 j17 j18 j19 j20 j21 j22 j23 j24 j25 j26 j27 j28 j29 j30 j31 j32 j33 j34 j35 j36 j37 : AVal), i + n = R →
    Goes (execT env (Try.f53.at [1, 1, 0, 1, 0, 0, 1, 1, 0, 0, 1, 1, 0, 1, 0]) ⟨[M.v, j1, j2, j3, j4, v5, .int .i64 k, .ref nx i 0 i false, j8, j9, .int .i64 z, .int .i64 k, j12, j13, M.v, .int .i64 R, .int .i64 i, j17, j18, j19, j20, j21, j22, j23, j24, j25, j26, j27, j28, j29, j30, j31, j32, j33, j34, j35, j36, j37], X ++ [accI (intsV i fun i => matOf M.m i k)], [], 0, [5, 7, 34]⟩) fun ex s =>
      ex = .exit 2 ∧ FrP 38 [(0, M.v), (5, v5), (7, .ref nx R 0 R false), (10, .int .i64 z), (11, .int .i64 k)] (X ++ [accI (intsV R fun i => matOf M.m i k)]) [] 0 [5, 7, 34] s := by
  intro n
  induction n with
  | zero =>
    intro i; intros; rename_i hi
    have hd : decide ((i : Int) < (R : Int)) = false := by simp; omega
    have : i = R := by omega
    subst this
    simp only [go_sem, simprocAttr, Try.f53]
    rw [exec_loop]
    simp only [go_sem, simprocAttr, hd]
    exact frP (by kernel_rfl)
  | succ n ih =>
    intro i; intros; rename_i hi
    have hiR : i < R := by omega
    have hd : decide ((i : Int) < (R : Int)) = true := by simp; omega
    have i0 : (0 : Int) ≤ (i : Int) := by omega
    have k0 : (0 : Int) ≤ (k : Int) := by omega
    obtain ⟨b, hb, _⟩ := get_drop (show i < M.rows.length by omega)
    have hz := eq_true (sz_of hM.sz hb)
    have hbm : b ∈ M.rows := List.mem_of_getElem? hb
    have hb' : (M.rows.map SlI.v)[i]? = some (.lit b.cl b.sz (b.l.map (AVal.int .i64))) := by simp [hb, SlI.v]
    have hbl := hC b hbm
    obtain ⟨x, hx, _⟩ := get_drop (show k < b.l.length by omega)
    have hbz := eq_true (sz_of (hM.each b hbm) hx)
    have hx' : (b.l.map (AVal.int .i64))[k]? = some (.int .i64 x) := by simp [hx]
    have hxm : x = matOf M.m i k := by simp [matOf, MatV.m, hb, hx]
    subst hxm
    have dC : decide ((k : Int) < (C : Int)) = true := by simp; omega
    have ap := append_int (H := X ++ [accI (intsV i fun i => matOf M.m i k)]) (id := nx) (n := i) (f := fun i => matOf M.m i k) (get_snoc hX _) (by omega) (nx + 1) (ro := 0) (Nat.zero_le _)
    have hL : ∀ b, (X ++ [b]).length = nx + 1 := fun b => len_snoc hX b
    have hst : ∀ b b', (X ++ [b]).set nx b' = X ++ [b'] := fun b b' => set_snoc hX b b'
    have lt1 : (nx < nx + 1) = True := eq_true (by omega)
    have htr : ∀ Tm b, trunc (nx + 1) ⟨Tm, X ++ [b], [], 0, [5, 7, 34]⟩ = ⟨Tm, X ++ [b], [], 0, [5, 7, 34]⟩ := fun Tm b => by
      unfold trunc
      rw [if_pos (by rw [len_snoc hX]; exact Nat.le_refl _)]
    have ih' := ih (i + 1)
    simp only [go_sem, simprocAttr, Try.f53, MatV.v] at ih' ⊢
    rw [exec_loop]
    simp only [go_sem, simprocAttr, hd, i0, k0, Int.toNat_natCast, hb', hz, List.length_map, hbl, dC, hx', hbz, hL, ap, hst, lt1, htr, wrap_succ (show i < 2 ^ 63 - 1 by omega)]
    exact ih' _ _ _ _ _ _ _ _ _ _ _ _ _ _ _ _ _ _ _ _ _ _ _ _ _ _ _ _ _ (by omega)

def toD (m : List (List Int)) (R n : Nat) : List RowD := (List.range n).map fun k => (R, intsV R fun i => matOf m i k)
theorem toD_succ (m : List (List Int)) (R n : Nat) : toD m R (n + 1) = toD m R n ++ [(R, intsV R fun i => matOf m i n)] := by simp [toD, List.range_succ]
theorem toD_length (m : List (List Int)) (R n : Nat) : (toD m R n).length = n := by simp [toD]

theorem to_outer {M : MatV} (hM : M.Wf) {R C : Nat} (hR : M.rows.length = R) (hR1 : 1 ≤ R) (hR8 : R ≤ 8) (hC8 : C ≤ 8) (hC : ∀ s ∈ M.rows, s.l.length = C) : ∀ (n k g : Nat) (j1 j2 j3 j4 j6 j7 j8 j9 j12 j13 j14 j15 j16 j17 j18 j19 j20 j21 j22 j23 j24 j25 j26 j27 j28 j29 j30 j31 j32 j33 j34 j35 j36 j37 : AVal), k + n = C →
    Goes (execT env (Try.f53.at [1, 1, 0, 1, 0]) ⟨[M.v, j1, j2, j3, j4, .ref 0 (gR g (toD M.m R k)) 0 (toD M.m R k).length false, j6, j7, j8, j9, .int .i64 C, .int .i64 k, j12, j13, j14, j15, j16, j17, j18, j19, j20, j21, j22, j23, j24, j25, j26, j27, j28, j29, j30, j31, j32, j33, j34, j35, j36, j37], rwH [] [] g 1 (toD M.m R k), [], 0, [5, 7, 34]⟩) fun ex s =>
      ex = .exit 0 ∧ ∃ (g : Nat), FrP 38 [(5, .ref 0 (gR g (toD M.m R C)) 0 (toD M.m R C).length false)] (rwH [] [] g 1 (toD M.m R C)) [] 0 [5, 7, 34] s := by
  intro n
  induction n with
  | zero =>
    intro k g; intros; rename_i hk
    have hd : decide ((k : Int) < (C : Int)) = false := by simp; omega
    have : k = C := by omega
    subst this
    simp only [go_sem, simprocAttr, Try.f53]
    rw [exec_loop]
    simp only [go_sem, simprocAttr, hd]
    exact ⟨g, frP (by kernel_rfl)⟩
  | succ n ih =>
    intro k g; intros; rename_i hk
    have hkC : k < C := by omega
    have hd : decide ((k : Int) < (C : Int)) = true := by simp; omega
    have hX : (rwH [] [] g 1 (toD M.m R k)).length = 1 + 2 * k := by rw [rwH_len, toD_length]; simp
    obtain ⟨ex, st, hx, hp⟩ := to_inner hM hR hR8 hC hX hkC (.ref 0 (gR g (toD M.m R k)) 0 (toD M.m R k).length false) C R 0 _ _ _ _ _ _ _ _ _ _ _ _ _ _ _ _ _ _ _ _ _ _ _ _ _ _ _ _ _ (by omega)
    obtain ⟨rfl, jp, rfl⟩ := hp
    have hrl : ((R, intsV R fun i => matOf M.m i k) : RowD).2.length = R := intsV_length _ _
    have hne : (intsV R fun i => matOf M.m i k) ≠ [] := fun e => by have := intsV_length R fun i => matOf M.m i k; rw [e] at this; simp at this; omega
    have a1 : accI (intsV R fun i => matOf M.m i k) = .cells R 1 true (intsV R fun i => matOf M.m i k) := by unfold accI; rw [if_neg hne, intsV_length]
    have a0 : accI (intsV 0 fun i => matOf M.m i k) = .cells 0 0 false [] := rfl
    rw [a0, a1] at hx
    have hL := len_snoc hX (Blk.cells R 1 true (intsV R fun i => matOf M.m i k))
    have hacc : ∀ Z : Heap, (rwH [] [] g 1 (toD M.m R k) ++ Z)[0]? = some (accR g 1 (toD M.m R k)) := fun Z => rwH_acc Z
    have hpos : ∀ b, ((rwH [] [] g 1 (toD M.m R k) ++ [Blk.cells R 1 true (intsV R fun i => matOf M.m i k)]) ++ [b])[1 + 2 * k + 1]? = some b := fun b => get_snoc hL b
    obtain ⟨g', ap⟩ := append_row (t := 46) (H := (rwH [] [] g 1 (toD M.m R k) ++ [Blk.cells R 1 true (intsV R fun i => matOf M.m i k)]) ++ [Blk.cells 0 1 false [AVal.ref (1 + 2 * k) R 0 R false]]) (q := 0) (j := 1 + 2 * k + 1) (g := g) (p := 1) (rs := toD M.m R k) (r := (R, intsV R fun i => matOf M.m i k)) (cl := false) (ro := 0) ti46 ti51 ⟨rfl, rfl, rfl, rfl⟩ rfl
      (by rw [List.append_assoc]; exact hacc _) (by rw [hpos, toD_length, hrl]) (by rw [toD_length]; omega) (1 + 2 * k + 2) (Nat.le_refl _)
    rw [← toD_succ] at ap
    have hpush := rwH_push (A := []) (B := []) (g := g) (sz := 1) (rs := toD M.m R k) (r := (R, intsV R fun i => matOf M.m i k)) g'
    rw [← toD_succ, toD_length, hrl] at hpush
    have hpush : ((rwH [] [] g 1 (toD M.m R k) ++ [Blk.cells R 1 true (intsV R fun i => matOf M.m i k)]) ++ [Blk.cells 0 1 false [AVal.ref (1 + 2 * k) R 0 R false]]).set 0 (accR g' 1 (toD M.m R (k + 1))) = rwH [] [] g' 1 (toD M.m R (k + 1)) := hpush
    have htr := fun T => rwH_trunc (A := []) (B := []) (g := g') (sz := 1) (rs := toD M.m R k) (r := (R, intsV R fun i => matOf M.m i k)) (m := 1 + 2 * k) (by rw [toD_length]; simp) T 0 [5, 7, 34]
    rw [← toD_succ] at htr
    have hL2 : ∀ b, ((rwH [] [] g 1 (toD M.m R k) ++ [Blk.cells R 1 true (intsV R fun i => matOf M.m i k)]) ++ [b]).length = 1 + 2 * k + 1 + 1 := fun b => len_snoc hL b
    have z2 : (0 < 1 + 2 * k + 1 + 1) = True := eq_true (by omega)
    have ih' := ih (k + 1) g'
    simp only [go_sem, simprocAttr, Try.f53, Int.ofNat_zero, Int.natCast_zero, MatV.v] at ih' hx ⊢
    rw [exec_loop]
    simp only [go_sem, simprocAttr, hd, hX, List.length_map, hR]
    rw [hx]
    simp only [go_sem, simprocAttr, hL, hL2, ap, hpush, htr, z2, wrap_succ (show k < 2 ^ 63 - 1 by omega)]
    exact ih' _ _ _ _ _ _ _ _ _ _ _ _ _ _ _ _ _ _ _ _ _ _ _ _ _ _ _ _ _ _ _ _ _ _ (by omega)

theorem turnedOf_call {t : Tab} {M : MatV} (hO : t.Ok) (hM : M.Wf) (hd : dimsB t M.m = true) (ro : Nat) (H : Heap) (nx : Nat) : callT env 53 [M.v, .int .i64 t.C] ro H nx = some (.ret (matM t.turn fun k i => matOf M.m i k).v, .ups []) := by
  have hR1 := hO.R1
  have hC1 := hO.C1
  have hu : underL 0 [M.v, .int .i64 t.C] = true := by simp [underL, AVal.under, MatV.under]
  unfold dimsB at hd
  rw [Bool.and_eq_true, decide_eq_true_eq, List.all_eq_true] at hd
  obtain ⟨hR, hC⟩ := hd
  have hR : M.rows.length = t.R := by simpa [MatV.m] using hR
  have hC : ∀ s ∈ M.rows, s.l.length = t.C := fun s hs => of_decide_eq_true (hC s.l (List.mem_map.2 ⟨s, hs, rfl⟩))
  obtain ⟨ex, st, hx, hp⟩ := to_outer hM hR hR1 hO.R8 hO.C8 hC t.C 0 0 _ _ _ _ _ _ _ _ _ _ _ _ _ _ _ _ _ _ _ _ _ _ _ _ _ _ _ _ _ _ _ _ _ _ (by omega)
  obtain ⟨rfl, g, jp, rfl⟩ := hp
  have e0 : toD M.m t.R 0 = [] := rfl
  have e1 : rwH [] [] 0 1 [] = [.cells 0 0 false []] := rfl
  have hrun : runT env 53 [M.v, .int .i64 t.C] [] 0 = some (.ret (.ref 0 (gR g (toD M.m t.R t.C)) 0 (toD M.m t.R t.C).length false), rwH [] [] g 1 (toD M.m t.R t.C)) := by
    simp only [go_sem, simprocAttr, Try.f53, e0, e1, gR_nil, List.length_nil, Int.natCast_zero, Int.ofNat_zero] at hx
    rw [run_unfold fn53 rfl]
    simp only [go_sem, simprocAttr, Try.f53]
    rw [hx]
    simp only [go_sem, simprocAttr, unwind, modeEx, resultsOf, one]
  have hne : toD M.m t.R t.C ≠ [] := fun e => by have := toD_length M.m t.R t.C; rw [e] at this; simp at this; omega
  have h1 := toLit_rows (A := []) (B := []) (Z := []) (ok := fun j => decide (0 ≤ j) && !([] : List Nat).contains j) (g := g) (sz := 1) (n := 6) (rs := toD M.m t.R t.C) rfl (fun j hj => by simp)
  rw [List.append_nil] at h1
  have hlit : rowsLit 1 (toD M.m t.R t.C) = (matM t.turn fun k i => matOf M.m i k).v := by
    unfold rowsLit
    rw [if_neg hne]
    unfold matM MatV.v toD
    simp only [List.map_map, vecA]
    show AVal.lit false 1 (List.map _ (List.range t.C)) = AVal.lit false 1 (List.map _ (List.range t.C))
    congr 1
    refine List.map_congr_left fun k _ => ?_
    show AVal.lit false 1 (intsV t.R fun i => matOf M.m i k) = _
    rw [intsV_eq]; rfl
  rw [hlit] at h1
  refine call_back rfl rfl rfl hu hrun ?_ rfl ro H nx
  exact h1

set_option maxRecDepth 10000
set_option maxHeartbeats 2000000

set_option maxRecDepth 10000
set_option maxHeartbeats 2000000

def eR (t : Tab) (c : CutA) (e : Spn) (i : Nat) : Spn := if c.l1.getD i false then plusS e (t.row i) else e
set_option maxRecDepth 10000
set_option maxHeartbeats 2000000

set_option maxRecDepth 10000
set_option maxHeartbeats 2000000

end Go.Proofs.Ytgfejpngfikjiaa.Tidy

