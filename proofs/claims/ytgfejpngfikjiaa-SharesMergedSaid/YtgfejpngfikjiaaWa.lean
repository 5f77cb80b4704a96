/-
 What the functions that SharesMerged reaches compute; the law, run.
-/
import Derived.Test.YtgfejpngfikjiaaCb
import Derived.Test.YtgfejpngfikjiaaCd
import Derived.Test.YtgfejpngfikjiaaCe
set_option linter.all false
namespace Go.Proofs.Ytgfejpngfikjiaa.Tidy
open Go
abbrev RowD := Nat × List AVal
def rowT (sz : Nat) : Nat → List RowD → Heap
 | _, [] => []
 | p, r :: rs => .cells r.1 sz true r.2 :: .cells 0 1 false [.ref p r.1 0 r.2.length false] :: rowT sz (p + 2) rs
def rowR : Nat → List RowD → List AVal
 | _, [] => []
 | p, r :: rs => .ref p r.1 0 r.2.length false :: rowR (p + 2) rs
theorem z0z (sz : Nat) : ∀ (rs : List RowD) (p : Nat), (rowT sz p rs).length = 2 * rs.length
 | [], _ => rfl
 | r :: rs, p => by simp only [rowT, List.length_cons, z0z sz rs]; omega
theorem z1K : ∀ (rs : List RowD) (p : Nat), (rowR p rs).length = rs.length
 | [], _ => rfl
 | r :: rs, p => by simp only [rowR, List.length_cons, z1K rs]
theorem z4R (sz : Nat) (r : RowD) : ∀ (rs : List RowD) (p : Nat), rowT sz p (rs ++ [r]) = rowT sz p rs ++ [.cells r.1 sz true r.2, .cells 0 1 false [.ref (p + 2 * rs.length) r.1 0 r.2.length false]]
 | [], p => rfl
 | x :: rs, p => by
   simp only [List.cons_append, rowT, z4R sz r rs, List.length_cons]
   rw [show p + 2 + 2 * rs.length = p + 2 * (rs.length + 1) by omega]
theorem z3h (r : RowD) : ∀ (rs : List RowD) (p : Nat), rowR p (rs ++ [r]) = rowR p rs ++ [.ref (p + 2 * rs.length) r.1 0 r.2.length false]
 | [], p => rfl
 | x :: rs, p => by
   simp only [List.cons_append, rowR, z3h r rs, List.length_cons]
   rw [show p + 2 + 2 * rs.length = p + 2 * (rs.length + 1) by omega]
theorem z5g (sz : Nat) : ∀ (rs : List RowD) (p i : Nat) (r : RowD), rs[i]? = some r → (rowT sz p rs)[2 * i]? = some (.cells r.1 sz true r.2)
 | [], _, i, r, h => by simp at h
 | x :: rs, p, 0, r, h => by simp at h; subst h; rfl
 | x :: rs, p, i + 1, r, h => by
   simp only [List.getElem?_cons_succ] at h
   have := z5g sz rs (p + 2) i r h
   rw [show 2 * (i + 1) = 2 * i + 1 + 1 by omega]
   simpa [rowT] using this
theorem z8P : ∀ (rs : List RowD) (p i : Nat) (r : RowD), rs[i]? = some r → (rowR p rs)[i]? = some (.ref (p + 2 * i) r.1 0 r.2.length false)
 | [], _, i, r, h => by simp at h
 | x :: rs, p, 0, r, h => by simp at h; subst h; rfl
 | x :: rs, p, i + 1, r, h => by
   simp only [List.getElem?_cons_succ] at h
   have := z8P rs (p + 2) i r h
   rw [show p + 2 * (i + 1) = p + 2 + 2 * i by omega]
   simpa [rowR] using this
section
variable {A B : Heap} {g sz : Nat} {rs : List RowD}
end
theorem z3T {m : Nat} {T : List AVal} {H : Heap} {df : List (Nat × List AVal)} {ro : Nat} {V : List Nat} {i g sz : Nat} {es : List AVal} {p g' o n : Nat} {cl : Bool} (hi : i < m) (hb : H[i]? = some (.cells g sz false es)) (hr : AVal.ref p g' o n cl ∈ es) (hp : m ≤ p) : trunc m ⟨T, H, df, ro, V⟩ = ⟨T, H, df, ro, V⟩ := by
 unfold trunc
 by_cases h1 : H.length ≤ m
 · simp only [h1, if_true]
 · have h2 : (H.take m).all (underB m) = false := by
     cases h : (H.take m).all (underB m) with
     | false => rfl
     | true =>
       have h3 : (H.take m)[i]? = some (.cells g sz false es) := by rw [List.getElem?_take, if_pos hi, hb]
       have h4 := List.all_eq_true.1 h _ (List.mem_of_getElem? h3)
       simp only [underB, Bool.false_or] at h4
       have h5 := underL_mem h4 _ hr
       simp only [AVal.under, decide_eq_true_eq] at h5
       omega
   simp only [h1, if_false, h2, Bool.false_and, Bool.false_eq_true]
theorem z0d {X : Heap} {nx : Nat} (hX : X.length = nx) (b b' : Blk) : (X ++ [b]).set nx b' = X ++ [b'] := by
 subst hX
 rw [List.set_append_right _ _ (by omega), Nat.sub_self]; rfl
theorem z08 {X : Heap} {nx : Nat} (hX : X.length = nx) (b : Blk) : (X ++ [b])[nx]? = some b := by
 subst hX; simp
theorem z06 {X : Heap} {nx : Nat} (hX : X.length = nx) (b : Blk) : (X ++ [b]).length = nx + 1 := by simp [hX]
theorem z4d {X : Heap} {nx i : Nat} (hX : X.length = nx) (b : Blk) (hi : i < nx) : (X ++ [b])[i]? = X[i]? := by
 rw [List.getElem?_append_left (by omega)]
end Go.Proofs.Ytgfejpngfikjiaa.Tidy
namespace Go.Proofs.Ytgfejpngfikjiaa.Tidy
open Go Go.IntWalk
set_option maxRecDepth 10000
set_option linter.unusedSimpArgs false
set_option maxHeartbeats 4000000
theorem z3u {bs new : List AVal} (h : new.length = bs.length) : putList bs 0 new = new := by
 have := putList_append [] new bs (by omega)
 rw [List.nil_append, List.length_nil] at this
 rw [this, List.drop_eq_nil_of_le (by omega)]; simp
def rowA (t : Tab) (i : Nat) : List AVal := (t.cells.getD i []).map spV
theorem z72 (t : Tab) (i : Nat) : (rowA t i).all noRef = true := by
 unfold rowA
 rw [List.all_eq_true]
 intro x hx
 obtain ⟨y, _, rfl⟩ := List.mem_map.1 hx
 rfl
def clD (t : Tab) (n : Nat) : List RowD := (List.range n).map fun i => (0, rowA t (i + 1))
theorem zF6 (t : Tab) (n : Nat) : clD t (n + 1) = clD t n ++ [(0, rowA t (n + 1))] := by simp [clD, List.range_succ]
theorem z2B (t : Tab) (n : Nat) : (clD t n).length = n := by simp [clD]
def clH (T : TabV) (g n : Nat) : Heap := [boxT T, .cells 0 3 false [.agg [.lit true 0 [], .lit true 0 [], .lit true 0 []]], .cells 0 2 true (T.rows.l.map spV), .cells 0 2 true (T.cols.l.map spV), .cells 0 0 false [], .cells 0 0 false [], .cells 0 0 false [],
 .cells 0 3 false [.agg [.ref 2 0 0 T.tab.R false, .ref 3 0 0 T.tab.C false, .ref 10 g 0 (n + 1) false]], .cells 0 2 true (rowA T.tab 0), .cells 0 1 false [.ref 8 0 0 T.tab.C false], .cells g 1 false (.ref 8 0 0 T.tab.C false :: rowR 11 (clD T.tab n))] ++ rowT 2 11 (clD T.tab n)
theorem zG8 {T : TabV} (hT : T.Wf) (hO : T.tab.Ok) : ∀ (n m g : Nat) (j0 j4 j5 j6 j7 j8 j9 j10 j11 j12 j13 j14 j15 j16 j17 j18 j19 j20 j21 j22 j23 j24 j25 j26 j30 j31 j32 j33 j34 j35 j36 j37 j38 j39 j40 j41 j42 j43 j44 j45 j46 : AVal), m + 1 + n = T.tab.R →
    Goes (execT env (Try.f96.at [1, 1, 1, 1, 0, 1, 0]) ⟨[j0, .ptr 0 0 0 0, .ptr 1 0 0 0, .ptr 7 0 0 0, j4, j5, j6, j7, j8, j9, j10, j11, j12, j13, j14, j15, j16, j17, j18, j19, j20, j21, j22, j23, j24, j25, j26, .lit T.cl T.sz (T.cells.map SlV.v), .int .i64 T.tab.R, .int .i64 (m + 1 : Nat), j30, j31, j32, j33, j34, j35, j36, j37, j38, j39, j40, j41, j42, j43, j44, j45, j46], clH T g m, [], 0, [3, 42]⟩) fun ex st =>
     ex = .exit 0 ∧ ∃ (g : Nat), FrP 47 [(2, .ptr 1 0 0 0), (3, .ptr 7 0 0 0)] (clH T g (T.tab.R - 1)) [] 0 [3, 42] st := by
 have hR8 := hO.R8
 have hC8 := hO.C8
 intro n
 induction n with
 | zero =>
   intro m g; intros; rename_i hm
   have hd : decide (((m + 1 : Nat) : Int) < (T.tab.R : Int)) = false := by simp; omega
   have e : T.tab.R - 1 = m := by omega
   rw [e]
   simp only [go_sem, simprocAttr, Try.f96]
   rw [exec_loop]
   simp only [go_sem, simprocAttr, hd]
   exact ⟨g, frP (by kernel_rfl)⟩
 | succ n ih =>
   intro m g; intros; rename_i hm
   have hmR : m + 1 < T.tab.R := by omega
   have hd : decide (((m + 1 : Nat) : Int) < (T.tab.R : Int)) = true := by simp; omega
   have i0 : (0 : Int) ≤ ((m + 1 : Nat) : Int) := by omega
   have c0 : (0 : Int) ≤ (T.tab.C : Int) := by omega
   have m1 : T.tab.C * 17 ≤ z04 := by unfold z04; omega
   obtain ⟨c, hcm, hc1, _, hsz, hcl, hce⟩ := TabV.at hT hO hmR (show 0 < T.tab.C from hO.C1)
   have hra : c.l.map spV = rowA T.tab (m + 1) := by unfold rowA; rw [hce]
   have hrl : (rowA T.tab (m + 1)).length = T.tab.C := by rw [← hra, List.length_map, hcl]
   have htk : (rowA T.tab (m + 1)).take T.tab.C = rowA T.tab (m + 1) := List.take_of_length_le (by omega)
   have hpl : putList (List.replicate T.tab.C (AVal.agg [.int .i64 0, .int .i64 0])) 0 (rowA T.tab (m + 1)) = rowA T.tab (m + 1) := z3u (by rw [hrl, List.length_replicate])
   have hnr : (rowA T.tab (m + 1)).all noRef = true := z72 _ _
   have hTl : (rowT 2 11 (clD T.tab m)).length = 2 * m := by rw [z0z, z2B]
   have hl1 : ∀ b, (rowT 2 11 (clD T.tab m) ++ [b]).length = 2 * m + 1 := fun b => z06 hTl b
   have hg1 : ∀ b, (rowT 2 11 (clD T.tab m) ++ [b])[2 * m]? = some b := fun b => z08 hTl b
   have hs1 : ∀ b b', (rowT 2 11 (clD T.tab m) ++ [b]).set (2 * m) b' = rowT 2 11 (clD T.tab m) ++ [b'] := fun b b' => z0d hTl b b'
   have z0 : (2 * m + 1 + 1 + 1 + 1 + 1 + 1 + 1 + 1 + 1 + 1 + 1 < 2 * m + 1 + 1 + 1 + 1 + 1 + 1 + 1 + 1 + 1 + 1 + 1 + 1) = True := eq_true (Nat.lt_succ_self _)
   have hCl : (clH T g m).length = 2 * m + 1 + 1 + 1 + 1 + 1 + 1 + 1 + 1 + 1 + 1 + 1 := by unfold clH; rw [List.length_append, hTl]; simp only [List.length_cons, List.length_nil]; omega
   have hel : z15 ((clH T g m ++ [.cells 0 2 true (rowA T.tab (m + 1))]) ++ [.cells 0 1 false [.ref (2 * m + 1 + 1 + 1 + 1 + 1 + 1 + 1 + 1 + 1 + 1 + 1) 0 0 T.tab.C false]]) (.ref (2 * m + 1 + 1 + 1 + 1 + 1 + 1 + 1 + 1 + 1 + 1 + 1 + 1) 0 0 1 false) = some (1, [.ref (2 * m + 1 + 1 + 1 + 1 + 1 + 1 + 1 + 1 + 1 + 1 + 1) 0 0 T.tab.C false]) := by
    have := z08 (z06 hCl (.cells 0 2 true (rowA T.tab (m + 1)))) (.cells 0 1 false [.ref (2 * m + 1 + 1 + 1 + 1 + 1 + 1 + 1 + 1 + 1 + 1 + 1) 0 0 T.tab.C false])
    simp only [z15, this]
    rfl
   have hl2 : ∀ b b', (rowT 2 11 (clD T.tab m) ++ [b] ++ [b']).length = 2 * m + 1 + 1 := fun b b' => z06 (hl1 b) b'
   have ap := append_ref (E := env) (ro := 0) (nx := 2 * m + 1 + 1 + 1 + 1 + 1 + 1 + 1 + 1 + 1 + 1 + 1 + 1 + 1) (g := g) (id := 10) (len := m + 1) (fl := false) (bs := .ref 8 0 0 T.tab.C false :: rowR 11 (clD T.tab m)) ti23 ti22 hel ⟨by decide, rfl, rfl⟩ rfl (by simp) rfl (by simp [z1K, z2B]) (by omega) (Nat.zero_le _) (by unfold z04; simp only [List.length_singleton]; omega) (fun h => by cases h)
   have hr1 : (AVal.ref 8 0 0 T.tab.C false :: rowR 11 (clD T.tab m)) ++ [.ref (2 * m + 1 + 1 + 1 + 1 + 1 + 1 + 1 + 1 + 1 + 1 + 1) 0 0 T.tab.C false] = .ref 8 0 0 T.tab.C false :: rowR 11 (clD T.tab (m + 1)) := by
    rw [zF6, z3h, z2B, hrl, show 11 + 2 * m = 2 * m + 1 + 1 + 1 + 1 + 1 + 1 + 1 + 1 + 1 + 1 + 1 by omega]; rfl
   have ht1 : rowT 2 11 (clD T.tab m) ++ [.cells 0 2 true (rowA T.tab (m + 1))] ++ [.cells 0 1 false [.ref (2 * m + 1 + 1 + 1 + 1 + 1 + 1 + 1 + 1 + 1 + 1 + 1) 0 0 T.tab.C false]] = rowT 2 11 (clD T.tab (m + 1)) := by
    rw [zF6, z4R, z2B, hrl, show 11 + 2 * m = 2 * m + 1 + 1 + 1 + 1 + 1 + 1 + 1 + 1 + 1 + 1 + 1 by omega]; simp
   have hTl' : (rowT 2 11 (clD T.tab (m + 1))).length = 2 * m + 1 + 1 := by rw [z0z, z2B]; omega
   rw [hr1] at ap
   simp only [clH, boxT, List.cons_append, List.nil_append, List.length_singleton, ht1] at ap
   have hmem : AVal.ref (2 * m + 1 + 1 + 1 + 1 + 1 + 1 + 1 + 1 + 1 + 1 + 1) 0 0 T.tab.C false ∈ (AVal.ref 8 0 0 T.tab.C false :: rowR 11 (clD T.tab (m + 1))) := by rw [← hr1]; simp
   have htr : ∀ Tm V, trunc (2 * m + 1 + 1 + 1 + 1 + 1 + 1 + 1 + 1 + 1 + 1 + 1) ⟨Tm, clH T (g + 1) (m + 1), [], 0, V⟩ = ⟨Tm, clH T (g + 1) (m + 1), [], 0, V⟩ := fun Tm V => z3T (i := 10) (by omega) (by unfold clH; rfl) hmem (Nat.le_refl _)
   simp only [clH, boxT, List.cons_append, List.nil_append] at htr
   have wi : IntKind.i64.wrap (((m + 1 : Nat) : Int) + 1) = ((m + 1 + 1 : Nat) : Int) := z00 (by omega)
   have z1 : (10 < 2 * m + 1 + 1 + 1 + 1 + 1 + 1 + 1 + 1 + 1 + 1 + 1 + 1 + 1) = True := eq_true (by omega)
   have z2 : (7 < 2 * m + 1 + 1 + 1 + 1 + 1 + 1 + 1 + 1 + 1 + 1 + 1 + 1 + 1) = True := eq_true (by omega)
   have ih' := ih (m + 1) (g + 1)
   simp only [go_sem, simprocAttr, Try.f96, clH, boxT, hsz] at ih' ⊢
   rw [exec_loop]
   simp only [go_sem, simprocAttr, hd, i0, Int.toNat_natCast, hc1, hcl, List.length_map, c0, m1, hra, hTl, hl1, hg1, hs1, htk, hpl, hrl, hnr, z0, hl2, ap, ht1, hTl', z1, z2, wi, htr]
   exact ih' _ _ _ _ _ _ _ _ _ _ _ _ _ _ _ _ _ _ _ _ _ _ _ _ _ _ _ _ _ _ _ _ _ _ _ _ _ _ _ _ _ (by omega)
theorem bd25 (a b c d a' b' c' d' : Nat) (e e' : Bool) : build env ⟨.struct [(22, 0), (22, 1), (23, 2)], 3, 72, .agg [.lit true 0 [], .lit true 0 [], .lit true 0 []]⟩ [(0, .ref a b c d e), (1, .ref a' b' c' d' e')] = some (.agg [.ref a b c d e, .ref a' b' c' d' e', .lit true 0 []]) := rfl
def clX (T : TabV) (nx g : Nat) : Heap := [boxT T, .cells 0 3 false [.agg [.ref (nx + 2) 0 0 T.tab.R false, .ref (nx + 3) 0 0 T.tab.C false, .ref (nx + 10) g 0 T.tab.R false]], .cells 0 2 true (T.rows.l.map spV), .cells 0 2 true (T.cols.l.map spV), .cells 0 0 false [], .cells 0 0 false [], .cells 0 0 false [],
 .cells 0 3 false [.agg [.ref (nx + 2) 0 0 T.tab.R false, .ref (nx + 3) 0 0 T.tab.C false, .ref (nx + 10) g 0 T.tab.R false]], .cells 0 2 true (rowA T.tab 0), .cells 0 1 false [.ref (nx + 8) 0 0 T.tab.C false], .cells g 1 false (.ref (nx + 8) 0 0 T.tab.C false :: rowR (nx + 11) (clD T.tab (T.tab.R - 1)))] ++ rowT 2 (nx + 11) (clD T.tab (T.tab.R - 1))
def clP (T : TabV) : Heap := [boxT T, .cells 0 3 false [.agg [.lit true 0 [], .lit true 0 [], .lit true 0 []]], .cells 0 2 true (T.rows.l.map spV), .cells 0 2 true (T.cols.l.map spV), .cells 0 0 false [], .cells 0 0 false [], .cells 0 0 false [],
 .cells 0 3 false [.agg [.ref 2 0 0 T.tab.R false, .ref 3 0 0 T.tab.C false, .lit true 0 []]], .cells 0 2 true (rowA T.tab 0), .cells 0 1 false [.ref 8 0 0 T.tab.C false]]
theorem zC6 (T : TabV) : z0H env 0 10 23 (.lit true 0 []) (.ref 9 0 0 1 false) (clP T) = some (.ref 10 0 0 1 false, [(10, .cells 0 1 false [.ref 8 0 0 T.tab.C false])]) := by
 have h := append_lit (E := env) (ro := 0) (nx := 10) (sz := 0) (es := []) (H := clP T) (x := .ref 9 0 0 1 false) (nsz := 1) (new := [.ref 8 0 0 T.tab.C false]) ti23 ti22 rfl ⟨by decide, rfl, rfl⟩ rfl (by simp) (.inl rfl) (show (0 + 1) * 25 ≤ z04 by decide) (fun h => by cases h)
 rw [h]; rfl
theorem zHq {T : TabV} (hT : T.Wf) (hO : T.tab.Ok) : ∃ g, runT env 96 [T.v] [] 0 = some (.ret (.agg [.ref 2 0 0 T.tab.R false, .ref 3 0 0 T.tab.C false, .ref 10 g 0 T.tab.R false]), clX T 0 g) := by
 have hR8 := hO.R8
 have hC8 := hO.C8
 have hR1 := hO.R1
 have hd : decide ((0 : Int) < (T.tab.R : Int)) = true := by simp; omega
 have lr : T.rows.l.length = T.tab.R := rfl
 have lc : T.cols.l.length = T.tab.C := rfl
 have ll : T.cells.length = T.tab.R := by have := hO.len; simpa [TabV.tab] using this
 have r0 : (0 : Int) ≤ (T.tab.R : Int) := by omega
 have c0 : (0 : Int) ≤ (T.tab.C : Int) := by omega
 have m0 : T.tab.R * 17 ≤ z04 := by unfold z04; omega
 have m1 : T.tab.C * 17 ≤ z04 := by unfold z04; omega
 obtain ⟨c, hcm, hc1, _, hsz, hcl, hce⟩ := TabV.at hT hO hR1 (show 0 < T.tab.C from hO.C1)
 have hra : c.l.map spV = rowA T.tab 0 := by unfold rowA; rw [hce]
 have hrl : (rowA T.tab 0).length = T.tab.C := by rw [← hra, List.length_map, hcl]
 have htk : (rowA T.tab 0).take T.tab.C = rowA T.tab 0 := List.take_of_length_le (by omega)
 have hpl : putList (List.replicate T.tab.C (AVal.agg [.int .i64 0, .int .i64 0])) 0 (rowA T.tab 0) = rowA T.tab 0 := z3u (by rw [hrl, List.length_replicate])
 have hnr : (rowA T.tab 0).all noRef = true := z72 _ _
 have tk1 : (T.rows.l.map spV).take T.tab.R = T.rows.l.map spV := List.take_of_length_le (by rw [List.length_map]; exact Nat.le_refl _)
 have tk2 : (T.cols.l.map spV).take T.tab.C = T.cols.l.map spV := List.take_of_length_le (by rw [List.length_map]; exact Nat.le_refl _)
 have pl1 : putList (List.replicate T.tab.R (AVal.agg [.int .i64 0, .int .i64 0])) 0 (T.rows.l.map spV) = T.rows.l.map spV := z3u (by rw [List.length_map, List.length_replicate]; rfl)
 have pl2 : putList (List.replicate T.tab.C (AVal.agg [.int .i64 0, .int .i64 0])) 0 (T.cols.l.map spV) = T.cols.l.map spV := z3u (by rw [List.length_map, List.length_replicate]; rfl)
 have all_pure : ∀ l : List Spn, (l.map spV).all noRef = true := fun l => by
  rw [List.all_eq_true]
  intro x hx
  obtain ⟨y, _, rfl⟩ := List.mem_map.1 hx
  rfl
 have hs1 : ∀ {α : Type} (l : List α), l = [] ∨ (2 : Nat) = 2 := fun _ => .inr rfl
 have hzr : (T.rows.l.map spV).isEmpty = false := by
  cases h : T.rows.l with
  | nil => rw [h] at lr; simp at lr; omega
  | cons a l => rfl
 have hzc : (T.cols.l.map spV).isEmpty = false := by
  cases h : T.cols.l with
  | nil => rw [h] at lc; simp at lc; have := hO.C1; omega
  | cons a l => rfl
 have z1 : T.rows.sz = 2 := (TabV.rowAt hT hR1).2
 have z2 : T.cols.sz = 2 := (TabV.colAt hT (show 0 < T.tab.C from hO.C1)).2
 obtain ⟨ex, st, hx, hp⟩ := zG8 hT hO (T.tab.R - 1) 0 0 _ _ _ _ _ _ _ _ _ _ _ _ _ _ _ _ _ _ _ _ _ _ _ _ _ _ _ _ _ _ _ _ _ _ _ _ _ _ _ _ _ (by omega)
 obtain ⟨rfl, g, jp, rfl⟩ := hp
 refine ⟨g, ?_⟩
 have e0 : clD T.tab 0 = [] := rfl
 have e1 : ((0 + 1 : Nat) : Int) = 1 := rfl
 have eR : T.tab.R - 1 + 1 = T.tab.R := by omega
 simp only [go_sem, simprocAttr, Try.f96, clH, boxT, hsz, e0, rowR, rowT, e1] at hx
 have htr : ∀ Tm V, trunc 8 ⟨Tm, clH T 0 0, [], 0, V⟩ = ⟨Tm, clH T 0 0, [], 0, V⟩ := fun Tm V => by
  unfold trunc clH
  simp [clD, rowT, rowR, underB, underL, AVal.under, boxT]
 have w1 : IntKind.i64.wrap 1 = 1 := by decide
 simp only [clH, boxT, e0, rowR, rowT, List.cons_append, List.nil_append] at htr
 have ap := zC6 T
 simp only [clP, boxT] at ap
 rw [run_unfold fn96 rfl]
 simp only [go_sem, simprocAttr, Try.f96, z0E, List.length_map, lr, lc, r0, c0, m0, m1, Int.toNat_natCast, bd25]
 rw [apart_ok]
 · simp only [go_sem, simprocAttr, z0E, List.length_map, lr, lc, z1, z2, hzr, hzc, tk1, tk2, pl1, pl2, all_pure, ll]
   rw [exec_loop]
   simp only [go_sem, simprocAttr, hd, hc1, hsz, hcl, List.length_map, c0, m1, Int.toNat_natCast, hra, hrl, htk, hpl, hnr, ap, htr, w1]
   rw [hx]
   simp only [go_sem, simprocAttr, unwind, modeEx, resultsOf, one, eR]
   rfl
 · kernel_rfl
set_option maxRecDepth 10000
set_option maxHeartbeats 2000000
theorem z3N {H : Heap} : ∀ (ids seen : List Nat) (n : Nat), (∀ id ∈ ids, ∃ g sz es, H[id]? = some (.cells g sz true es)) → ids.length ≤ n → ∃ l, reach H n ids seen = some l
 | [], seen, n, _, _ => by cases n <;> exact ⟨_, rfl⟩
 | id :: ids, seen, n, hf, hl => by
   obtain ⟨n, rfl⟩ : ∃ m, n = m + 1 := ⟨n - 1, by simp at hl; omega⟩
   obtain ⟨g, sz, es, hH⟩ := hf id (by simp)
   have ih := fun seen => z3N (H := H) ids seen n (fun x hx => hf x (by simp [hx])) (by simp at hl; omega)
   simp only [reach, hH, if_true]
   split
   · exact ih _
   · exact ih _
theorem z21 {f : Nat} {args qs : List AVal} {lent : List Nat} {v w : AVal} {H H' : Heap} (hw : (env.hint f).whole = false) (hka : (env.hint f).keepAll = false) (hk : (env.hint f).keep = []) (hro : (env.hint f).ro = false)
    (hl : lend H (env.hint f).lits args 0 = some (qs, lent)) (hq : underL 0 qs = true) (hr : runT env f qs [] 0 = some (.ret v, H')) (hb : handBack H' 0 [] 4 v = some w) (hn : noRef w = true) (nx : Nat) :
    ∃ us, callT env f args 0 H nx = some (.ret w, .ups us) ∧ (w.noLit = true → us = []) := by
 unfold callT
 rw [callF_small hw, hl]
 have h0 : (lent.all fun id => decide (0 ≤ id)) = true := List.all_eq_true.2 fun _ _ => by simp
 have h1 : (lent.all fun id => !([] : List Nat).contains id) = true := List.all_eq_true.2 fun _ _ => by simp
 simp only [refs_noRef.2 qs hq, reach, getAll, h1, hro, List.all_nil, Bool.not_true, Bool.or_false, Bool.and_false, Bool.false_eq_true, if_false, List.map_nil, List.length_nil, (ren_noRef (idx [])).2 qs hq]
 rw [hr]
 simp only [Option.bind_some, callBack, keepOf, hka, hk, Bool.false_eq_true, if_false, List.filter_nil, uniq, getAll, List.length_nil, hb, h0, if_true]
 rw [(ren_noRef _).1 w hn]
 cases hnl : w.noLit with
 | true =>
   refine ⟨[], ?_, fun _ => rfl⟩
   simp [callUpd, hro, numbered]
 | false =>
   simp only [Bool.false_and, Bool.or_false]
   split
   · exact ⟨_, rfl, fun h => by cases h⟩
   · exact ⟨_, rfl, fun h => by cases h⟩
structure TbAt (H : Heap) (a b q ga gb g : Nat) (ps : Nat → Nat) (t : Tab) : Prop where
 rows : H[a]? = some (.cells ga 2 true (t.rows.map spV))
 cols : H[b]? = some (.cells gb 2 true (t.cols.map spV))
 acc : H[q]? = some (.cells g 1 false (vecA t.R fun i => .ref (ps i) 0 0 t.C false))
 row : ∀ i, i < t.R → H[ps i]? = some (.cells 0 2 true (rowA t i))
 ab : a ≠ b
 aq : a ≠ q
 bq : b ≠ q
 pa : ∀ i, i < t.R → ps i ≠ a ∧ ps i ≠ b ∧ ps i ≠ q
 pp : ∀ i j, i < t.R → j < t.R → ps i = ps j → i = j
def memT (t : Tab) (a b q ga gb g : Nat) : AVal := .agg [.ref a ga 0 t.R false, .ref b gb 0 t.C false, .ref q g 0 t.R false]
def canon (t : Tab) : TabV := ⟨⟨false, 2, t.rows⟩, ⟨false, 2, t.cols⟩, false, 1, t.cells.map fun l => ⟨false, 2, l⟩⟩
theorem z0P (t : Tab) : (canon t).tab = t := by
 unfold canon TabV.tab
 simp [Function.comp_def]
theorem z1S {t : Tab} (hR : t.R ≤ 8) (hC : t.C ≤ 8) (hl : t.cells.length = t.R) (hw : ∀ l ∈ t.cells, l.length = t.C) : (canon t).Wf where
 rows := .inr rfl
 cols := .inr rfl
 cells := .inr rfl
 each s hs := by obtain ⟨l, _, rfl⟩ := List.mem_map.1 hs; exact .inr rfl
 lr := by show t.R < _; omega
 lc := by show t.C < _; omega
 ll := by simp only [canon, List.length_map]; omega
 le s hs := by
  obtain ⟨l, hl, rfl⟩ := List.mem_map.1 hs
  have := hw l hl
  show l.length < _; omega
theorem z0V {t : Tab} (hl : t.cells.length = t.R) (hw : ∀ l ∈ t.cells, l.length = t.C) {i : Nat} (hi : i < t.R) : (rowA t i).length = t.C := by
 unfold rowA
 rw [List.length_map]
 exact hw _ (z1D (by omega) _)
section
variable {H : Heap} {a b q ga gb g : Nat} {ps : Nat → Nat} {t : Tab}
theorem TbAt.mono (h : TbAt H a b q ga gb g ps t) {H' : Heap} (e : ∀ i, i = a ∨ i = b ∨ i = q ∨ (∃ j, j < t.R ∧ i = ps j) → H'[i]? = H[i]?) : TbAt H' a b q ga gb g ps t where
 rows := by rw [e a (.inl rfl)]; exact h.rows
 cols := by rw [e b (.inr (.inl rfl))]; exact h.cols
 acc := by rw [e q (.inr (.inr (.inl rfl)))]; exact h.acc
 row i hi := by rw [e _ (.inr (.inr (.inr ⟨i, hi, rfl⟩)))]; exact h.row i hi
 ab := h.ab
 aq := h.aq
 bq := h.bq
 pa := h.pa
 pp := h.pp
theorem TbAt.lt (h : TbAt H a b q ga gb g ps t) : a < H.length ∧ b < H.length ∧ q < H.length ∧ ∀ i, i < t.R → ps i < H.length :=
 ⟨(List.getElem?_eq_some_iff.1 h.rows).1, (List.getElem?_eq_some_iff.1 h.cols).1, (List.getElem?_eq_some_iff.1 h.acc).1, fun i hi => (List.getElem?_eq_some_iff.1 (h.row i hi)).1⟩
theorem TbAt.more (h : TbAt H a b q ga gb g ps t) (Z : Heap) : TbAt (H ++ Z) a b q ga gb g ps t := by
 obtain ⟨l1, l2, l3, l4⟩ := h.lt
 refine h.mono fun i hi => ?_
 rw [List.getElem?_append_left]
 rcases hi with rfl | rfl | rfl | ⟨j, hj, rfl⟩
 · exact l1
 · exact l2
 · exact l3
 · exact l4 j hj
theorem TbAt.toLit (h : TbAt H a b q ga gb g ps t) (hl : t.cells.length = t.R) (hw : ∀ l ∈ t.cells, l.length = t.C) (ok : Nat → Bool) (ha : ok a = true) (hb : ok b = true) (hq : ok q = true) (hp : ∀ i, i < t.R → ok (ps i) = true) (n : Nat) : toLit ok H (n + 3) (memT t a b q ga gb g) = some (canon t).v := by
 have t1 : (t.rows.map spV).take t.R = t.rows.map spV := List.take_of_length_le (by simp)
 have t2 : (t.cols.map spV).take t.C = t.cols.map spV := List.take_of_length_le (by simp)
 have t3 : (vecA t.R fun i => AVal.ref (ps i) 0 0 t.C false).take t.R = vecA t.R fun i => AVal.ref (ps i) 0 0 t.C false := List.take_of_length_le (by rw [z0C]; exact Nat.le_refl _)
 have hm : mapO (Tidy.toLit ok H (n + 1)) (vecA t.R fun i => AVal.ref (ps i) 0 0 t.C false) = some (vecA t.R fun i => AVal.lit false 2 (rowA t i)) := by
  have : ∀ (m : Nat), m ≤ t.R → mapO (Tidy.toLit ok H (n + 1)) ((List.range m).map fun i => AVal.ref (ps i) 0 0 t.C false) = some ((List.range m).map fun i => AVal.lit false 2 (rowA t i)) := by
   intro m hm
   have gen : ∀ l : List Nat, (∀ i ∈ l, i < t.R) → mapO (Tidy.toLit ok H (n + 1)) (l.map fun i => AVal.ref (ps i) 0 0 t.C false) = some (l.map fun i => AVal.lit false 2 (rowA t i)) := by
    intro l
    induction l with
    | nil => intro _; rfl
    | cons i l ih =>
      intro hl'
      have hi := hl' i (by simp)
      have hr := h.row i hi
      have hrl := z0V hl hw hi
      have htk : (rowA t i).take t.C = rowA t i := List.take_of_length_le (by omega)
      simp only [List.map_cons, mapO, ih fun j hj => hl' j (by simp [hj])]
      simp [Tidy.toLit, noRef, AVal.under, hr, hp i hi, hrl, htk]
   exact gen _ fun i hi => by rw [List.mem_range] at hi; omega
  exact this t.R (Nat.le_refl _)
 have ec : (canon t).v = .agg [.lit false 2 (t.rows.map spV), .lit false 2 (t.cols.map spV), .lit false 1 (vecA t.R fun i => AVal.lit false 2 (rowA t i))] := by
  show AVal.agg [_, _, .lit false 1 ((t.cells.map fun l => (⟨false, 2, l⟩ : SlV)).map SlV.v)] = _
  have e : (t.cells.map fun l => (⟨false, 2, l⟩ : SlV)).map SlV.v = vecA t.R fun i => AVal.lit false 2 (rowA t i) := ?_
  · rw [e]; rfl
  unfold vecA
  rw [List.map_map]
  apply List.ext_getElem
  · simp [hl]
  · intro i h1 h2
    have hi : i < t.cells.length := by simpa using h1
    simp [rowA, SlV.v, hi]
 have ea : Tidy.toLit ok H (n + 2) (.ref a ga 0 t.R false) = some (.lit false 2 (t.rows.map spV)) := by
  simp [Tidy.toLit, noRef, AVal.under, h.rows, ha, t1]
 have eb : Tidy.toLit ok H (n + 2) (.ref b gb 0 t.C false) = some (.lit false 2 (t.cols.map spV)) := by
  simp [Tidy.toLit, noRef, AVal.under, h.cols, hb, t2]
 have eq : Tidy.toLit ok H (n + 2) (.ref q g 0 t.R false) = some (.lit false 1 (vecA t.R fun i => AVal.lit false 2 (rowA t i))) := by
  unfold Tidy.toLit
  simp only [noRef, AVal.under, Nat.not_lt_zero, decide_false, Bool.false_eq_true, if_false, h.acc, hq, decide_true, Nat.zero_add, z0C, Nat.le_refl, Bool.and_true, if_true, List.drop_zero, t3, hm]
  rfl
 rw [ec]
 unfold Tidy.toLit
 simp only [memT, noRef, AVal.under, underL, Nat.not_lt_zero, decide_false, Bool.false_and, Bool.false_eq_true, if_false, mapO, ea, eb, eq]
 rfl
theorem TbAt.lend (h : TbAt H a b q ga gb g ps t) (hR : t.R ≤ 8) (hl : t.cells.length = t.R) (hw : ∀ l ∈ t.cells, l.length = t.C) {lits : List Nat} (h0 : lits.contains 0 = true) {args : List AVal} (ha : underL 0 args = true) : ∃ ids, lend H lits (memT t a b q ga gb g :: args) 0 = some ((canon t).v :: args, ids) := by
 have hlit := h.toLit hl hw (fun _ => true) rfl rfl rfl (fun _ _ => rfl) 5
 have hre : ∃ l, reach H fuel0 (memT t a b q ga gb g).refs [] = some l := by
  have hrefs : (memT t a b q ga gb g).refs = [a, b, q] := rfl
  rw [hrefs]
  have hab : b ≠ a := Ne.symm h.ab
  have haq : q ≠ a := Ne.symm h.aq
  have hbq : q ≠ b := Ne.symm h.bq
  have hrl : refsL (vecA t.R fun i => AVal.ref (ps i) 0 0 t.C false) = vecA t.R ps := by
   unfold vecA
   induction (List.range t.R) with
   | nil => rfl
   | cons i l ih => simp [refsL, AVal.refs, ih]
  obtain ⟨l, hl⟩ := z3N (H := H) (vecA t.R ps) [a, b, q] 61 (fun id hid => by
   unfold vecA at hid
   obtain ⟨i, hi, rfl⟩ := List.mem_map.1 hid
   exact ⟨_, _, _, h.row i (List.mem_range.1 hi)⟩) (by rw [z0C]; omega)
  refine ⟨l, ?_⟩
  unfold fuel0
  simp [reach, h.rows, h.cols, h.acc, hab, haq, hbq, hrl, hl]
 obtain ⟨l, hre⟩ := hre
 have hnr : noRef (memT t a b q ga gb g) = false := rfl
 refine ⟨l ++ [], ?_⟩
 unfold Tidy.lend
 rw [lend_noRef H lits args 1 ha]
 simp only [h0, hnr, Bool.not_false, Bool.and_self, if_true, hlit, hre]
end
theorem renR_rows (f : Nat → Option Nat) (nx : Nat) : ∀ (rs : List RowD) (p : Nat), (∀ i, i < rs.length → f (p + 2 * i) = some (nx + p + 2 * i)) → renL f (rowR p rs) = rowR (nx + p) rs
 | [], _, _ => rfl
 | r :: rs, p, h => by
   have h0 := h 0 (by simp)
   have ih := renR_rows f nx rs (p + 2) fun i hi => by
    have := h (i + 1) (by simp; omega)
    rw [show p + 2 + 2 * i = p + 2 * (i + 1) by omega, this, show nx + p + 2 * (i + 1) = nx + (p + 2) + 2 * i by omega]
   simp only [Nat.mul_zero, Nat.add_zero] at h0
   simp only [rowR, renL, AVal.ren, h0, ih, Nat.add_assoc]
theorem z9Q (f : Nat → Option Nat) (nx sz : Nat) : ∀ (rs : List RowD) (p : Nat), (∀ i, i < rs.length → f (p + 2 * i) = some (nx + p + 2 * i)) → (rowT sz p rs).map (renB f) = rowT sz (nx + p) rs
 | [], _, _ => rfl
 | r :: rs, p, h => by
   have h0 := h 0 (by simp)
   have ih := z9Q f nx sz rs (p + 2) fun i hi => by
    have := h (i + 1) (by simp; omega)
    rw [show p + 2 + 2 * i = p + 2 * (i + 1) by omega, this, show nx + p + 2 * (i + 1) = nx + (p + 2) + 2 * i by omega]
   simp only [Nat.mul_zero, Nat.add_zero] at h0
   simp only [rowT, List.map_cons, renB, renL, AVal.ren, h0, ih, Nat.add_assoc, if_true, Bool.false_eq_true, if_false]
def clP' (nx i : Nat) : Nat := if i = 0 then nx + 8 else nx + 9 + 2 * i
theorem z61 (T : TabV) (nx g : Nat) (hR : 1 ≤ T.tab.R) : (clX T nx g).length = 9 + 2 * T.tab.R := by
 unfold clX
 rw [List.length_append, z0z, z2B]
 simp only [List.length_cons, List.length_nil]; omega
theorem z3M {T : TabV} (hT : T.Wf) (hO : T.tab.Ok) : ∃ g, ∀ (ro : Nat) (H : Heap) (nx : Nat), callT env 96 [T.v] ro H nx = some (.ret (memT T.tab (nx + 2) (nx + 3) (nx + 10) 0 0 g), .ups (numbered nx (clX T nx g))) := by
 have hR1 := hO.R1
 obtain ⟨g, hr⟩ := zHq hT hO
 refine ⟨g, fun ro H nx => ?_⟩
 have hlen := z61 T 0 g hR1
 have hc : ∀ j, j < 9 + 2 * T.tab.R → (List.range' 0 (clX T 0 g).length).contains j = true := fun j hj => by
  rw [hlen]; simp; omega
 have hf : ∀ j, j < 9 + 2 * T.tab.R → nxF nx (clX T 0 g).length j = some (nx + j) := fun j hj => by
  unfold nxF; rw [hlen, if_pos hj]
 rw [z1R rfl rfl rfl z0b hr (w := .agg [.ref 2 0 0 T.tab.R false, .ref 3 0 0 T.tab.C false, .ref 10 g 0 T.tab.R false]) (by
  simp only [handBack, mapO, hc 2 (by omega), hc 3 (by omega), hc 10 (by omega), Bool.or_true, if_true, Option.map_some])]
 have e1 : (clX T 0 g).map (renB (nxF nx (clX T 0 g).length)) = clX T nx g := by
  generalize hF : nxF nx (clX T 0 g).length = F at hf ⊢
  have r1 := z9Q F nx 2 (clD T.tab (T.tab.R - 1)) 11 fun i hi => by
   rw [z2B] at hi
   rw [hf _ (by omega)]; congr 1; omega
  have r2 := renR_rows F nx (clD T.tab (T.tab.R - 1)) 11 fun i hi => by
   rw [z2B] at hi
   rw [hf _ (by omega)]; congr 1; omega
  unfold clX
  simp only [List.map_append, List.map_cons, List.map_nil, Nat.zero_add, r1, z3F]
  simp only [renB, renL, AVal.ren, hf 2 (by omega), hf 3 (by omega), hf 8 (by omega), hf 10 (by omega), r2, if_true, Bool.false_eq_true, if_false]
 rw [e1]
 simp only [AVal.ren, renL, hf 2 (by omega), hf 3 (by omega), hf 10 (by omega), memT]
theorem z5U {T : TabV} (hO : T.tab.Ok) (H : Heap) (g : Nat) : TbAt (H ++ clX T H.length g) (H.length + 2) (H.length + 3) (H.length + 10) 0 0 g (clP' H.length) T.tab := by
 have hR1 := hO.R1
 have hg : ∀ i, (H ++ clX T H.length g)[H.length + i]? = (clX T H.length g)[i]? := fun i => by
  rw [List.getElem?_append_right (by omega), Nat.add_sub_cancel_left]
 have hacc : AVal.ref (H.length + 8) 0 0 T.tab.C false :: rowR (H.length + 11) (clD T.tab (T.tab.R - 1)) = vecA T.tab.R fun i => .ref (clP' H.length i) 0 0 T.tab.C false := by
  apply List.ext_getElem?
  intro i
  cases i with
  | zero => rw [vecA_get _ (by omega)]; rfl
  | succ i =>
    rw [List.getElem?_cons_succ]
    by_cases hi : i + 1 < T.tab.R
    · rw [vecA_get _ hi]
      have hd : (clD T.tab (T.tab.R - 1))[i]? = some (0, rowA T.tab (i + 1)) := by
       unfold clD
       rw [List.getElem?_map, List.getElem?_range (by omega)]; rfl
      rw [z8P _ _ _ _ hd]
      have hrl := z0V (t := T.tab) hO.len hO.wid hi
      show some (AVal.ref (H.length + 11 + 2 * i) 0 0 (rowA T.tab (i + 1)).length false) = _
      rw [hrl]
      unfold clP'
      rw [if_neg (by omega), show H.length + 9 + 2 * (i + 1) = H.length + 11 + 2 * i by omega]
    · rw [List.getElem?_eq_none (by rw [z1K, z2B]; omega), List.getElem?_eq_none (by rw [z0C]; omega)]
 refine ⟨?_, ?_, ?_, fun i hi => ?_, by omega, by omega, by omega, fun i hi => ?_, fun i j hi hj e => ?_⟩
 · rw [hg]; rfl
 · rw [hg]; rfl
 · rw [hg, ← hacc]; rfl
 · unfold clP'
   by_cases h0 : i = 0
   · subst h0; rw [if_pos rfl, hg]; rfl
   · rw [if_neg h0, Nat.add_assoc, hg]
     have hd : (clD T.tab (T.tab.R - 1))[i - 1]? = some (0, rowA T.tab i) := by
      unfold clD
      rw [List.getElem?_map, List.getElem?_range (by omega)]
      simp only [Option.map_some]
      rw [show i - 1 + 1 = i by omega]
     have := z5g 2 (clD T.tab (T.tab.R - 1)) (H.length + 11) (i - 1) _ hd
     unfold clX
     rw [List.getElem?_append_right (by simp; omega)]
     simp only [List.length_cons, List.length_nil]
     rw [show 9 + 2 * i - (0 + 1 + 1 + 1 + 1 + 1 + 1 + 1 + 1 + 1 + 1 + 1) = 2 * (i - 1) by omega]
     exact this
 · unfold clP'
   split <;> omega
 · unfold clP' at e
   split at e <;> split at e <;> omega
set_option maxRecDepth 10000
set_option maxHeartbeats 2000000
set_option maxRecDepth 10000
set_option maxHeartbeats 2000000
def matM (t : Tab) (x : Nat → Nat → Int) : MatV := ⟨false, 1, vecA t.R fun i => ⟨false, 1, vecA t.C (x i)⟩⟩
def MatAns (t : Tab) (v : AVal) : Prop := (t.ok = false ∧ v = .tuple [.lit true 0 [], .bool false, .int .i64 60]) ∨ (t.Ok ∧ canB t = false ∧ v = .tuple [.lit true 0 [], .bool false, .int .i64 0]) ∨
 (t.Ok ∧ canB t = true ∧ ∃ x, Fits t x ∧ v = .tuple [(matM t x).v, .bool true, .int .i64 0])
theorem MatAns.pure {t : Tab} {v : AVal} (h : MatAns t v) : noRef v = true := by
 rcases h with ⟨_, rfl⟩ | ⟨_, _, rfl⟩ | ⟨_, _, x, _, rfl⟩ <;> rfl
set_option maxRecDepth 10000
set_option maxHeartbeats 2000000
def Tab.setCell (t : Tab) (i k : Nat) (x : Spn) : Tab := ⟨t.rows, t.cols, t.cells.set i ((t.cells.getD i []).set k x)⟩
theorem z2n {t : Tab} (hO : t.Ok) {i k : Nat} (hi : i < t.R) (hk : k < t.C) : (rowA t i)[k]? = some (spV (t.cell i k)) := by
 have h1 : t.cells.getD i [] ∈ t.cells := z1D (by rw [hO.len]; exact hi) _
 have hw := hO.wid _ h1
 unfold rowA Tab.cell
 rw [List.getElem?_map, List.getElem?_eq_getElem (by omega), List.getD_eq_getElem?_getD (l := t.cells.getD i []), List.getElem?_eq_getElem (by omega)]
 rfl
noncomputable def attB (t : Tab) (i k n : Int) : Bool := (t.cell i.toNat k.toNat).has n && canB (t.setCell i.toNat k.toNat ⟨n, n⟩)
def AttAns (t : Tab) (i k n : Int) (v : AVal) : Prop := (askS t i k ≠ 0 ∧ v = .tuple [.lit true 0 [], .bool false, .int .i64 (askS t i k)]) ∨
 (askS t i k = 0 ∧ attB t i k n = false ∧ v = .tuple [.lit true 0 [], .bool false, .int .i64 0]) ∨
 (askS t i k = 0 ∧ t.Ok ∧ outB t i k = false ∧ attB t i k n = true ∧ ∃ x, Fits (t.setCell i.toNat k.toNat ⟨n, n⟩) x ∧ v = .tuple [(matM t x).v, .bool true, .int .i64 0])
theorem AttAns.pure {t : Tab} {i k n : Int} {v : AVal} (h : AttAns t i k n v) : noRef v = true := by
 rcases h with ⟨_, rfl⟩ | ⟨_, _, rfl⟩ | ⟨_, _, _, _, x, _, rfl⟩ <;> rfl
set_option maxRecDepth 10000
set_option maxHeartbeats 4000000
def zHO (bf : Array Nat) : List Foot → Bool
 | [] => true
 | a :: l => (l.all fun b => (bf.getD b.i 0).testBit a.i || !clash a b) && zHO bf l
theorem z0L {bf : Array Nat} : ∀ {l : List Foot}, zHO bf l = true → apart bf l = true
 | [], _ => rfl
 | a :: l, h => by
   simp only [zHO, Bool.and_eq_true] at h
   simp only [apart, Bool.and_eq_true]
   refine ⟨?_, z0L h.2⟩
   rw [← h.1]
   congr 1
   funext b
   exact Bool.or_comm _ _
theorem z29 (l : List Spn) : (l.map spV).all noRef = true := by
 rw [List.all_eq_true]
 intro x hx
 obtain ⟨y, _, rfl⟩ := List.mem_map.1 hx
 rfl
set_option maxRecDepth 10000
set_option maxHeartbeats 4000000
def accN (l : List AVal) : Blk := if l = [] then .cells 0 0 false [] else .cells l.length 2 true l
theorem z2c {l : List AVal} (h : l ≠ []) : accN l = .cells l.length 2 true l := if_neg h
theorem z2M {H : Heap} {id n : Nat} {es : List AVal} {x : Spn} (hH : H[id]? = some (accN es)) (hn : es.length = n) (hb : n < 2 ^ 30) (nx : Nat) {ro : Nat} (hro : ro ≤ id) :
    z0H env ro nx 22 (.ref id n 0 n false) (.lit true 2 [spV x]) H = some (.ref id (n + 1) 0 (n + 1) false, [(id, accN (es ++ [spV x]))]) := by
 subst hn
 have hfl : z0t env 8 39 = true := rfl
 have hne : es ++ [spV x] ≠ [] := by simp
 have hln : (es ++ [spV x]).length = es.length + 1 := by simp
 by_cases h : es = []
 · subst h
   have hH' : H[id]? = some (.cells 0 0 false []) := hH
   have hnr : noRef (spV x) = true := rfl
   have hm : 17 ≤ z04 := by decide
   simp [z0H, ti22, ti39, z15, hH', hfl, hro, z1Y, accN, AVal.cellsOf, AVal.isTuple, hnr, hm]
 · have hgr := append_ref (E := env) (ro := ro) (nx := nx) (H := H) (id := id) (g := es.length) (len := es.length) (x := .lit true 2 [spV x]) (nsz := 2) (new := [spV x]) (fl := true) (bs := es) ti22 ti39 rfl ⟨by decide, rfl, rfl⟩ rfl (by simp)
     (by rw [hH, accN, if_neg h]) rfl (List.length_pos_iff.2 h) hro (by show (es.length + 1) * 17 ≤ 2 ^ 45; omega) (fun _ => rfl)
   rw [hgr, accN, if_neg hne, hln]
   rfl
set_option maxRecDepth 10000
set_option maxHeartbeats 2000000
def shrI (a : Int) (i : Nat) : Int := a.fdiv (2 ^ min i 8)
def bitI (a : Int) (i : Nat) : Int := IntKind.u8.wrap ((BitVec.ofInt 8 (shrI a i)) &&& (BitVec.ofInt 8 1)).toNat
def bitU (a : Int) (i : Nat) : Bool := decide (bitI a i = 1)
theorem zMH (a : Int) (i : Nat) (z : AVal) : binOp env .shr 5 ⟨.int .u8, 1, 1, z⟩ (.int .u8 a) (.int .i64 (i : Int)) = some (.int .u8 (shrI a i)) := by
 simp only [binOp]
 rw [if_neg (by omega)]
 rfl
theorem zLb (a : Int) (i : Nat) (z : AVal) : binOp env .and 5 ⟨.int .u8, 1, 1, z⟩ (.int .u8 (shrI a i)) (.int .u8 1) = some (.int .u8 (bitI a i)) := rfl
def z1n (a : Int) (n : Nat) : List Bool := (List.range n).map (bitU a)
theorem zAC (a : Int) (n : Nat) : z1n a (n + 1) = z1n a n ++ [bitU a n] := by simp [z1n, List.range_succ]
theorem z1G (a : Int) (n : Nat) : (z1n a n).length = n := by simp [z1n]
theorem z5S {a : Int} {n i : Nat} (h : i < n) : (z1n a n).getD i false = bitU a i := getD_some (by simp [z1n, h])
def ctH (T : TabV) (g1 g2 : Nat) (l1 l2 : List Bool) : Heap := [boxT T, .cells 0 2 false [.agg [.lit true 0 [], .lit true 0 []]], accB 1 g1 (z09 l1), accB 1 g2 (z09 l2), .cells 0 2 false [.agg [.ref 2 (accG g1 (z09 l1)) 0 l1.length false, .ref 3 (accG g2 (z09 l2)) 0 l2.length false]]]
theorem zMy {T : TabV} (hO : T.tab.Ok) (a b : Int) : ∀ (n i g1 : Nat) (j0 j4 j5 j8 j9 j10 j11 j14 j15 j16 j17 j18 j19 j20 j21 j22 j23 j24 j25 j26 j27 j28 j29 j30 j31 j32 j33 j34 j35 j36 j37 j38 j39 j40 j41 j42 j43 j44 : AVal), i + n = T.tab.R →
    Goes (execT env (Try.f42.at [1, 1, 0, 1, 0]) ⟨[j0, .int .u8 a, .int .u8 b, .ptr 0 0 0 0, j4, j5, .ptr 1 0 0 0, .ptr 4 0 0 0, j8, j9, j10, j11, .int .i64 T.tab.R, .int .i64 i, j14, j15, j16, j17, j18, j19, j20, j21, j22, j23, j24, j25, j26, j27, j28, j29, j30, j31, j32, j33, j34, j35, j36, j37, j38, j39, j40, j41, j42, j43, j44], ctH T g1 0 (z1n a i) [], [], 0, [7]⟩) fun e s =>
     e = .exit 0 ∧ ∃ (g1 : Nat), FrP 45 [(1, .int .u8 a), (2, .int .u8 b), (3, .ptr 0 0 0 0), (6, .ptr 1 0 0 0), (7, .ptr 4 0 0 0)] (ctH T g1 0 (z1n a T.tab.R) []) [] 0 [7] s := by
 have hR8 := hO.R8
 intro n
 induction n with
 | zero =>
   intro i g1; intros; rename_i hi
   have hd : decide ((i : Int) < (T.tab.R : Int)) = false := by simp; omega
   have : i = T.tab.R := by omega
   subst this
   simp only [go_sem, simprocAttr, Try.f42]
   rw [exec_loop]
   simp only [go_sem, simprocAttr, hd]
   exact ⟨g1, frP (by kernel_rfl)⟩
 | succ n ih =>
   intro i g1; intros; rename_i hi
   have hd : decide ((i : Int) < (T.tab.R : Int)) = true := by simp; omega
   obtain ⟨g1', ap⟩ := z2s (H := ctH T g1 0 (z1n a i) []) (id := 2) (l := z1n a i) (b := bitU a i) (cl := true) rfl (by rw [z1G]; omega) 5 (ro := 0) (Nat.zero_le _)
   rw [← zAC] at ap
   have hb : decide (bitI a i = 1) = bitU a i := rfl
   have ih' := ih (i + 1) g1'
   simp only [ctH, boxT, List.length_nil] at ap
   simp only [go_sem, simprocAttr, Try.f42, ctH, boxT, List.length_nil] at ih' ⊢
   rw [exec_loop]
   simp only [go_sem, simprocAttr, hd, zMH, zLb, hb, ap]
   rw [apart_ok]
   · simp only [go_sem, simprocAttr, ctH, z00 (show i < 2 ^ 63 - 1 by omega)]
     exact ih' _ _ _ _ _ _ _ _ _ _ _ _ _ _ _ _ _ _ _ _ _ _ _ _ _ _ _ _ _ _ _ _ _ _ _ _ _ _ (by omega)
   · kernel_rfl
theorem zMx {T : TabV} (hO : T.tab.Ok) (a b : Int) (g1 : Nat) (l1 : List Bool) : ∀ (n i g2 : Nat) (j0 j1 j4 j5 j8 j9 j10 j11 j12 j13 j14 j15 j16 j17 j18 j19 j20 j21 j22 j23 j24 j25 j26 j27 j28 j31 j32 j33 j34 j35 j36 j37 j38 j39 j40 j41 j42 j43 j44 : AVal), i + n = T.tab.C →
    Goes (execT env (Try.f42.at [1, 1, 1, 0, 1, 0]) ⟨[j0, j1, .int .u8 b, .ptr 0 0 0 0, j4, j5, .ptr 1 0 0 0, .ptr 4 0 0 0, j8, j9, j10, j11, j12, j13, j14, j15, j16, j17, j18, j19, j20, j21, j22, j23, j24, j25, j26, j27, j28, .int .i64 T.tab.C, .int .i64 i, j31, j32, j33, j34, j35, j36, j37, j38, j39, j40, j41, j42, j43, j44], ctH T g1 g2 l1 (z1n b i), [], 0, [7]⟩) fun e s =>
     e = .exit 2 ∧ ∃ (g2 : Nat), FrP 45 [(6, .ptr 1 0 0 0), (7, .ptr 4 0 0 0)] (ctH T g1 g2 l1 (z1n b T.tab.C)) [] 0 [7] s := by
 have hC8 := hO.C8
 intro n
 induction n with
 | zero =>
   intro i g2; intros; rename_i hi
   have hd : decide ((i : Int) < (T.tab.C : Int)) = false := by simp; omega
   have : i = T.tab.C := by omega
   subst this
   simp only [go_sem, simprocAttr, Try.f42]
   rw [exec_loop]
   simp only [go_sem, simprocAttr, hd]
   exact ⟨g2, frP (by kernel_rfl)⟩
 | succ n ih =>
   intro i g2; intros; rename_i hi
   have hd : decide ((i : Int) < (T.tab.C : Int)) = true := by simp; omega
   obtain ⟨g2', ap⟩ := z2s (H := ctH T g1 g2 l1 (z1n b i)) (id := 3) (l := z1n b i) (b := bitU b i) (cl := true) rfl (by rw [z1G]; omega) 5 (ro := 0) (Nat.zero_le _)
   rw [← zAC] at ap
   have hb : decide (bitI b i = 1) = bitU b i := rfl
   have ih' := ih (i + 1) g2'
   simp only [ctH, boxT] at ap
   simp only [go_sem, simprocAttr, Try.f42, ctH, boxT] at ih' ⊢
   rw [exec_loop]
   simp only [go_sem, simprocAttr, hd, zMH, zLb, hb, ap]
   rw [apart_ok]
   · simp only [go_sem, simprocAttr, ctH, z00 (show i < 2 ^ 63 - 1 by omega)]
     exact ih' _ _ _ _ _ _ _ _ _ _ _ _ _ _ _ _ _ _ _ _ _ _ _ _ _ _ _ _ _ _ _ _ _ _ _ _ _ _ _ (by omega)
   · kernel_rfl
def bitC (t : Tab) (a b : Int) : CutA := ⟨false, 1, z1n a t.R, false, 1, z1n b t.C⟩
theorem zHY {t : Tab} (hO : t.Ok) (a b : Int) : (bitC t a b).Wf := by
 have := hO.R8
 have := hO.C8
 exact ⟨.inr rfl, .inr rfl, by simp only [bitC, z1G]; omega, by simp only [bitC, z1G]; omega⟩
theorem z8L {T : TabV} (hO : T.tab.Ok) (a b : Int) (ro : Nat) (H : Heap) (nx : Nat) : callT env 42 [T.v, .int .u8 a, .int .u8 b] ro H nx = some (.ret (bitC T.tab a b).v, .ups []) := by
 have hR1 := hO.R1
 have hC1 := hO.C1
 obtain ⟨e1, t1, hx1, hp1⟩ := zMy hO a b T.tab.R 0 0 _ _ _ _ _ _ _ _ _ _ _ _ _ _ _ _ _ _ _ _ _ _ _ _ _ _ _ _ _ _ _ _ _ _ _ _ _ _ (by omega)
 obtain ⟨rfl, g1, jp, rfl⟩ := hp1
 obtain ⟨e2, t2, hx2, hp2⟩ := zMx hO a b g1 (z1n a T.tab.R) T.tab.C 0 0 _ _ _ _ _ _ _ _ _ _ _ _ _ _ _ _ _ _ _ _ _ _ _ _ _ _ _ _ _ _ _ _ _ _ _ _ _ _ _ (by omega)
 obtain ⟨rfl, g2, jq, rfl⟩ := hp2
 have s0 : ∀ a, z1n a 0 = [] := fun _ => rfl
 have b0 : z09 [] = [] := rfl
 have n1 : z09 (z1n a T.tab.R) ≠ [] := by
  intro h; have := congrArg List.length h
  rw [z0F, z1G] at this; exact absurd this (by show T.tab.R ≠ 0; omega)
 have n2 : z09 (z1n b T.tab.C) ≠ [] := by
  intro h; have := congrArg List.length h
  rw [z0F, z1G] at this; exact absurd this (by show T.tab.C ≠ 0; omega)
 simp only [go_sem, simprocAttr, Try.f42, s0, b0, z1Z, z1a, ctH, boxT, List.length_nil, Int.natCast_zero, Int.ofNat_zero] at hx1
 simp only [go_sem, simprocAttr, Try.f42, s0, b0, z1Z, z1a, ctH, boxT, List.length_nil, Int.natCast_zero, Int.ofNat_zero] at hx2
 have : ∃ H' : Heap, H'[2]? = some (accB 1 g1 (z09 (z1n a T.tab.R))) ∧ H'[3]? = some (accB 1 g2 (z09 (z1n b T.tab.C))) ∧ runT env 42 [T.v, .int .u8 a, .int .u8 b] [] 0 = some (.ret (.agg [.ref 2 (accG g1 (z09 (z1n a T.tab.R))) 0 (z1n a T.tab.R).length false, .ref 3 (accG g2 (z09 (z1n b T.tab.C))) 0 (z1n b T.tab.C).length false]), H') := by
  refine ⟨?_, ?_, ?_, ?_⟩
  case refine_4 =>
   rw [run_unfold fn42 rfl]
   simp only [go_sem, simprocAttr, Try.f42, z0E, List.length_map, show T.rows.l.length = T.tab.R from rfl, show T.cols.l.length = T.tab.C from rfl]
   rw [hx1]
   simp only [go_sem, simprocAttr, ctH, boxT, b0, z1Z, z1a, List.length_map, show T.cols.l.length = T.tab.C from rfl]
   rw [hx2]
   simp only [go_sem, simprocAttr, ctH, boxT, unwind, modeEx, resultsOf, one]
   rfl
  · rfl
  · rfl
 obtain ⟨H', h6, h7, h⟩ := this
 have t1 : (z09 (z1n a T.tab.R)).take (z1n a T.tab.R).length = z09 (z1n a T.tab.R) := List.take_of_length_le (by rw [z0F]; exact Nat.le_refl _)
 have t2 : (z09 (z1n b T.tab.C)).take (z1n b T.tab.C).length = z09 (z1n b T.tab.C) := List.take_of_length_le (by rw [z0F]; exact Nat.le_refl _)
 have a1 : accB 1 g1 (z09 (z1n a T.tab.R)) = .cells g1 1 true (z09 (z1n a T.tab.R)) := if_neg n1
 have a2 : accB 1 g2 (z09 (z1n b T.tab.C)) = .cells g2 1 true (z09 (z1n b T.tab.C)) := if_neg n2
 have c1 : accG g1 (z09 (z1n a T.tab.R)) = g1 := if_neg n1
 have c2 : accG g2 (z09 (z1n b T.tab.C)) = g2 := if_neg n2
 rw [a1] at h6
 rw [a2] at h7
 rw [c1, c2] at h
 refine z0s (w := (bitC T.tab a b).v) rfl rfl rfl (by simp [underL, AVal.under, TabV.under]) h ?_ ((bitC T.tab a b).under 0) ro H nx
 simp [handBack, toLit, noRef, AVal.under, mapO, h6, h7, t1, t2, CutA.v, bitC, z0F]
set_option maxRecDepth 10000
set_option maxHeartbeats 4000000
set_option maxRecDepth 10000
set_option maxHeartbeats 2000000
set_option maxRecDepth 10000
set_option maxHeartbeats 2000000
def eR (t : Tab) (c : CutA) (e : Spn) (i : Nat) : Spn := if c.l1.getD i false then z0G e (t.row i) else e
set_option maxRecDepth 10000
set_option maxHeartbeats 2000000
set_option maxRecDepth 10000
set_option maxHeartbeats 2000000
end Go.Proofs.Ytgfejpngfikjiaa.Tidy
