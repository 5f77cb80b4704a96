/-
  What the functions that SharesTurned reaches compute; the law, run.
-/
import Derived.Test.YtgfejpngfikjiaaCb
import Derived.Test.YtgfejpngfikjiaaWa
import Derived.Test.YtgfejpngfikjiaaCf
import Derived.Test.YtgfejpngfikjiaaCe
set_option linter.all false
namespace Go.Proofs.Ytgfejpngfikjiaa.Tidy
open Go Go.IntWalk
set_option maxRecDepth 10000
set_option linter.unusedSimpArgs false
set_option maxHeartbeats 2000000

set_option maxRecDepth 10000
set_option maxHeartbeats 2000000

set_option maxRecDepth 10000
set_option maxHeartbeats 4000000

structure Least (t : Tab) (r c : Nat) (v : Int) : Prop where
  at_ : ∃ s, Fits t s ∧ s r c = v
  all : ∀ s, Fits t s → v ≤ s r c
structure Great (t : Tab) (r c : Nat) (v : Int) : Prop where
  at_ : ∃ s, Fits t s ∧ s r c = v
  all : ∀ s, Fits t s → s r c ≤ v

set_option maxRecDepth 10000
set_option maxHeartbeats 4000000

theorem Least.range {t : Tab} {r c : Nat} (hr : r < t.R) (hc : c < t.C) {v : Int} (h : Least t r c v) : (t.cell r c).lo ≤ v ∧ v ≤ (t.cell r c).hi := by
  obtain ⟨s, hs, rfl⟩ := h.at_
  exact hs.cell r c hr hc
theorem Great.range {t : Tab} {r c : Nat} (hr : r < t.R) (hc : c < t.C) {v : Int} (h : Great t r c v) : (t.cell r c).lo ≤ v ∧ v ≤ (t.cell r c).hi := by
  obtain ⟨s, hs, rfl⟩ := h.at_
  exact hs.cell r c hr hc

theorem askS_zero {t : Tab} {i k : Int} (h : askS t i k = 0) : t.Ok ∧ canB t = true ∧ outB t i k = false := by
  unfold askS at h
  cases hok : t.ok with
  | false => rw [hok] at h; simp at h
  | true =>
    rw [hok] at h
    cases hcan : canB t with
    | false => rw [hcan] at h; simp at h
    | true =>
      rw [hcan] at h
      cases ho : outB t i k with
      | true => rw [ho] at h; simp at h
      | false => exact ⟨Tab.ok_iff.1 hok, rfl, rfl⟩

set_option maxRecDepth 10000
set_option maxHeartbeats 4000000

structure LeastF (t : Tab) (φ : (Nat → Nat → Int) → Int) (v : Int) : Prop where
  at_ : ∃ s, Fits t s ∧ φ s = v
  all : ∀ s, Fits t s → v ≤ φ s
structure GreatF (t : Tab) (φ : (Nat → Nat → Int) → Int) (v : Int) : Prop where
  at_ : ∃ s, Fits t s ∧ φ s = v
  all : ∀ s, Fits t s → φ s ≤ v
def rowF (t : Tab) (r : Nat) (s : Nat → Nat → Int) : Int := sumN t.C (s r)

set_option maxRecDepth 10000
set_option maxHeartbeats 4000000

set_option maxRecDepth 10000
set_option maxHeartbeats 4000000

set_option maxRecDepth 10000
set_option maxHeartbeats 4000000

theorem LeastF.range {t : Tab} {r : Nat} (hr : r < t.R) {v : Int} (h : LeastF t (rowF t r) v) : (t.row r).lo ≤ v ∧ v ≤ (t.row r).hi := by
  obtain ⟨s, hs, rfl⟩ := h.at_
  exact hs.row r hr
theorem GreatF.range {t : Tab} {r : Nat} (hr : r < t.R) {v : Int} (h : GreatF t (rowF t r) v) : (t.row r).lo ≤ v ∧ v ≤ (t.row r).hi := by
  obtain ⟨s, hs, rfl⟩ := h.at_
  exact hs.row r hr

set_option maxRecDepth 10000
set_option maxHeartbeats 4000000

theorem turn_cell {t : Tab} {i k : Nat} (hi : i < t.R) (hk : k < t.C) : t.turn.cell k i = t.cell i k := by
  show (((List.range t.C).map fun k => colL t k t.R).getD k []).getD i ⟨0, 0⟩ = _
  have h1 : ((List.range t.C).map fun k => colL t k t.R).getD k [] = colL t k t.R := by
    rw [List.getD_eq_getElem?_getD, List.getElem?_map, List.getElem?_range hk]; rfl
  rw [h1]
  unfold colL
  rw [List.getD_eq_getElem?_getD, List.getElem?_map, List.getElem?_range hi]; rfl
theorem turn_ok {t : Tab} (hO : t.Ok) : t.turn.Ok where
  R1 := hO.C1
  C1 := hO.R1
  R8 := hO.C8
  C8 := hO.R8
  len := by show ((List.range t.C).map _).length = t.C; simp
  row := hO.col
  col := hO.row
  wid l hl := by
    obtain ⟨k, _, rfl⟩ := List.mem_map.1 hl
    exact colL_length _ _ _
  cel l hl y hy := by
    obtain ⟨k, hk, rfl⟩ := List.mem_map.1 hl
    obtain ⟨i, hi, rfl⟩ := List.mem_map.1 hy
    rw [List.mem_range] at hk hi
    have h := hO.cell_ok hi hk
    simp [Spn.ok]; omega
theorem fits_turn {t : Tab} (s : Nat → Nat → Int) : Fits t.turn s ↔ Fits t fun i k => s k i := by
  constructor
  · intro h
    refine ⟨fun i k hi hk => ?_, fun i hi => h.col i hi, fun k hk => h.row k hk⟩
    have := h.cell k i hk hi
    rwa [turn_cell hi hk] at this
  · intro h
    refine ⟨fun k i hk hi => ?_, fun k hk => h.col k hk, fun i hi => h.row i hi⟩
    rw [turn_cell hi hk]
    exact h.cell i k hi hk
theorem can_turn (t : Tab) : canB t.turn = canB t := by
  rw [Bool.eq_iff_iff, canB_true, canB_true]
  exact ⟨fun ⟨s, hs⟩ => ⟨_, (fits_turn s).1 hs⟩, fun ⟨s, hs⟩ => ⟨fun k i => s i k, (fits_turn _).2 hs⟩⟩
theorem ask_turn {t : Tab} (hO : t.Ok) (i k : Int) : askS t.turn k i = askS t i k := by
  have e : outB t.turn k i = outB t i k := by
    show (decide (k < 0) || (decide ((t.C : Int) ≤ k) || (decide (i < 0) || decide ((t.R : Int) ≤ i)))) = (decide (i < 0) || (decide ((t.R : Int) ≤ i) || (decide (k < 0) || decide ((t.C : Int) ≤ k))))
    cases decide (k < 0) <;> cases decide ((t.C : Int) ≤ k) <;> cases decide (i < 0) <;> cases decide ((t.R : Int) ≤ i) <;> rfl
  unfold askS
  rw [Tab.ok_iff.2 hO, Tab.ok_iff.2 (turn_ok hO), can_turn, e]

set_option maxRecDepth 10000
set_option maxHeartbeats 4000000

def bldM (x y c : AVal) : Blk := .cells 0 3 false [.agg [x, y, c]]
def bldH (A : Heap) (x y : AVal) (r0 : RowD) (rs : List RowD) : Heap := A ++ (bldM x y (.ref (A.length + 3) rs.length 0 (rs.length + 1) false) :: .cells r0.1 2 true r0.2 :: .cells 0 1 false [.ref (A.length + 1) r0.1 0 r0.2.length false] :: .cells rs.length 1 false (.ref (A.length + 1) r0.1 0 r0.2.length false :: rowR (A.length + 4) rs) :: rowT 2 (A.length + 4) rs)

section
variable {A : Heap} {x y : AVal} {r0 : RowD} {rs : List RowD}
theorem bld_len : (bldH A x y r0 rs).length = A.length + 4 + 2 * rs.length := by
  simp only [bldH, List.length_append, List.length_cons, rowT_length]; omega
theorem bld_tab (Z : Heap) : (bldH A x y r0 rs ++ Z)[A.length]? = some (bldM x y (.ref (A.length + 3) rs.length 0 (rs.length + 1) false)) := by
  simp [bldH]
theorem bld_acc (Z : Heap) : (bldH A x y r0 rs ++ Z)[A.length + 3]? = some (.cells rs.length 1 false (.ref (A.length + 1) r0.1 0 r0.2.length false :: rowR (A.length + 4) rs)) := by
  unfold bldH
  rw [List.append_assoc, List.getElem?_append_right (by omega), show A.length + 3 - A.length = 3 by omega]; rfl
theorem bld_low (Z : Heap) {i : Nat} (h : i < A.length) : (bldH A x y r0 rs ++ Z)[i]? = A[i]? := by
  unfold bldH
  rw [List.append_assoc, List.getElem?_append_left h]
theorem bld_append {r : RowD} (hb : rs.length < 2 ^ 20) (nx : Nat) :
    appendOp env 0 nx 23 (.ref (A.length + 3) rs.length 0 (rs.length + 1) false) (.ref ((bldH A x y r0 rs).length + 1) 0 0 1 false) ((bldH A x y r0 rs ++ [.cells r.1 2 true r.2]) ++ [.cells 0 1 false [.ref (bldH A x y r0 rs).length r.1 0 r.2.length false]]) =
      some (.ref (A.length + 3) (rs.length + 1) 0 (rs.length + 1 + 1) false, [(A.length + 3, .cells (rs.length + 1) 1 false ((.ref (A.length + 1) r0.1 0 r0.2.length false :: rowR (A.length + 4) rs) ++ [.ref (bldH A x y r0 rs).length r.1 0 r.2.length false]))]) := by
  have hel : elems ((bldH A x y r0 rs ++ [.cells r.1 2 true r.2]) ++ [.cells 0 1 false [.ref (bldH A x y r0 rs).length r.1 0 r.2.length false]]) (.ref ((bldH A x y r0 rs).length + 1) 0 0 1 false) = some (1, [.ref (bldH A x y r0 rs).length r.1 0 r.2.length false]) := by
    have := get_snoc (len_snoc (X := bldH A x y r0 rs) rfl (.cells r.1 2 true r.2)) (.cells 0 1 false [.ref (bldH A x y r0 rs).length r.1 0 r.2.length false])
    simp only [elems, this]
    rfl
  have hH : ((bldH A x y r0 rs ++ [.cells r.1 2 true r.2]) ++ [Blk.cells 0 1 false [.ref (bldH A x y r0 rs).length r.1 0 r.2.length false]])[A.length + 3]? = some (.cells rs.length 1 false (.ref (A.length + 1) r0.1 0 r0.2.length false :: rowR (A.length + 4) rs)) := by
    rw [List.append_assoc]; exact bld_acc _
  exact append_ref (E := env) (ro := 0) (nx := nx) (g := rs.length) (id := A.length + 3) (len := rs.length + 1) (fl := false) (bs := .ref (A.length + 1) r0.1 0 r0.2.length false :: rowR (A.length + 4) rs) ti23 ti22 hel ⟨by decide, rfl, rfl⟩ rfl (by simp) hH (by simp [rowR_length]) (by omega) (Nat.zero_le _) (by show (rs.length + 1 + [_].length) * 25 ≤ 2 ^ 45; simp only [List.length_singleton]; omega) (fun h => by cases h)
theorem bld_push (r : RowD) : ((((bldH A x y r0 rs ++ [Blk.cells r.1 2 true r.2]) ++ [Blk.cells 0 1 false [.ref (bldH A x y r0 rs).length r.1 0 r.2.length false]]).set (A.length + 3) (.cells (rs.length + 1) 1 false ((.ref (A.length + 1) r0.1 0 r0.2.length false :: rowR (A.length + 4) rs) ++ [.ref (bldH A x y r0 rs).length r.1 0 r.2.length false]))).set A.length (.cells 0 3 false [.agg [x, y, .ref (A.length + 3) (rs.length + 1) 0 (rs.length + 1 + 1) false]])) = bldH A x y r0 (rs ++ [r]) := by
  have hl := bld_len (A := A) (x := x) (y := y) (r0 := r0) (rs := rs)
  rw [hl]
  unfold bldH bldM
  rw [rowR_snoc, rowT_snoc, show A.length + 4 + 2 * rs.length = A.length + 4 + 2 * rs.length from rfl, List.append_assoc, List.append_assoc, List.set_append_right _ _ (by omega), show A.length + 3 - A.length = 3 by omega, List.set_append_right _ _ (by omega), Nat.sub_self]
  simp
theorem bld_trunc (r : RowD) (Tm : List AVal) (V : List Nat) : trunc (bldH A x y r0 rs).length ⟨Tm, bldH A x y r0 (rs ++ [r]), [], 0, V⟩ = ⟨Tm, bldH A x y r0 (rs ++ [r]), [], 0, V⟩ := by
  have h := bld_acc (A := A) (x := x) (y := y) (r0 := r0) (rs := rs ++ [r]) []
  rw [List.append_nil] at h
  have hm : AVal.ref (A.length + 4 + 2 * rs.length) r.1 0 r.2.length false ∈ AVal.ref (A.length + 1) r0.1 0 r0.2.length false :: rowR (A.length + 4) (rs ++ [r]) := by rw [rowR_snoc]; simp
  exact trunc_keep (i := A.length + 3) (by rw [bld_len]; omega) h hm (by rw [bld_len]; exact Nat.le_refl _)

theorem bld_first (r : RowD) : appendOp env 0 (A.length + 1 + 1 + 1) 23 (.lit true 0 []) (.ref (A.length + 1 + 1) 0 0 1 false) ((A ++ [bldM x y (.lit true 0 [])] ++ [.cells r.1 2 true r.2]) ++ [.cells 0 1 false [.ref (A.length + 1) r.1 0 r.2.length false]]) = some (.ref (A.length + 1 + 1 + 1) 0 0 1 false, [(A.length + 1 + 1 + 1, .cells 0 1 false [.ref (A.length + 1) r.1 0 r.2.length false])]) := by
  have hg := get_snoc (len_snoc (len_snoc (X := A) rfl (bldM x y (.lit true 0 []))) (.cells r.1 2 true r.2)) (.cells 0 1 false [.ref (A.length + 1) r.1 0 r.2.length false])
  have hel : elems ((A ++ [bldM x y (.lit true 0 [])] ++ [.cells r.1 2 true r.2]) ++ [.cells 0 1 false [.ref (A.length + 1) r.1 0 r.2.length false]]) (.ref (A.length + 1 + 1) 0 0 1 false) = some (1, [.ref (A.length + 1) r.1 0 r.2.length false]) := by
    simp only [elems, hg]
    rfl
  have h := append_lit (E := env) (ro := 0) (nx := A.length + 1 + 1 + 1) (sz := 0) (es := []) (H := (A ++ [bldM x y (.lit true 0 [])] ++ [.cells r.1 2 true r.2]) ++ [.cells 0 1 false [.ref (A.length + 1) r.1 0 r.2.length false]]) (x := .ref (A.length + 1 + 1) 0 0 1 false) (nsz := 1) (new := [.ref (A.length + 1) r.1 0 r.2.length false]) ti23 ti22 hel ⟨by decide, rfl, rfl⟩ rfl (by simp) (.inl rfl) (show (0 + 1) * 25 ≤ maxBytes by decide) (fun h => by cases h)
  rw [h]; rfl
theorem bld_start (r : RowD) : (((A ++ [bldM x y (.lit true 0 [])] ++ [Blk.cells r.1 2 true r.2]) ++ [Blk.cells 0 1 false [.ref (A.length + 1) r.1 0 r.2.length false]]) ++ [Blk.cells 0 1 false [.ref (A.length + 1) r.1 0 r.2.length false]]).set A.length (.cells 0 3 false [.agg [x, y, .ref (A.length + 1 + 1 + 1) 0 0 1 false]]) = bldH A x y r [] := by
  unfold bldH bldM
  simp only [List.append_assoc]
  rw [List.set_append_right _ _ (by omega), Nat.sub_self]
  rfl
theorem bld_trunc0 (r : RowD) (Tm : List AVal) (V : List Nat) : trunc (A.length + 1) ⟨Tm, bldH A x y r [], [], 0, V⟩ = ⟨Tm, bldH A x y r [], [], 0, V⟩ := by
  have h : (bldH A x y r [])[A.length]? = some (.cells 0 3 false [.agg [x, y, .ref (A.length + 3) 0 0 1 false]]) := by simp [bldH, bldM]
  unfold trunc
  by_cases h1 : (bldH A x y r []).length ≤ A.length + 1
  · simp only [h1, if_true]
  · have h2 : ((bldH A x y r []).take (A.length + 1)).all (underB (A.length + 1)) = false := by
      cases h3 : ((bldH A x y r []).take (A.length + 1)).all (underB (A.length + 1)) with
      | false => rfl
      | true =>
        have h4 : ((bldH A x y r []).take (A.length + 1))[A.length]? = some (.cells 0 3 false [.agg [x, y, .ref (A.length + 3) 0 0 1 false]]) := by rw [List.getElem?_take, if_pos (by omega), h]
        have h5 := List.all_eq_true.1 h3 _ (List.mem_of_getElem? h4)
        simp [underB, underL, AVal.under] at h5
    simp only [h1, if_false, h2, Bool.false_and, Bool.false_eq_true]
end

set_option maxRecDepth 10000
set_option maxHeartbeats 4000000

theorem tn_inner {t : Tab} (hO : t.Ok) {X : Heap} {nx p5 p6 ca cb cq ga gb g : Nat} {ps : Nat → Nat} (hX : X.length = nx) (h5 : X[p5]? = some (.cells 0 3 false [memT t ca cb cq ga gb g])) (h5n : p5 < nx) (hat : TbAt X ca cb cq ga gb g ps t) {k : Nat} (hk : k < t.C) (z : Int) : ∀ (n i : Nat) (j0 j1 j3 j4 j9 j10 j11 j12 j13 j14 j15 j16 j17 j18 j19 j20 j21 j22 j23 j24 j27 j28 j29 j30 j33 j34 j35 j36 j37 j38 j39 j40 j41 j42 j43 j44 j45 j46 j47 j48 j49 j50 j51 j52 j53 j54 : AVal), i + n = t.R →
    Goes (execT env (Try.f51.at [1, 1, 1, 1, 0, 1, 0, 0, 1, 1, 0, 0, 1, 1, 0, 1, 0]) ⟨[j0, j1, .ptr 1 0 0 0, j3, j4, .ptr p5 0 0 0, .ptr p6 0 0 0, .int .i64 k, .ref nx i 0 i false, j9, j10, j11, j12, j13, j14, j15, j16, j17, j18, j19, j20, j21, j22, j23, j24, .int .i64 z, .int .i64 k, j27, j28, j29, j30, .int .i64 t.R, .int .i64 i, j33, j34, j35, j36, j37, j38, j39, j40, j41, j42, j43, j44, j45, j46, j47, j48, j49, j50, j51, j52, j53, j54], X ++ [accN (colN t k i)], [], 0, [6, 8, 50]⟩) fun ex s =>
      ex = .exit 2 ∧ FrP 55 [(2, .ptr 1 0 0 0), (5, .ptr p5 0 0 0), (6, .ptr p6 0 0 0), (8, .ref nx t.R 0 t.R false), (25, .int .i64 z), (26, .int .i64 k)] (X ++ [accN (colN t k t.R)]) [] 0 [6, 8, 50] s := by
  have hR8 := hO.R8
  have hC8 := hO.C8
  intro n
  induction n with
  | zero =>
    intro i; intros; rename_i hi
    have hd : decide ((i : Int) < (t.R : Int)) = false := by simp; omega
    have : i = t.R := by omega
    subst this
    simp only [go_sem, simprocAttr, Try.f51]
    rw [exec_loop]
    simp only [go_sem, simprocAttr, hd]
    exact frP (by kernel_rfl)
  | succ n ih =>
    intro i; intros; rename_i hi
    have hiR : i < t.R := by omega
    have hd : decide ((i : Int) < (t.R : Int)) = true := by simp; omega
    have i0 : (0 : Int) ≤ (i : Int) := by omega
    have k0 : (0 : Int) ≤ (k : Int) := by omega
    have h5' : ∀ b, (X ++ [b])[p5]? = some (.cells 0 3 false [memT t ca cb cq ga gb g]) := fun b => by rw [low_snoc hX _ h5n, h5]
    have hacc := fun b => (hat.more [b]).acc
    have hrow := fun b => (hat.more [b]).row i hiR
    have hva : (vecA t.R fun i => AVal.ref (ps i) 0 0 t.C false)[i]? = some (.ref (ps i) 0 0 t.C false) := vecA_get _ hiR
    have hget := rowA_get hO hiR hk
    have dR : decide ((i : Int) < (t.R : Int)) = true := hd
    have dC : decide ((k : Int) < (t.C : Int)) = true := by simp; omega
    have ap := append_span (H := X ++ [accN (colN t k i)]) (id := nx) (n := i) (es := colN t k i) (x := t.cell i k) (get_snoc hX _) (colN_length _ _ _) (by omega) (nx + 1) (ro := 0) (Nat.zero_le _)
    rw [← colN_succ] at ap
    have hL : ∀ b, (X ++ [b]).length = nx + 1 := fun b => len_snoc hX b
    have hst : ∀ b b', (X ++ [b]).set nx b' = X ++ [b'] := fun b b' => set_snoc hX b b'
    have lt1 : (nx < nx + 1) = True := eq_true (by omega)
    have htr : ∀ Tm b, trunc (nx + 1) ⟨Tm, X ++ [b], [], 0, [6, 8, 50]⟩ = ⟨Tm, X ++ [b], [], 0, [6, 8, 50]⟩ := fun Tm b => by
      unfold trunc
      rw [if_pos (by rw [len_snoc hX]; exact Nat.le_refl _)]
    have ih' := ih (i + 1)
    simp only [memT] at h5'
    simp only [go_sem, simprocAttr, Try.f51] at ih' ⊢
    rw [exec_loop]
    simp only [go_sem, simprocAttr, h5', hacc, hrow, hva, hget, dR, dC, i0, k0, Int.toNat_natCast, rowA_length hO.len hO.wid hiR, hL, ap, hst, lt1, htr, Nat.zero_add, wrap_succ (show i < 2 ^ 63 - 1 by omega)]
    exact ih' _ _ _ _ _ _ _ _ _ _ _ _ _ _ _ _ _ _ _ _ _ _ _ _ _ _ _ _ _ _ _ _ _ _ _ _ _ _ _ _ _ _ _ _ _ _ (by omega)

theorem tn_outer {t : Tab} (hO : t.Ok) {A : Heap} {p5 ca cb cq ga gb g : Nat} {ps : Nat → Nat} (h5 : A[p5]? = some (.cells 0 3 false [memT t ca cb cq ga gb g])) (h5n : p5 < A.length) (hat : TbAt A ca cb cq ga gb g ps t) : ∀ (n m : Nat) (j0 j1 j3 j4 j7 j8 j9 j10 j11 j12 j13 j14 j15 j16 j17 j18 j19 j20 j21 j22 j23 j24 j27 j28 j29 j30 j31 j32 j33 j34 j35 j36 j37 j38 j39 j40 j41 j42 j43 j44 j45 j46 j47 j48 j49 j50 j51 j52 j53 j54 : AVal), m + 1 + n = t.C →
    Goes (execT env (Try.f51.at [1, 1, 1, 1, 0, 1, 0]) ⟨[j0, j1, .ptr 1 0 0 0, j3, j4, .ptr p5 0 0 0, .ptr A.length 0 0 0, j7, j8, j9, j10, j11, j12, j13, j14, j15, j16, j17, j18, j19, j20, j21, j22, j23, j24, .int .i64 t.C, .int .i64 (m + 1 : Nat), j27, j28, j29, j30, j31, j32, j33, j34, j35, j36, j37, j38, j39, j40, j41, j42, j43, j44, j45, j46, j47, j48, j49, j50, j51, j52, j53, j54], bldH A (.ref cb gb 0 t.C false) (.ref ca ga 0 t.R false) (t.R, colN t 0 t.R) (tuD t m), [], 0, [6, 8, 50]⟩) fun ex s =>
      ex = .exit 0 ∧ FrP 55 [(2, .ptr 1 0 0 0), (6, .ptr A.length 0 0 0)] (bldH A (.ref cb gb 0 t.C false) (.ref ca ga 0 t.R false) (t.R, colN t 0 t.R) (tuD t (t.C - 1))) [] 0 [6, 8, 50] s := by
  have hR8 := hO.R8
  have hC8 := hO.C8
  have hR1 := hO.R1
  intro n
  induction n with
  | zero =>
    intro m; intros; rename_i hm
    have hd : decide (((m + 1 : Nat) : Int) < (t.C : Int)) = false := by simp; omega
    have e : t.C - 1 = m := by omega
    rw [e]
    simp only [go_sem, simprocAttr, Try.f51]
    rw [exec_loop]
    simp only [go_sem, simprocAttr, hd]
    exact frP (by kernel_rfl)
  | succ n ih =>
    intro m; intros; rename_i hm
    have hmC : m + 1 < t.C := by omega
    have hd : decide (((m + 1 : Nat) : Int) < (t.C : Int)) = true := by simp; omega
    have hlen := bld_len (A := A) (x := .ref cb gb 0 t.C false) (y := .ref ca ga 0 t.R false) (r0 := (t.R, colN t 0 t.R)) (rs := tuD t m)
    have htab := fun Z => bld_tab (A := A) (x := .ref cb gb 0 t.C false) (y := .ref ca ga 0 t.R false) (r0 := (t.R, colN t 0 t.R)) (rs := tuD t m) Z
    have hlow := fun i h => bld_low (A := A) (x := .ref cb gb 0 t.C false) (y := .ref ca ga 0 t.R false) (r0 := (t.R, colN t 0 t.R)) (rs := tuD t m) [] (i := i) h
    have hap := bld_append (A := A) (x := .ref cb gb 0 t.C false) (y := .ref ca ga 0 t.R false) (r0 := (t.R, colN t 0 t.R)) (rs := tuD t m) (r := (t.R, colN t (m + 1) t.R)) (by rw [tuD_length]; omega)
    have hpush := bld_push (A := A) (x := .ref cb gb 0 t.C false) (y := .ref ca ga 0 t.R false) (r0 := (t.R, colN t 0 t.R)) (rs := tuD t m) (t.R, colN t (m + 1) t.R)
    have htr := bld_trunc (A := A) (x := .ref cb gb 0 t.C false) (y := .ref ca ga 0 t.R false) (r0 := (t.R, colN t 0 t.R)) (rs := tuD t m) (t.R, colN t (m + 1) t.R)
    rw [← tuD_succ] at hpush htr
    simp only [List.append_nil] at hlow
    rw [tuD_length] at hlen
    have ih' := ih (m + 1)
    generalize hY : bldH A (.ref cb gb 0 t.C false) (.ref ca ga 0 t.R false) (t.R, colN t 0 t.R) (tuD t m) = Y at hlen htab hlow hap hpush htr ⊢
    obtain ⟨L, hL⟩ : ∃ L, Y.length = L := ⟨_, rfl⟩
    rw [hL] at hlen
    have hatY : TbAt Y ca cb cq ga gb g ps t := hat.mono fun i hi => hlow i (by
      obtain ⟨l1, l2, l3, l4⟩ := hat.lt
      rcases hi with rfl | rfl | rfl | ⟨j, hj, rfl⟩
      · exact l1
      · exact l2
      · exact l3
      · exact l4 j hj)
    obtain ⟨ex, st, hx, hp⟩ := tn_inner hO hL (by rw [hlow _ h5n]; exact h5) (p6 := A.length) (by omega) hatY hmC t.C t.R 0 _ _ _ _ _ _ _ _ _ _ _ _ _ _ _ _ _ _ _ _ _ _ _ _ _ _ _ _ _ _ _ _ _ _ _ _ _ _ _ _ _ _ _ _ _ _ (by omega)
    obtain ⟨rfl, jp, rfl⟩ := hp
    have hcne : colN t (m + 1) t.R ≠ [] := fun e => by have := colN_length t (m + 1) t.R; rw [e] at this; simp at this; omega
    have hrl := colN_length t (m + 1) t.R
    have c0 : colN t (m + 1) 0 = [] := rfl
    have a0 : accN [] = .cells 0 0 false [] := rfl
    rw [c0, a0, accN_full hcne, hrl] at hx
    simp only [hL, hrl, tuD_length, List.cons_append] at hap hpush htr htab
    have hl1 : ∀ b, (Y ++ [b]).length = L + 1 := fun b => len_snoc hL b
    have hl2 : ∀ b c, (Y ++ [b] ++ [c]).length = L + 1 + 1 := fun b c => len_snoc (len_snoc hL b) c
    have htab2 : ∀ b c, (Y ++ [b] ++ [c])[A.length]? = some (bldM (.ref cb gb 0 t.C false) (.ref ca ga 0 t.R false) (.ref (A.length + 3) m 0 (m + 1) false)) := fun b c => by rw [List.append_assoc]; exact htab _
    have wi : IntKind.i64.wrap (((m + 1 : Nat) : Int) + 1) = ((m + 1 + 1 : Nat) : Int) := wrap_succ (by omega)
    have z1 : (A.length < L + 1 + 1) = True := eq_true (by omega)
    have z2 : (A.length + 3 < L + 1 + 1) = True := eq_true (by omega)
    have hs1 : ∀ b c d, (((Y ++ [b] ++ [c]).set (A.length + 3) d))[A.length]? = some (bldM (.ref cb gb 0 t.C false) (.ref ca ga 0 t.R false) (.ref (A.length + 3) m 0 (m + 1) false)) := fun b c d => by
      rw [List.getElem?_set_ne (by omega)]; exact htab2 b c
    simp only [bldM] at htab htab2 hs1
    simp only [go_sem, simprocAttr, Try.f51, Int.ofNat_zero, Int.natCast_zero] at hx
    simp only [go_sem, simprocAttr, Try.f51] at ih' ⊢
    rw [exec_loop]
    simp only [go_sem, simprocAttr, hd, hL, htab]
    rw [hx]
    simp only [go_sem, simprocAttr, Nat.zero_le, hl1, hl2, htab, htab2, hap, hs1, hpush, htr, z1, z2, wi, List.length_set]
    exact ih' _ _ _ _ _ _ _ _ _ _ _ _ _ _ _ _ _ _ _ _ _ _ _ _ _ _ _ _ _ _ _ _ _ _ _ _ _ _ _ _ _ _ _ _ _ _ _ _ _ _ (by omega)

set_option maxRecDepth 10000
set_option maxHeartbeats 4000000

theorem bld_mapO {H : Heap} {ok : Nat → Bool} {p : Nat} {r0 : RowD} {rs : List RowD} (hok : ∀ j, ok j = true) (h0 : H[p + 1]? = some (.cells r0.1 2 true r0.2)) (h : ∀ i r, rs[i]? = some r → H[p + 4 + 2 * i]? = some (.cells r.1 2 true r.2)) :
    mapO (toLit ok H 7) (.ref (p + 1) r0.1 0 r0.2.length false :: rowR (p + 4) rs) = some ((r0 :: rs).map fun r => .lit false 2 r.2) := by
  have hm := mapO_rows (H := H) (ok := ok) (sz := 2) (n := 6) rs (p + 4) h (fun j _ => hok j)
  have e0 : toLit ok H 7 (.ref (p + 1) r0.1 0 r0.2.length false) = some (.lit false 2 r0.2) := by
    simp [toLit, noRef, AVal.under, h0, hok]
  simp only [mapO, e0, hm, List.map_cons]

theorem hb_tab {H : Heap} {t : Tab} {p1 g1 p2 g2 q g n : Nat} {es : List AVal} (h1 : H[p1]? = some (.cells g1 2 true (t.rows.map spV))) (h2 : H[p2]? = some (.cells g2 2 true (t.cols.map spV))) (h3 : H[q]? = some (.cells g 1 false es))
    (hes : mapO (toLit (fun j => decide (0 ≤ j) && !([] : List Nat).contains j) H 7) es = some (t.cells.map fun l => .lit false 2 (l.map spV))) (hl : es.length = t.R) :
    handBack H 0 [] (n + 1 + 1) (.agg [.ref p1 g1 0 t.R false, .ref p2 g2 0 t.C false, .ref q g 0 t.R false]) = some (canon t).v := by
  have t1 : (t.rows.map spV).take t.R = t.rows.map spV := List.take_of_length_le (by rw [List.length_map]; exact Nat.le_refl _)
  have t2 : (t.cols.map spV).take t.C = t.cols.map spV := List.take_of_length_le (by rw [List.length_map]; exact Nat.le_refl _)
  have t3 : es.take t.R = es := List.take_of_length_le (by omega)
  have lr : t.rows.length = t.R := rfl
  have lc : t.cols.length = t.C := rfl
  have e1 : toLit (fun j => decide (0 ≤ j) && !([] : List Nat).contains j) H 8 (.ref p1 g1 0 t.R false) = some (.lit false 2 (t.rows.map spV)) := by
    simp [toLit, noRef, AVal.under, h1, t1, lr]
  have e2 : toLit (fun j => decide (0 ≤ j) && !([] : List Nat).contains j) H 8 (.ref p2 g2 0 t.C false) = some (.lit false 2 (t.cols.map spV)) := by
    simp [toLit, noRef, AVal.under, h2, t2, lc]
  have e3 : toLit (fun j => decide (0 ≤ j) && !([] : List Nat).contains j) H 8 (.ref q g 0 t.R false) = some (.lit false 1 (t.cells.map fun l => .lit false 2 (l.map spV))) := by
    unfold toLit
    simp only [noRef, AVal.under, Nat.not_lt_zero, decide_false, Bool.false_eq_true, if_false, h3, decide_true, Nat.zero_add, hl, Nat.le_refl, Bool.and_true, if_true, List.drop_zero, t3]
    rw [hes]
    simp
  have ec : (canon t).v = .agg [.lit false 2 (t.rows.map spV), .lit false 2 (t.cols.map spV), .lit false 1 (t.cells.map fun l => .lit false 2 (l.map spV))] := by
    unfold canon TabV.v
    simp only [List.map_map]
    rfl
  have hk : ∀ (i : Nat) (v : AVal) (n : Nat), (∃ g o l c, v = .ref i g o l c) → handBack H 0 [] (n + 1) v = toLit (fun j => decide (0 ≤ j) && !([] : List Nat).contains j) H 8 v := by
    rintro i v n ⟨g, o, l, c, rfl⟩
    simp [handBack]
  rw [ec]
  unfold handBack
  simp only [mapO, hk p1 _ n ⟨_, _, _, _, rfl⟩, hk p2 _ n ⟨_, _, _, _, rfl⟩, hk q _ n ⟨_, _, _, _, rfl⟩, e1, e2, e3]
  rfl

theorem bld_row0 {A : Heap} {x y : AVal} {r0 : RowD} {rs : List RowD} : (bldH A x y r0 rs)[A.length + 1]? = some (.cells r0.1 2 true r0.2) := by
  unfold bldH
  rw [List.getElem?_append_right (by omega), show A.length + 1 - A.length = 1 by omega]; rfl
theorem bld_row {A : Heap} {x y : AVal} {r0 : RowD} {rs : List RowD} {i : Nat} {r : RowD} (h : rs[i]? = some r) : (bldH A x y r0 rs)[A.length + 4 + 2 * i]? = some (.cells r.1 2 true r.2) := by
  unfold bldH
  rw [List.getElem?_append_right (by omega), show A.length + 4 + 2 * i - A.length = 2 * i + 1 + 1 + 1 + 1 by omega]
  exact rowT_get 2 rs _ i r h
def noTab : AVal := .agg [.lit true 0 [], .lit true 0 [], .lit true 0 []]
noncomputable def turnV (t : Tab) : AVal := if t.ok then .tuple [(canon t.turn).v, .int .i64 0] else .tuple [noTab, .int .i64 60]

theorem turn_cells {t : Tab} (hC : 1 ≤ t.C) : t.turn.cells.map (fun l => AVal.lit false 2 (l.map spV)) = ((t.R, colN t 0 t.R) :: tuD t (t.C - 1)).map fun r => .lit false 2 r.2 := by
  have hr : List.range t.C = 0 :: (List.range (t.C - 1)).map Nat.succ := by
    rw [← List.range_succ_eq_map]; congr 1; omega
  unfold Tab.turn tuD
  simp only [hr, List.map_cons, List.map_map]
  rfl

theorem Turned_run {T : TabV} (hT : T.Wf) (hO : T.tab.Ok) : ∃ v H', runT env 51 [T.v] [] 0 = some (.ret v, H') ∧ handBack H' 0 [] 4 v = some (.tuple [(canon T.tab.turn).v, .int .i64 0]) := by
  have hR8 := hO.R8
  have hC8 := hO.C8
  have hR1 := hO.R1
  have hC1 := hO.C1
  have ck := check_call T hT
  obtain ⟨g, cl⟩ := clone_call hT hO
  have cl := cl 0 [boxT T, .cells 0 3 false [.agg [.lit true 0 [], .lit true 0 [], .lit true 0 []]]] 2
  have at0 := clone_at hO [boxT T, .cells 0 3 false [.agg [.lit true 0 [], .lit true 0 [], .lit true 0 []]]] g
  have hpu := putU_end (clX T 2 g) [boxT T, .cells 0 3 false [.agg [.lit true 0 [], .lit true 0 [], .lit true 0 []]]]
  have H1 : ([boxT T, .cells 0 3 false [.agg [.lit true 0 [], .lit true 0 [], .lit true 0 []]]] : Heap).length = 2 := rfl
  rw [H1] at at0 hpu
  have hXl := clX_len T 2 g hR1
  have hXb : (clX T 2 g)[2]? = some (.cells 0 2 true (T.rows.l.map spV)) ∧ (clX T 2 g)[3]? = some (.cells 0 2 true (T.cols.l.map spV)) := ⟨rfl, rfl⟩
  generalize hX : clX T 2 g = X at cl at0 hpu hXl hXb
  generalize hp : clP' 2 = ps at at0
  have at1 := at0.more [.cells 0 3 false [memT T.tab 4 5 12 0 0 g], .cells 0 0 false [], .cells 0 0 false [], .cells 0 0 false []]
  obtain ⟨A, hA⟩ : ∃ A : Heap, A = ([boxT T, .cells 0 3 false [.agg [.lit true 0 [], .lit true 0 [], .lit true 0 []]]] ++ X) ++ [.cells 0 3 false [memT T.tab 4 5 12 0 0 g], .cells 0 0 false [], .cells 0 0 false [], .cells 0 0 false []] := ⟨_, rfl⟩
  have hAl : A.length = X.length + 1 + 1 + 1 + 1 + 1 + 1 := by rw [hA]; simp only [List.length_append, List.length_cons, List.length_nil]; omega
  have hA5 : A[X.length + 1 + 1]? = some (.cells 0 3 false [memT T.tab 4 5 12 0 0 g]) := by
    rw [hA, List.getElem?_append_right (by simp only [List.length_append, List.length_cons, List.length_nil]; omega)]
    simp only [List.length_append, List.length_cons, List.length_nil]
    rw [show X.length + 1 + 1 - (0 + 1 + 1 + X.length) = 0 by omega]; rfl
  have hAs : ∀ b, boxT T :: .cells 0 3 false [.agg [.lit true 0 [], .lit true 0 [], .lit true 0 []]] :: (X ++ [.cells 0 3 false [memT T.tab 4 5 12 0 0 g]] ++ [.cells 0 0 false []] ++ [.cells 0 0 false []] ++ [.cells 0 0 false []] ++ [b]) = A ++ [b] := fun b => by
    rw [hA]; simp
  have hA1 : 1 < A.length := by omega
  have hAz : A[1]? = some (.cells 0 3 false [.agg [.lit true 0 [], .lit true 0 [], .lit true 0 []]]) := by rw [hA]; rfl
  rw [← hA] at at1
  clear hA
  have hk0 : (0 : Nat) < T.tab.C := hC1
  have hXX : (A ++ [bldM (.ref 5 0 0 T.tab.C false) (.ref 4 0 0 T.tab.R false) (.lit true 0 [])]).length = X.length + 1 + 1 + 1 + 1 + 1 + 1 + 1 := by rw [List.length_append, hAl]; rfl
  obtain ⟨ex, st, hx, hpp⟩ := tn_inner hO hXX (p5 := X.length + 1 + 1) (p6 := X.length + 1 + 1 + 1 + 1 + 1 + 1) (by rw [List.getElem?_append_left (by omega)]; exact hA5) (by omega) (at1.more _) hk0 T.tab.C T.tab.R 0 _ _ _ _ _ _ _ _ _ _ _ _ _ _ _ _ _ _ _ _ _ _ _ _ _ _ _ _ _ _ _ _ _ _ _ _ _ _ _ _ _ _ _ _ _ _ (by omega)
  obtain ⟨rfl, jp, rfl⟩ := hpp
  obtain ⟨ex2, st2, hx2, hpp2⟩ := tn_outer hO (A := A) (p5 := X.length + 1 + 1) hA5 (by omega) at1 (T.tab.C - 1) 0 _ _ _ _ _ _ _ _ _ _ _ _ _ _ _ _ _ _ _ _ _ _ _ _ _ _ _ _ _ _ _ _ _ _ _ _ _ _ _ _ _ _ _ _ _ _ _ _ _ _ (by omega)
  obtain ⟨rfl, jq, rfl⟩ := hpp2
  have hcne : colN T.tab 0 T.tab.R ≠ [] := fun e => by have := colN_length T.tab 0 T.tab.R; rw [e] at this; simp at this; omega
  have c0 : colN T.tab 0 0 = [] := rfl
  have a0 : accN [] = .cells 0 0 false [] := rfl
  rw [c0, a0, accN_full hcne, colN_length] at hx
  have e0 : tuD T.tab 0 = [] := rfl
  have e1 : ((0 + 1 : Nat) : Int) = 1 := rfl
  have hd : decide ((0 : Int) < (T.tab.C : Int)) = true := by simp; omega
  have w1 : IntKind.i64.wrap 1 = 1 := by decide
  have ls1 := fun b : Blk => len_snoc (X := X) rfl b
  have ls2 := fun b c : Blk => len_snoc (ls1 b) c
  have ls3 := fun b c d : Blk => len_snoc (ls2 b c) d
  have ls4 := fun b c d e : Blk => len_snoc (ls3 b c d) e
  have gs1 := fun b : Blk => get_snoc (X := X) rfl b
  have ss4 := fun b c d e f f' : Blk => set_snoc (ls4 b c d e) f f'
  have fi := bld_first (A := A) (x := .ref 5 0 0 T.tab.C false) (y := .ref 4 0 0 T.tab.R false) (T.tab.R, colN T.tab 0 T.tab.R)
  have fs := bld_start (A := A) (x := .ref 5 0 0 T.tab.C false) (y := .ref 4 0 0 T.tab.R false) (T.tab.R, colN T.tab 0 T.tab.R)
  have ft := bld_trunc0 (A := A) (x := .ref 5 0 0 T.tab.C false) (y := .ref 4 0 0 T.tab.R false) (T.tab.R, colN T.tab 0 T.tab.R)
  have hAlen := fun b : Blk => len_snoc (X := A) hAl b
  have hAlen2 := fun b c : Blk => len_snoc (hAlen b) c
  have hAlen3 := fun b c d : Blk => len_snoc (hAlen2 b c) d
  have hAlen4 := fun b c d e : Blk => len_snoc (hAlen3 b c d) e
  have hAg := fun b : Blk => get_snoc (X := A) hAl b
  have hAt := fun b b' : Blk => set_snoc (X := A) hAl b b'
  have hAg2 : ∀ b c : Blk, (A ++ [b] ++ [c])[X.length + 1 + 1 + 1 + 1 + 1 + 1]? = some b := fun b c => by rw [List.getElem?_append_left (by rw [hAlen]; omega)]; exact hAg b
  have hAg3 : ∀ b c d : Blk, (A ++ [b] ++ [c] ++ [d])[X.length + 1 + 1 + 1 + 1 + 1 + 1]? = some b := fun b c d => by rw [List.getElem?_append_left (by rw [hAlen2]; omega)]; exact hAg2 b c
  have hAg4 : ∀ b c d e : Blk, (A ++ [b] ++ [c] ++ [d] ++ [e])[X.length + 1 + 1 + 1 + 1 + 1 + 1]? = some b := fun b c d e => by rw [List.getElem?_append_left (by rw [hAlen3]; omega)]; exact hAg3 b c d
  have z1 : (X.length + 1 + 1 + 1 + 1 + 1 + 1 < X.length + 1 + 1 + 1 + 1 + 1 + 1 + 1 + 1 + 1 + 1) = True := eq_true (by omega)
  have bm : ∀ x y c, bldM x y c = .cells 0 3 false [.agg [x, y, c]] := fun _ _ _ => rfl
  simp only [hAl, bm, colN_length] at fi fs ft hx
  have ss1 := fun b b' : Blk => set_snoc (X := X) rfl b b'
  simp only [boxT, memT, Nat.reduceAdd, List.cons_append, List.nil_append] at cl hpu hAs
  simp only [go_sem, simprocAttr, Try.f51, Int.ofNat_zero, Int.natCast_zero] at hx
  simp only [go_sem, simprocAttr, Try.f51, hAl, e0, e1] at hx2
  have yt := bld_tab (A := A) (x := .ref 5 0 0 T.tab.C false) (y := .ref 4 0 0 T.tab.R false) (r0 := (T.tab.R, colN T.tab 0 T.tab.R)) (rs := tuD T.tab (T.tab.C - 1)) []
  have ya := bld_acc (A := A) (x := .ref 5 0 0 T.tab.C false) (y := .ref 4 0 0 T.tab.R false) (r0 := (T.tab.R, colN T.tab 0 T.tab.R)) (rs := tuD T.tab (T.tab.C - 1)) []
  have yl := fun i h => bld_low (A := A) (x := .ref 5 0 0 T.tab.C false) (y := .ref 4 0 0 T.tab.R false) (r0 := (T.tab.R, colN T.tab 0 T.tab.R)) (rs := tuD T.tab (T.tab.C - 1)) [] (i := i) h
  have y0 := bld_row0 (A := A) (x := .ref 5 0 0 T.tab.C false) (y := .ref 4 0 0 T.tab.R false) (r0 := (T.tab.R, colN T.tab 0 T.tab.R)) (rs := tuD T.tab (T.tab.C - 1))
  have yr := fun i r h => bld_row (A := A) (x := .ref 5 0 0 T.tab.C false) (y := .ref 4 0 0 T.tab.R false) (r0 := (T.tab.R, colN T.tab 0 T.tab.R)) (rs := tuD T.tab (T.tab.C - 1)) (i := i) (r := r) h
  have yn := bld_len (A := A) (x := .ref 5 0 0 T.tab.C false) (y := .ref 4 0 0 T.tab.R false) (r0 := (T.tab.R, colN T.tab 0 T.tab.R)) (rs := tuD T.tab (T.tab.C - 1))
  have eC : T.tab.C - 1 + 1 = T.tab.C := by omega
  generalize bldH A (.ref 5 0 0 T.tab.C false) (.ref 4 0 0 T.tab.R false) (T.tab.R, colN T.tab 0 T.tab.R) (tuD T.tab (T.tab.C - 1)) = Y at hx2 yt ya yl y0 yr yn
  have y1 : Y[1]? = some (.cells 0 3 false [.agg [.lit true 0 [], .lit true 0 [], .lit true 0 []]]) := by
    have := yl 1 hA1
    rw [List.append_nil] at this
    rw [this, hAz]
  have y1' : ∀ b, (Y.set 1 b)[1]? = some b := fun b => List.getElem?_set_self (by rw [yn]; omega)
  have ylt : (1 < Y.length) = True := eq_true (by rw [yn]; omega)
  simp only [hAl, bm, tuD_length, eC, List.append_nil] at yt ya
  have key : runT env 51 [T.v] [] 0 = some (.ret (.tuple [.agg [.ref 5 0 0 T.tab.C false, .ref 4 0 0 T.tab.R false, .ref (X.length + 1 + 1 + 1 + 1 + 1 + 1 + 3) (T.tab.C - 1) 0 T.tab.C false], .int .i64 0]), Y.set 1 (.cells 0 3 false [.agg [.ref 5 0 0 T.tab.C false, .ref 4 0 0 T.tab.R false, .ref (X.length + 1 + 1 + 1 + 1 + 1 + 1 + 3) (T.tab.C - 1) 0 T.tab.C false]])) := by
    rw [run_unfold fn51 rfl]
    simp only [go_sem, simprocAttr, Try.f51, ck, ckS_ok (Tab.ok_iff.2 hO), cl, hpu, virtual, ls1, ls2, ls3, ls4, gs1, ss1, ss4, Nat.lt_add_one, bd25, hAs, hAlen, hAg, hAt, List.length_map]
    rw [exec_loop]
    simp only [go_sem, simprocAttr, hd, hAlen, hAlen2, hAg, hAg2]
    rw [hx]
    simp only [go_sem, simprocAttr, hAlen, hAlen2, hAlen3, hAlen4, hAg, hAg2, hAg3, hAg4, fi, fs, ft, z1, w1, Nat.zero_le]
    rw [hx2]
    simp only [go_sem, simprocAttr, yt, y1, y1', ylt, unwind, modeEx, resultsOf, one]
  refine ⟨_, _, key, ?_⟩
  have hne : ∀ i b, i ≠ 1 → (Y.set 1 b)[i]? = Y[i]? := fun i b h => List.getElem?_set_ne (Ne.symm h)
  have yl' : ∀ i, i < A.length → Y[i]? = A[i]? := fun i h => by have := yl i h; rwa [List.append_nil] at this
  have hb := hb_tab (H := Y.set 1 (.cells 0 3 false [.agg [.ref 5 0 0 T.tab.C false, .ref 4 0 0 T.tab.R false, .ref (X.length + 1 + 1 + 1 + 1 + 1 + 1 + 3) (T.tab.C - 1) 0 T.tab.C false]])) (t := T.tab.turn) (p1 := 5) (g1 := 0) (p2 := 4) (g2 := 0) (q := X.length + 1 + 1 + 1 + 1 + 1 + 1 + 3) (g := T.tab.C - 1) (n := 1)
    (by rw [hne _ _ (by omega), yl' 5 (by omega)]; exact at1.cols) (by rw [hne _ _ (by omega), yl' 4 (by omega)]; exact at1.rows) (by rw [hne _ _ (by omega)]; exact ya)
    (by
      have := bld_mapO (H := Y.set 1 (.cells 0 3 false [.agg [.ref 5 0 0 T.tab.C false, .ref 4 0 0 T.tab.R false, .ref (X.length + 1 + 1 + 1 + 1 + 1 + 1 + 3) (T.tab.C - 1) 0 T.tab.C false]])) (ok := fun j => decide (0 ≤ j) && !([] : List Nat).contains j) (p := A.length) (r0 := (T.tab.R, colN T.tab 0 T.tab.R)) (rs := tuD T.tab (T.tab.C - 1)) (fun j => by simp) (by rw [hne _ _ (by omega)]; exact y0) (fun i r h => by rw [hne _ _ (by omega)]; exact yr i r h)
      rw [turn_cells hC1, ← this, hAl]) (by rw [List.length_cons, rowR_length, tuD_length]; exact eC)
  unfold handBack
  simp only [mapO]
  have hb : handBack _ 0 [] 3 (.agg [.ref 5 0 0 T.tab.C false, .ref 4 0 0 T.tab.R false, .ref (X.length + 1 + 1 + 1 + 1 + 1 + 1 + 3) (T.tab.C - 1) 0 T.tab.C false]) = _ := hb
  rw [hb]
  rfl

theorem Turned_call {T : TabV} (hT : T.Wf) (ro : Nat) (H : Heap) (nx : Nat) : callT env 51 [T.v] ro H nx = some (.ret (turnV T.tab), .ups []) := by
  unfold turnV
  cases hok : T.tab.ok with
  | false =>
    have ck := check_call T hT
    have : ∃ H', runT env 51 [T.v] [] 0 = some (.ret (.tuple [noTab, .int .i64 60]), H') := by
      rw [run_unfold fn51 rfl]
      simp only [go_sem, simprocAttr, Try.f51, ck, ckS_no hok, unwind, modeEx, resultsOf, one]
      exact ⟨_, rfl⟩
    obtain ⟨H', h⟩ := this
    exact call_pure rfl rfl rfl tv_pure h rfl ro H nx
  | true =>
    obtain ⟨v, H', h, hb⟩ := Turned_run hT (Tab.ok_iff.1 hok)
    exact call_back rfl rfl rfl tv_pure h hb rfl ro H nx

set_option maxRecDepth 10000
set_option maxHeartbeats 4000000

theorem ends_turn_row {t : Tab} {r : Nat} (hr : r < t.R) {lo hi : Int} (h : IsEnds t.net [t.R * t.C + r] lo hi) : IsEnds t.turn.net [t.turn.R * t.turn.C + t.turn.R + r] lo hi := by
  obtain ⟨⟨x, hx, ex⟩, ⟨y, hy, ey⟩, ha⟩ := isEnds_iff.1 h
  rw [brings_row t _ hr] at ex ey
  refine isEnds_iff.2 ⟨⟨fun k i => x i k, (fits_turn _).2 hx, ?_⟩, ⟨fun k i => y i k, (fits_turn _).2 hy, ?_⟩, fun s hs => ?_⟩
  · rw [brings_col t.turn _ (show r < t.turn.C from hr)]; exact ex
  · rw [brings_col t.turn _ (show r < t.turn.C from hr)]; exact ey
  · have := ha _ ((fits_turn s).1 hs)
    rw [brings_row t _ hr] at this
    rw [brings_col t.turn _ (show r < t.turn.C from hr)]; exact this

set_option maxRecDepth 10000
set_option maxHeartbeats 2000000

end Go.Proofs.Ytgfejpngfikjiaa.Tidy

namespace Go.Proofs.Ytgfejpngfikjiaa.Tidy
open Go

theorem brings_total (t : Tab) (x : Nat → Nat → Int) : t.brings (rowsL t t.R) x = sumN t.R fun i => sumN t.C (x i) := by
  have m1 : ∀ j, j < t.R * t.C → j ∉ rowsL t t.R := by
    intro j hj h
    simp only [rowsL, List.mem_map, List.mem_range] at h
    obtain ⟨i, _, e⟩ := h
    omega
  have m2 : ∀ i, i < t.R → t.R * t.C + i ∈ rowsL t t.R := by
    intro i hi
    simp only [rowsL, List.mem_map, List.mem_range]
    exact ⟨i, hi, rfl⟩
  have m3 : ∀ k, t.R * t.C + t.R + k ∉ rowsL t t.R := by
    intro k h
    simp only [rowsL, List.mem_map, List.mem_range] at h
    obtain ⟨i, hi, e⟩ := h
    omega
  unfold Tab.brings brings
  rw [show t.net.n = t.R * t.C + t.R + t.C from rfl, net_sum]
  rw [sumN_zero (n := t.R) (f := fun i => sumN t.C fun k => pickG (rowsL t t.R) (i * t.C + k) * t.flow x (i * t.C + k)) fun i hi => sumN_zero fun k hk => by
      unfold pickG; rw [if_neg (m1 _ (cell_lt hi hk))]; omega,
    sumN_zero (n := t.C) (f := fun k => pickG (rowsL t t.R) (t.R * t.C + t.R + k) * t.flow x (t.R * t.C + t.R + k)) fun k _ => by
      unfold pickG; rw [if_neg (m3 k)]; omega, Int.add_zero, Int.zero_add]
  refine sumN_congr fun i hi => ?_
  rw [t.flow_row x hi]
  unfold pickG
  rw [if_pos (m2 i hi)]; omega

def EndsP (t : Tab) (μ : (Nat → Nat → Int) → Int) (x : Spn) : Prop := (∃ s, Fits t s ∧ μ s = x.lo) ∧ (∃ s, Fits t s ∧ μ s = x.hi) ∧ ∀ s, Fits t s → x.lo ≤ μ s ∧ μ s ≤ x.hi

theorem EndsP.of {t : Tab} {l : List Nat} {lo hi : Int} (h : IsEnds t.net l lo hi) {μ : (Nat → Nat → Int) → Int} (e : ∀ s, t.brings l s = μ s) : EndsP t μ ⟨lo, hi⟩ := by
  obtain ⟨⟨s1, h1, e1⟩, ⟨s2, h2, e2⟩, h3⟩ := isEnds_iff.1 h
  exact ⟨⟨s1, h1, by rw [← e, e1]⟩, ⟨s2, h2, by rw [← e, e2]⟩, fun s hs => by rw [← e]; exact h3 s hs⟩

theorem EndsP.unique {t : Tab} {μ ν : (Nat → Nat → Int) → Int} {x y : Spn} (h : EndsP t μ x) (h' : EndsP t ν y) (e : ∀ s, Fits t s → μ s = ν s) : x = y := by
  obtain ⟨⟨s1, a1, b1⟩, ⟨s2, a2, b2⟩, c⟩ := h
  obtain ⟨⟨s3, a3, b3⟩, ⟨s4, a4, b4⟩, c'⟩ := h'
  have e1 := c' s1 a1
  have e2 := c' s2 a2
  have e3 := c s3 a3
  have e4 := c s4 a4
  rw [← e _ a1] at e1
  rw [← e _ a2] at e2
  rw [e _ a3] at e3
  rw [e _ a4] at e4
  have q1 : x.lo = y.lo := by omega
  have q2 : x.hi = y.hi := by omega
  cases x; cases y
  simp only at q1 q2
  rw [q1, q2]

theorem EndsP.le {t : Tab} {μ : (Nat → Nat → Int) → Int} {x : Spn} (h : EndsP t μ x) : x.lo ≤ x.hi := by
  obtain ⟨⟨s1, a1, b1⟩, _, c⟩ := h
  have := c s1 a1
  omega

end Go.Proofs.Ytgfejpngfikjiaa.Tidy

namespace Go.Proofs.Ytgfejpngfikjiaa.Tidy
open Go Go.IntWalk
set_option maxRecDepth 10000
set_option linter.unusedSimpArgs false
set_option maxHeartbeats 2000000

set_option maxRecDepth 10000
set_option maxHeartbeats 2000000

theorem EndsAns.zero {t : Tab} {code : Int} {l : List Nat} {v : AVal} (h : EndsAns t code l v) (hc : code = 0) : ∃ lo hi, IsEnds t.net l lo hi ∧ v = .tuple [.agg [.int .i64 lo, .int .i64 hi], .int .i64 0] := by
  rcases h with ⟨h1, _⟩ | ⟨_, _, lo, hi, h2, rfl⟩
  · exact absurd hc h1
  · exact ⟨lo, hi, h2, rfl⟩

set_option maxRecDepth 10000
set_option maxHeartbeats 4000000

end Go.Proofs.Ytgfejpngfikjiaa.Tidy

