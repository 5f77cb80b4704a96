/-
  What the functions that SharesExact reaches compute; the law, run.
-/
import Derived.Test.YtgfejpngfikjiaaWa
import Derived.Test.YtgfejpngfikjiaaWb
import Derived.Test.YtgfejpngfikjiaaCf
set_option linter.all false
namespace Go.Proofs.Ytgfejpngfikjiaa.Tidy
open Go Go.IntWalk
set_option maxRecDepth 10000
set_option linter.unusedSimpArgs false
set_option maxHeartbeats 4000000

set_option maxRecDepth 10000
set_option maxHeartbeats 4000000

set_option maxRecDepth 10000
set_option maxHeartbeats 4000000

theorem LeastF.range {t : Tab} {r : Nat} (hr : r < t.R) {v : Int} (h : LeastF t (rowF t r) v) : (t.row r).lo ≤ v ∧ v ≤ (t.row r).hi := by
  obtain ⟨s, hs, rfl⟩ := h.at_
  exact hs.row r hr
theorem GreatF.range {t : Tab} {r : Nat} (hr : r < t.R) {v : Int} (h : GreatF t (rowF t r) v) : (t.row r).lo ≤ v ∧ v ≤ (t.row r).hi := by
  obtain ⟨s, hs, rfl⟩ := h.at_
  exact hs.row r hr

set_option maxRecDepth 10000
set_option maxHeartbeats 4000000

set_option maxRecDepth 10000
set_option maxHeartbeats 4000000

section
variable {A : Heap} {x y : AVal} {r0 : RowD} {rs : List RowD}
end

set_option maxRecDepth 10000
set_option maxHeartbeats 4000000

set_option maxRecDepth 10000
set_option maxHeartbeats 4000000

set_option maxRecDepth 10000
set_option maxHeartbeats 4000000

set_option maxRecDepth 10000
set_option maxHeartbeats 4000000

theorem askS_out {t : Tab} {i k : Int} (hok : t.ok = true) (hcan : canB t = false) : askS t i k = 31 := by
  unfold askS; rw [hok, hcan]; rfl

set_option maxRecDepth 10000
set_option maxHeartbeats 4000000

theorem exact_law (a0 a1 a2 a3 a4 a5 a6 a7 a8 a9 : List AVal) (h0 : FitT env 8 25 a0) (h1 : FitT env 8 46 a1) (h2 : FitT env 8 3 a2) (h3 : FitT env 8 3 a3) (h4 : FitT env 8 3 a4) (h5 : FitT env 8 4 a5) (h6 : FitT env 8 3 a6) (h7 : FitT env 8 28 a7) (h8 : FitT env 8 5 a8) (h9 : FitT env 8 5 a9) : ∃ H', runT env 19 [pack ⟨.struct [(22, 0), (22, 1), (23, 2)], 3, 72, .agg [.lit true 0 [], .lit true 0 [], .lit true 0 []]⟩ a0, pack ⟨.slice 51, 1, 24, .lit true 0 []⟩ a1, pack ⟨.int .i64, 1, 8, .int .i64 (0)⟩ a2, pack ⟨.int .i64, 1, 8, .int .i64 (0)⟩ a3, pack ⟨.int .i64, 1, 8, .int .i64 (0)⟩ a4, pack ⟨.bool, 1, 1, .bool false⟩ a5, pack ⟨.int .i64, 1, 8, .int .i64 (0)⟩ a6, pack ⟨.struct [(26, 0), (26, 1)], 2, 48, .agg [.lit true 0 [], .lit true 0 []]⟩ a7, pack ⟨.int .u8, 1, 1, .int .u8 (0)⟩ a8, pack ⟨.int .u8, 1, 1, .int .u8 (0)⟩ a9] [] 0 = some (.ret (.bool true), H') := by
  obtain ⟨T, hT, e0⟩ := fit_tab (m := 3) h0
  obtain ⟨M, hM, rfl⟩ := fit_mat h1
  obtain ⟨row, rfl, _⟩ := fit_int ti3 h2
  obtain ⟨col, rfl, _⟩ := fit_int ti3 h3
  obtain ⟨n, rfl, _⟩ := fit_int ti3 h4
  obtain ⟨up, rfl⟩ := fit_bool h5
  obtain ⟨bd, rfl, _⟩ := fit_int ti3 h6
  obtain ⟨cu, hcu, e7⟩ := fit_cut (m := 5) h7
  obtain ⟨rs, rfl, hrs⟩ := fit_int ti5 h8
  obtain ⟨cs, rfl, hcs⟩ := fit_int ti5 h9
  show ∃ H', runT env 19 [.agg a0, M.v, .int .i64 row, .int .i64 col, .int .i64 n, .bool up, .int .i64 bd, .agg a7, .int .u8 rs, .int .u8 cs] [] 0 = some (.ret (.bool true), H')
  rw [e0, e7]
  have wk := work_call T hT
  have lr : T.rows.l.length = T.tab.R := rfl
  have lc : T.cols.l.length = T.tab.C := rfl
  rw [run_unfold fn19 rfl]
  cases hw : workB T.tab with
  | false =>
    simp (config := { maxSteps := 2000000 }) only [go_sem, simprocAttr, Try.f19, wk, hw, unwind, modeEx, resultsOf, one]
    exact ⟨_, rfl⟩
  | true =>
    have hO := (work_ok hw).1
    have hR8 := hO.R8
    have hC8 := hO.C8
    have hok := Tab.ok_iff.2 hO
    cases d1 : decide (row < 0) with
    | true =>
      simp (config := { maxSteps := 2000000 }) only [go_sem, simprocAttr, Try.f19, wk, hw, d1, unwind, modeEx, resultsOf, one]
      exact ⟨_, rfl⟩
    | false =>
    cases d2 : decide ((T.tab.R : Int) ≤ row) with
    | true =>
      simp (config := { maxSteps := 2000000 }) only [go_sem, simprocAttr, Try.f19, wk, hw, d1, List.length_map, lr, d2, unwind, modeEx, resultsOf, one]
      exact ⟨_, rfl⟩
    | false =>
    cases d3 : decide (col < 0) with
    | true =>
      simp (config := { maxSteps := 2000000 }) only [go_sem, simprocAttr, Try.f19, wk, hw, d1, List.length_map, lr, d2, d3, unwind, modeEx, resultsOf, one]
      exact ⟨_, rfl⟩
    | false =>
    cases d4 : decide ((T.tab.C : Int) ≤ col) with
    | true =>
      simp (config := { maxSteps := 2000000 }) only [go_sem, simprocAttr, Try.f19, wk, hw, d1, List.length_map, lr, lc, d2, d3, d4, unwind, modeEx, resultsOf, one]
      exact ⟨_, rfl⟩
    | false =>
    obtain ⟨r, rfl, hr⟩ : ∃ r : Nat, row = r ∧ r < T.tab.R := ⟨row.toNat, by simp at d1; omega, by simp at d1 d2; omega⟩
    obtain ⟨c, rfl, hc⟩ : ∃ c : Nat, col = c ∧ c < T.tab.C := ⟨col.toNat, by simp at d3; omega, by simp at d3 d4; omega⟩
    have dd : ∀ n : Int, decide (n = n) = true := fun n => decide_eq_true rfl
    cases hcan : canB T.tab with
    | false =>
      have hz : askS T.tab (r : Int) (c : Int) = 31 := askS_out hok hcan
      obtain ⟨w, hv, ce⟩ := cellE_call hT (r : Int) (c : Int)
      rcases hv with ⟨_, rfl⟩ | ⟨hz', _⟩
      · rw [hz] at ce
        simp (config := { maxSteps := 2000000 }) only [go_sem, simprocAttr, Try.f19, wk, hw, d1, List.length_map, lr, lc, d2, d3, d4, ce, eq_spn, Option.map_some, dd, Bool.and_self, unwind, modeEx, resultsOf, one]
        exact ⟨_, rfl⟩
      · rw [hz] at hz'; cases hz'
    | true =>
    obtain ⟨x, hx0, cx⟩ := cell_ends hT hO hcan hr hc
    obtain ⟨y, hy, cy⟩ := row_ends hT hO hcan hr
    obtain ⟨z, hz, cz⟩ := col_ends hT hO hcan hc
    obtain ⟨u, hu, cu'⟩ := total_ends hT hO hcan
    obtain ⟨v, hv, cv⟩ := blk_ends hT hO hcan rs cs
    have ct := cut_call hO
    have hx : EndsP T.tab (fun s => s r c) x := by
      rwa [show blkM T.tab (fun i => decide (i = r)) (fun k => decide (k = c)) = fun s => s r c from funext fun s => blkM_cell hr hc s] at hx0
    have g1 : decide (x.hi < x.lo) = false := decide_eq_false (by have := hx.le; omega)
    have g2 : decide (y.hi < y.lo) = false := decide_eq_false (by have := hy.le; omega)
    have g3 : decide (z.hi < z.lo) = false := decide_eq_false (by have := hz.le; omega)
    have g4 : decide (u.hi < u.lo) = false := decide_eq_false (by have := hu.le; omega)
    have g5 : decide (v.hi < v.lo) = false := decide_eq_false (by have := hv.le; omega)
    have hle := hx.le
    have hb : 0 ≤ x.lo ∧ x.hi ≤ 2 ^ 30 := by
      obtain ⟨⟨s1, f1, e1⟩, ⟨s2, f2, e2⟩, _⟩ := hx
      have e1 : s1 r c = x.lo := e1
      have e2 : s2 r c = x.hi := e2
      have b1 := f1.cell r c hr hc
      have b2 := f2.cell r c hr hc
      have bc := hO.cell_ok hr hc
      omega
    have w1 : IntKind.i64.wrap (x.hi - x.lo) = x.hi - x.lo := i64_in _ (by omega)
    have wq : (x.hi - x.lo).tdiv 2 = (x.hi - x.lo) / 2 := Int.tdiv_eq_ediv_of_nonneg (by omega)
    have w2 : IntKind.i64.wrap ((x.hi - x.lo).tdiv 2) = (x.hi - x.lo) / 2 := by rw [wq]; exact i64_in _ (by omega)
    have w3 : IntKind.i64.wrap (x.lo + (x.hi - x.lo) / 2) = x.lo + (x.hi - x.lo) / 2 := i64_in _ (by omega)
    have aska : askS T.tab (r : Int) (c : Int) = 0 := askS_in hok hcan (outB_in hr hc)
    have ends : ∀ {lo hi : Int}, IsEnds T.tab.net [r * T.tab.C + c] lo hi → lo = x.lo ∧ hi = x.hi := fun {lo hi} he => by
      have e := (EndsP.of he fun s => brings_cell _ _ hr hc).unique hx fun s _ => rfl
      rw [← e]; exact ⟨rfl, rfl⟩
    have prf : ∀ up : Bool, ∃ c' : CutA, CutA.Wf c' ∧ (∀ ro H nx, callT env 59 [T.v, .int .i64 (r : Int), .int .i64 (c : Int), .bool up] ro H nx = some (.ret (.tuple [c'.v, .int .i64 0]), .ups [])) ∧ ∀ ro H nx, callT env 60 [T.v, .int .i64 (r : Int), .int .i64 (c : Int), .bool up, .int .i64 (bndS up x.lo x.hi), c'.v] ro H nx = some (.ret (.int .i64 0), .ups []) := fun up => by
      obtain ⟨w, hw, pc⟩ := proof_call hT (r : Int) (c : Int) up
      rcases hw with ⟨h, _⟩ | ⟨_, _, lo, hi, c', he, hc', hf, hg, rfl⟩
      · exact absurd aska h
      · rw [Int.toNat_natCast, Int.toNat_natCast] at he
        obtain ⟨rfl, rfl⟩ := ends he
        refine ⟨c', hc', pc, fun ro H nx => ?_⟩
        rw [cp_call hT r c up _ hc', cpS_zero hO (outB_in hr hc) (by cases up <;> simp only [bndS, if_true, Bool.false_eq_true, if_false] <;> omega) (by cases up <;> simp only [bndS, if_true, Bool.false_eq_true, if_false] <;> omega) hf hg]
    obtain ⟨c1, hc1, p1, q1⟩ := prf true
    obtain ⟨c2, hc2, p2, q2⟩ := prf false
    simp only [bndS, if_true, Bool.false_eq_true, if_false] at q1 q2
    have cp := cp_call hT (r : Int) (c : Int) up bd hcu
    have snd := cp_sound hO hr hc hx (up := up) (n := bd) (cu := cu)
    generalize cpS T.tab (r : Int) (c : Int) up bd cu = S at cp snd
    cases ha : alwB T.tab M.m with
    | false =>
      have al := allowed_call hT hO hM
      rw [ha] at al
      obtain ⟨ex, st, hx, hp⟩ := ex_loop hT hO hr hc hcan hx (H := [boxT T, .cells 0 2 false [cu.v], spB x, .cells 0 2 false [(bitC T.tab rs cs).v], spB y, spB z, spB u, spB v]) rfl rfl up bd (l := [n, x.lo, x.hi, x.lo + (x.hi - x.lo) / 2]) rfl 4 0 _ _ _ _ _ _ _ _ _ _ _ _ _ _ _ _ _ _ _ _ _ _ _ _ _ _ _ _ _ _ _ _ _ _ _ _ _ _ _ _ _ _ _ _ _ _ _ _ _ _ _ _ _ _ _ _ _ _ _ _ _ _ _ _ _ _ _ _ _ _ _ _ _ _ _ _ _ _ _ _ _ _ _ _ _ _ _ _ _ _ _ _ _ _ _ _ _ _ _ _ _ _ _ _ _ _ _ _ _ _ _ _ _ _ _ _ _ _ _ _ _ _ _ _ _ _ _ _ _ _ _ _ _ _ _ _ _ _ _ _ _ _ _ _ _ _ _ _ _ _ _ _ _ _ _ _ _ _ _ _ _ _ _ _ _ _ _ _ _ _ _ _ _ _ _ _ _ _ _ _ _ _ _ _ _ _ _ _ _ _ _ _ _ _ _ _ _ _ _ _ _ _ _ _ _ _ _ _ _ _ _ _ _ _ _ _ _ _ _ _ _ _ _ _ _ _ _ _ _ _ _ _ _ _ _ _ _ _ _ _ _ _ _ _ _ _ _ _ _ _ _ _ _ _ _ _ _ _ _ _ _ _ _ _ _ _ _ _ _ _ _ _ _ _ _ _ _ _ _ _ _ _ _ _ _ _ _ _ _ _ _ _ _ _ _ _ _ _ _ _ _ _ _ _ _ _ _ _ _ _ _ _ _ _ _ _ _ _ _ _ _ _ _ _ _ _ _ _ _ _ _ _ _ _ _ rfl
      obtain ⟨rfl, jp, rfl⟩ := hp
      simp (config := { maxSteps := 2000000 }) only [go_sem, simprocAttr, Try.f19, boxT, spB, Int.ofNat_zero, Int.natCast_zero, List.map_cons, List.map_nil] at hx
      simp (config := { maxSteps := 2000000 }) only [go_sem, simprocAttr, Try.f19, wk, hw, d1, List.length_map, lr, lc, d2, d3, d4, cx, ct, cy, cz, cu', cv, g1, g2, g3, g4, g5, al, w1, w2, w3]
      rw [hx]
      cases hS : decide (S = 0) with
      | false =>
        simp (config := { maxSteps := 2000000 }) only [go_sem, simprocAttr, cp, hS, p1, q1, p2, q2, dd, unwind, modeEx, resultsOf, one]
        exact ⟨_, rfl⟩
      | true =>
        have snd := snd (of_decide_eq_true hS)
        cases up with
        | true =>
          have snd : decide (bd < x.hi) = false := decide_eq_false (by have : x.hi ≤ bd := snd; omega)
          simp (config := { maxSteps := 2000000 }) only [go_sem, simprocAttr, cp, hS, snd, p1, q1, p2, q2, dd, unwind, modeEx, resultsOf, one]
          exact ⟨_, rfl⟩
        | false =>
          have snd : decide (x.lo < bd) = false := decide_eq_false (by have : bd ≤ x.lo := snd; omega)
          simp (config := { maxSteps := 2000000 }) only [go_sem, simprocAttr, cp, hS, snd, p1, q1, p2, q2, dd, unwind, modeEx, resultsOf, one]
          exact ⟨_, rfl⟩
    | true =>
      have al := allowed_call hT hO hM
      rw [ha] at al
      unfold alwB at ha
      rw [Bool.and_eq_true] at ha
      have hf : Fits T.tab (matOf M.m) := fitsB_iff.1 ha.2
      have hd := ha.1
      unfold dimsB at hd
      rw [Bool.and_eq_true] at hd
      have hD : DimsOk T M := ⟨by have := of_decide_eq_true hd.1; simpa [MatV.m] using this, fun s hs => of_decide_eq_true (List.all_eq_true.1 hd.2 s.l (List.mem_map.2 ⟨s, hs, rfl⟩))⟩
      obtain ⟨bm, _, _, m1, m2, m3, m4, _⟩ := MatV.at hM hD hr hc
      have sm := sum_bits hO hM hD hf
      obtain ⟨_, r2⟩ := one_all r (by omega)
      obtain ⟨_, c2'⟩ := one_all c (by omega)
      have i1 := in_true hx hf (n := matOf M.m r c) rfl
      have i2 := in_true hy hf (n := blkM T.tab (bitU (oneI r)) (bitU 255) (matOf M.m)) (blkM_congr (fun i hi => r2 i (by omega)) (fun k hk => all_bits k (by omega)) _)
      have i3 := in_true hz hf (n := blkM T.tab (bitU 255) (bitU (oneI c)) (matOf M.m)) (blkM_congr (fun i hi => all_bits i (by omega)) (fun k hk => c2' k (by omega)) _)
      have i4 := in_true hu hf (n := blkM T.tab (bitU 255) (bitU 255) (matOf M.m)) (blkM_congr (fun i hi => all_bits i (by omega)) (fun k hk => all_bits k (by omega)) _)
      have i5 := in_true hv hf (n := blkM T.tab (bitU rs) (bitU cs) (matOf M.m)) rfl
      have r0 : (0 : Int) ≤ (r : Int) := by omega
      have c0 : (0 : Int) ≤ (c : Int) := by omega
      simp only [MatV.v, m3] at al sm
      obtain ⟨ex, st, hx, hp⟩ := ex_loop hT hO hr hc hcan hx (H := [boxT T, .cells 0 2 false [cu.v], spB x, .cells 0 2 false [(bitC T.tab rs cs).v], spB y, spB z, spB u, spB v, .cells 0 2 false [(bitC T.tab (oneI r) 255).v], .cells 0 2 false [(bitC T.tab 255 (oneI c)).v]]) rfl rfl up bd (l := [n, x.lo, x.hi, x.lo + (x.hi - x.lo) / 2]) rfl 4 0 _ _ _ _ _ _ _ _ _ _ _ _ _ _ _ _ _ _ _ _ _ _ _ _ _ _ _ _ _ _ _ _ _ _ _ _ _ _ _ _ _ _ _ _ _ _ _ _ _ _ _ _ _ _ _ _ _ _ _ _ _ _ _ _ _ _ _ _ _ _ _ _ _ _ _ _ _ _ _ _ _ _ _ _ _ _ _ _ _ _ _ _ _ _ _ _ _ _ _ _ _ _ _ _ _ _ _ _ _ _ _ _ _ _ _ _ _ _ _ _ _ _ _ _ _ _ _ _ _ _ _ _ _ _ _ _ _ _ _ _ _ _ _ _ _ _ _ _ _ _ _ _ _ _ _ _ _ _ _ _ _ _ _ _ _ _ _ _ _ _ _ _ _ _ _ _ _ _ _ _ _ _ _ _ _ _ _ _ _ _ _ _ _ _ _ _ _ _ _ _ _ _ _ _ _ _ _ _ _ _ _ _ _ _ _ _ _ _ _ _ _ _ _ _ _ _ _ _ _ _ _ _ _ _ _ _ _ _ _ _ _ _ _ _ _ _ _ _ _ _ _ _ _ _ _ _ _ _ _ _ _ _ _ _ _ _ _ _ _ _ _ _ _ _ _ _ _ _ _ _ _ _ _ _ _ _ _ _ _ _ _ _ _ _ _ _ _ _ _ _ _ _ _ _ _ _ _ _ _ _ _ _ _ _ _ _ _ _ _ _ _ _ _ _ _ _ _ _ _ _ _ _ _ _ _ rfl
      obtain ⟨rfl, jp, rfl⟩ := hp
      simp (config := { maxSteps := 2000000 }) only [go_sem, simprocAttr, Try.f19, boxT, spB, Int.ofNat_zero, Int.natCast_zero, List.map_cons, List.map_nil] at hx
      simp (config := { maxSteps := 2000000 }) only [go_sem, simprocAttr, Try.f19, MatV.v, m3, wk, hw, d1, List.length_map, lr, lc, d2, d3, d4, cx, ct, cy, cz, cu', cv, g1, g2, g3, g4, g5, al, shl_b, r0, c0, Int.toNat_natCast, m1, m2, m4, sm, i1, i2, i3, i4, i5, w1, w2, w3]
      rw [apart_ok (by kernel_rfl)]
      simp (config := { maxSteps := 2000000 }) only [go_sem, simprocAttr, MatV.v, m3, ct, al, r0, c0, Int.toNat_natCast, m1, m2, m4, sm, i1, i2, i3, i4, i5, w1, w2, w3]
      rw [hx]
      cases hS : decide (S = 0) with
      | false =>
        simp (config := { maxSteps := 2000000 }) only [go_sem, simprocAttr, cp, hS, p1, q1, p2, q2, dd, unwind, modeEx, resultsOf, one]
        exact ⟨_, rfl⟩
      | true =>
        have snd := snd (of_decide_eq_true hS)
        cases up with
        | true =>
          have snd : decide (bd < x.hi) = false := decide_eq_false (by have : x.hi ≤ bd := snd; omega)
          simp (config := { maxSteps := 2000000 }) only [go_sem, simprocAttr, cp, hS, snd, p1, q1, p2, q2, dd, unwind, modeEx, resultsOf, one]
          exact ⟨_, rfl⟩
        | false =>
          have snd : decide (x.lo < bd) = false := decide_eq_false (by have : bd ≤ x.lo := snd; omega)
          simp (config := { maxSteps := 2000000 }) only [go_sem, simprocAttr, cp, hS, snd, p1, q1, p2, q2, dd, unwind, modeEx, resultsOf, one]
          exact ⟨_, rfl⟩
end Go.Proofs.Ytgfejpngfikjiaa.Tidy


