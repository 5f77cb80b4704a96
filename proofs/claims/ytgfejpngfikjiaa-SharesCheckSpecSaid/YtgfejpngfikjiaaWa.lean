/-
  What the functions that SharesCheckSpec reaches compute; the law, run.
-/
import Derived.Test.YtgfejpngfikjiaaCb
import Derived.Test.YtgfejpngfikjiaaCd
import Derived.Test.YtgfejpngfikjiaaCf
set_option linter.all false
namespace Go.Proofs.Ytgfejpngfikjiaa.Tidy
open Go Go.IntWalk
set_option maxRecDepth 10000
set_option linter.unusedSimpArgs false
set_option maxHeartbeats 2000000

def shB (n : Int) : Bool := decide (0 ≤ n) && decide (n ≤ 2 ^ 30)

theorem notShare_call (n : Int) (ro : Nat) (H : Heap) (nx : Nat) : callT env 110 [.int .i64 n] ro H nx = some (.ret (.bool !shB n), .ups []) := by
  have : ∃ H', runT env 110 [.int .i64 n] [] 0 = some (.ret (.bool !shB n), H') := by
    have sc := share_call n
    rw [run_unfold fn110 rfl]
    unfold shB
    simp only [go_sem, simprocAttr, Try.f110, sc, unwind, modeEx, resultsOf, one]
    exact ⟨_, rfl⟩
  obtain ⟨H', h⟩ := this
  exact call_pure rfl rfl rfl rfl h rfl ro H nx

theorem ix_loop (cl : Bool) (sz : Nat) (l : List Int) (H : Heap) (ro : Nat) (hsz : l = [] ∨ sz = 1) (hlen : l.length < 2 ^ 63) : ∀ (n i : Nat) (j2 j3 j4 j5 j6 j9 j10 j11 j12 j13 j14 j15 j16 j17 j18 : AVal), i + n = l.length →
    Goes (execT env (Try.f133.at [1, 0, 1, 0]) ⟨[.lit cl sz (l.map (AVal.int .i64)), .func 110 [] [], j2, j3, j4, j5, j6, .int .i64 l.length, .int .i64 i, j9, j10, j11, j12, j13, j14, j15, j16, j17, j18], H, [], ro, []⟩) fun e s =>
      if (l.drop i).all shB then e = .exit 0 ∧ FrP 19 [] H [] ro [] s else e = .ret ∧ ∃ (k : Nat), FrP 19 [(4, .int .i64 k)] H [] ro [] s := by
  intro n
  induction n with
  | zero =>
    intro i; intros; rename_i hi
    have hd : decide ((i : Int) < (l.length : Int)) = false := by simp; omega
    have hdr : l.drop i = [] := List.drop_eq_nil_of_le (by omega)
    simp only [go_sem, simprocAttr, Try.f133]
    rw [exec_loop]
    simp only [go_sem, simprocAttr, hd, hdr]
    exact frP (by kernel_rfl)
  | succ n ih =>
    intro i; intros; rename_i hi
    have hd : decide ((i : Int) < (l.length : Int)) = true := by simp; omega
    have h0 : (0 : Int) ≤ (i : Int) := by omega
    obtain ⟨b, hb, hdr⟩ := get_drop (show i < l.length by omega)
    have hz := sz_of hsz hb
    subst hz
    have hb' := ints_get hb
    have nc := notShare_call b
    cases hok : shB b with
    | false =>
      rw [hok] at nc
      simp only [go_sem, simprocAttr, Try.f133]
      rw [exec_loop, hdr]
      simp only [go_sem, simprocAttr, hd, h0, hb', hok, nc]
      exact ⟨i, frP (by kernel_rfl)⟩
    | true =>
      rw [hok] at nc
      have ih' := ih (i + 1)
      simp only [go_sem, simprocAttr, Try.f133] at ih' ⊢
      rw [exec_loop, hdr]
      simp only [go_sem, simprocAttr, hd, h0, hb', hok, nc, wrap_succ (show i < 2 ^ 63 - 1 by omega)]
      exact ih' _ _ _ _ _ _ _ _ _ _ _ _ _ _ _ (by omega)

theorem ix_call {cl : Bool} {sz : Nat} {l : List Int} (hsz : l = [] ∨ sz = 1) (hlen : l.length < 2 ^ 63) (ro : Nat) (H : Heap) (nx : Nat) : ∃ k : Int, (decide (0 ≤ k) = !l.all shB) ∧ callT env 133 [.lit cl sz (l.map (AVal.int .i64)), .func 110 [] []] ro H nx = some (.ret (.int .i64 k), .ups []) := by
  have hu : underL 0 [AVal.lit cl sz (l.map (AVal.int .i64)), .func 110 [] []] = true := rfl
  obtain ⟨e, s, hx, hp⟩ := ix_loop cl sz l [] 0 hsz hlen l.length 0 _ _ _ _ _ _ _ _ _ _ _ _ _ _ _ (by omega)
  rw [List.drop_zero] at hp
  simp only [go_sem, simprocAttr, Try.f133, Int.ofNat_zero, Int.natCast_zero] at hx
  cases hok : l.all shB with
  | true =>
    rw [hok, if_pos rfl] at hp
    obtain ⟨rfl, jj, rfl⟩ := hp
    have : ∃ H', runT env 133 [.lit cl sz (l.map (AVal.int .i64)), .func 110 [] []] [] 0 = some (.ret (.int .i64 (-1)), H') := by
      rw [run_unfold fn133 rfl]
      simp only [go_sem, simprocAttr, Try.f133, List.length_map]
      rw [hx]
      simp only [go_sem, simprocAttr, unwind, modeEx, resultsOf, one]
      exact ⟨_, rfl⟩
    obtain ⟨H', h⟩ := this
    exact ⟨-1, by decide, call_pure rfl rfl rfl hu h rfl ro H nx⟩
  | false =>
    rw [hok, if_neg (by simp)] at hp
    obtain ⟨rfl, k, jj, rfl⟩ := hp
    have : ∃ H', runT env 133 [.lit cl sz (l.map (AVal.int .i64)), .func 110 [] []] [] 0 = some (.ret (.int .i64 k), H') := by
      rw [run_unfold fn133 rfl]
      simp only [go_sem, simprocAttr, Try.f133, List.length_map]
      rw [hx]
      simp only [go_sem, simprocAttr, unwind, modeEx, resultsOf, one]
      exact ⟨_, rfl⟩
    obtain ⟨H', h⟩ := this
    exact ⟨k, by simp, call_pure rfl rfl rfl hu h rfl ro H nx⟩

theorem anyBad_call {cl : Bool} {sz : Nat} {l : List Int} (hsz : l = [] ∨ sz = 1) (hlen : l.length < 2 ^ 63) (ro : Nat) (H : Heap) (nx : Nat) : callT env 109 [.lit cl sz (l.map (AVal.int .i64)), .func 110 [] []] ro H nx = some (.ret (.bool !l.all shB), .ups []) := by
  obtain ⟨k, hk, hc⟩ := ix_call (cl := cl) hsz hlen 0 [] 0
  have : ∃ H', runT env 109 [.lit cl sz (l.map (AVal.int .i64)), .func 110 [] []] [] 0 = some (.ret (.bool !l.all shB), H') := by
    rw [run_unfold fn109 rfl]
    simp only [go_sem, simprocAttr, Try.f109, hc, hk, unwind, modeEx, resultsOf, one]
    exact ⟨_, rfl⟩
  obtain ⟨H', h⟩ := this
  exact call_pure rfl rfl rfl rfl h rfl ro H nx

def firstW (m : List (List Int)) : Nat := (m.getD 0 []).length
def rowSh (c : Nat) (l : List Int) : Bool := decide (l.length = c) && l.all shB
def sumsB (m : List (List Int)) : Bool := sideOk m.length && sideOk (firstW m) && m.all (rowSh (firstW m))

theorem mrow {M : MatV} {i : Nat} {b : SlI} (hM : M.Wf) (hb : M.rows[i]? = some b) : (M.rows.map SlI.v)[i]? = some (.lit b.cl b.sz (b.l.map (AVal.int .i64))) ∧ M.sz = 1 ∧ (b.l = [] ∨ b.sz = 1) ∧ b.l.length < 2 ^ 63 := by
  have hm := List.mem_of_getElem? hb
  exact ⟨by simp [hb, SlI.v], sz_of hM.sz hb, hM.each b hm, hM.le b hm⟩

theorem Sums_loop {M : MatV} (hM : M.Wf) {a : SlI} (ha : M.rows[0]? = some a) : ∀ (n i : Nat) (j1 j2 j3 j4 j5 j6 j7 j8 j9 j10 j11 j12 j13 j14 j15 j16 j17 j18 j19 j20 j24 j25 j26 j27 j28 j29 j30 j31 j32 j33 j34 j35 j36 j37 j38 j39 j40 j41 j42 j43 j44 j45 : AVal), i + n = M.rows.length →
    Goes (execT env (Try.f46.at [1, 1, 0, 1, 0]) ⟨[.lit M.cl M.sz (M.rows.map SlI.v), j1, j2, j3, j4, j5, j6, j7, j8, j9, j10, j11, j12, j13, j14, j15, j16, j17, j18, j19, j20, .lit M.cl M.sz (M.rows.map SlI.v), .int .i64 M.rows.length, .int .i64 i, j24, j25, j26, j27, j28, j29, j30, j31, j32, j33, j34, j35, j36, j37, j38, j39, j40, j41, j42, j43, j44, j45], [], [], 0, []⟩) fun ex st =>
      if (M.rows.drop i).all (fun s => rowSh a.l.length s.l) then ex = .exit 0 ∧ FrP 46 [(0, .lit M.cl M.sz (M.rows.map SlI.v))] [] [] 0 [] st
      else ex = .ret ∧ FrP 46 [(2, .lit true 0 []), (3, .lit true 0 []), (4, .int .i64 1)] [] [] 0 [] st := by
  have hll := hM.len
  obtain ⟨a1, a2, _, _⟩ := mrow hM ha
  intro n
  induction n with
  | zero =>
    intro i; intros; rename_i hi
    have hd : decide ((i : Int) < (M.rows.length : Int)) = false := by simp; omega
    have hdr : M.rows.drop i = [] := List.drop_eq_nil_of_le (by omega)
    simp only [go_sem, simprocAttr, Try.f46]
    rw [exec_loop]
    simp only [go_sem, simprocAttr, hd, hdr]
    exact frP (by kernel_rfl)
  | succ n ih =>
    intro i; intros; rename_i hi
    have hd : decide ((i : Int) < (M.rows.length : Int)) = true := by simp; omega
    have h0 : (0 : Int) ≤ (i : Int) := by omega
    obtain ⟨b, hb, hdr⟩ := get_drop (show i < M.rows.length by omega)
    obtain ⟨b1, _, b3, b4⟩ := mrow hM hb
    have ac := anyBad_call (cl := b.cl) b3 b4
    have el : decide ((b.l.length : Int) = (a.l.length : Int)) = decide (b.l.length = a.l.length) := decide_eq_decide.2 (by omega)
    rw [hdr]
    cases hw : decide (b.l.length = a.l.length) with
    | false =>
      have hr : rowSh a.l.length b.l = false := by unfold rowSh; rw [hw]; rfl
      simp only [go_sem, simprocAttr, Try.f46, a2]
      rw [exec_loop]
      simp only [go_sem, simprocAttr, hd, h0, Int.toNat_natCast, b1, a1, a2, List.length_map, el, hw, hr]
      exact frP (by kernel_rfl)
    | true =>
      cases hs : b.l.all shB with
      | false =>
        have hr : rowSh a.l.length b.l = false := by unfold rowSh; rw [hw, hs]; rfl
        simp only [go_sem, simprocAttr, Try.f46, a2]
        rw [exec_loop]
        simp only [go_sem, simprocAttr, hd, h0, Int.toNat_natCast, b1, a1, a2, List.length_map, el, hw, ac, hs, hr]
        exact frP (by kernel_rfl)
      | true =>
        have hr : rowSh a.l.length b.l = true := by unfold rowSh; rw [hw, hs]; rfl
        have ih' := ih (i + 1)
        simp only [go_sem, simprocAttr, Try.f46, a2] at ih' ⊢
        rw [exec_loop]
        simp only [go_sem, simprocAttr, hd, h0, Int.toNat_natCast, b1, a1, a2, List.length_map, el, hw, ac, hs, hr, wrap_succ (show i < 2 ^ 63 - 1 by omega)]
        exact ih' _ _ _ _ _ _ _ _ _ _ _ _ _ _ _ _ _ _ _ _ _ _ _ _ _ _ _ _ _ _ _ _ _ _ _ _ _ _ _ _ _ _ (by omega)

def sumR (m : List (List Int)) : List Int := vecA m.length fun i => sumN (firstW m) (matOf m i)
def sumC (m : List (List Int)) : List Int := vecA (firstW m) fun k => sumN m.length fun i => matOf m i k

def SumsAns (m : List (List Int)) (v : AVal) : Prop := (sumsB m = false ∧ v = .tuple [.lit true 0 [], .lit true 0 [], .int .i64 1]) ∨
  (sumsB m = true ∧ v = .tuple [.lit false 1 ((sumR m).map (AVal.int .i64)), .lit false 1 ((sumC m).map (AVal.int .i64)), .int .i64 0])

theorem sumOk_of {M : MatV} (hM : M.Wf) (h : sumsB M.m = true) : SumOk M M.m.length (firstW M.m) := by
  unfold sumsB at h
  simp only [Bool.and_eq_true, List.all_eq_true, sideOk, decide_eq_true_eq] at h
  obtain ⟨⟨⟨h1, h2⟩, h3, h4⟩, h5⟩ := h
  have hrow : ∀ l ∈ M.m, l.length = firstW M.m ∧ ∀ x ∈ l, 0 ≤ x ∧ x ≤ 2 ^ 30 := fun l hl => by
    have := h5 l hl
    simp only [rowSh, Bool.and_eq_true, decide_eq_true_eq, List.all_eq_true, shB] at this
    exact ⟨this.1, fun x hx => this.2 x hx⟩
  refine ⟨hM, by simp [MatV.m], fun s hs => (hrow s.l (List.mem_map.2 ⟨s, hs, rfl⟩)).1, h1, h2, h4, fun i k hi hk => ?_⟩
  have e1 : M.m.getD i [] ∈ M.m := getD_mem hi []
  obtain ⟨q1, q2⟩ := hrow _ e1
  exact q2 _ (getD_mem (by rw [q1]; exact hk) 0)

theorem Sums_call {M : MatV} (hM : M.Wf) : ∃ v, SumsAns M.m v ∧ ∀ ro H nx, callT env 46 [M.v] ro H nx = some (.ret v, .ups []) := by
  have mv : M.v = .lit M.cl M.sz (M.rows.map SlI.v) := rfl
  have lm : M.m.length = M.rows.length := by simp [MatV.m]
  have s1 := side_call M.rows.length
  have done : ∀ {v H'}, SumsAns M.m v → runT env 46 [M.v] [] 0 = some (.ret v, H') → noRef v = true → ∃ v, SumsAns M.m v ∧ ∀ ro H nx, callT env 46 [M.v] ro H nx = some (.ret v, .ups []) := fun hv hr hn =>
    ⟨_, hv, fun ro H nx => call_pure rfl rfl rfl (by simp [underL, MatV.under]) hr hn ro H nx⟩
  cases h1 : sideOk M.rows.length with
  | false =>
    have hs : sumsB M.m = false := by unfold sumsB; rw [lm, h1]; rfl
    have : ∃ H', runT env 46 [M.v] [] 0 = some (.ret (.tuple [.lit true 0 [], .lit true 0 [], .int .i64 1]), H') := by
      rw [mv, run_unfold fn46 rfl]
      simp only [go_sem, simprocAttr, Try.f46, List.length_map, s1, h1, unwind, modeEx, resultsOf, one]
      exact ⟨_, rfl⟩
    obtain ⟨H', h⟩ := this
    exact done (.inl ⟨hs, rfl⟩) h rfl
  | true =>
    have hpos : 0 < M.rows.length := by
      simp only [sideOk, Bool.and_eq_true, decide_eq_true_eq] at h1; omega
    obtain ⟨a, ha, _⟩ := get_drop hpos
    obtain ⟨a1, a2, a3, a4⟩ := mrow hM ha
    have l0 : firstW M.m = a.l.length := by
      unfold firstW
      have : M.m.getD 0 [] = a.l := getD_some (by simp [MatV.m, ha])
      rw [this]
    have s2 := side_call a.l.length
    cases h2 : sideOk a.l.length with
    | false =>
      have hs : sumsB M.m = false := by unfold sumsB; rw [l0, h2, Bool.and_false]; rfl
      have : ∃ H', runT env 46 [M.v] [] 0 = some (.ret (.tuple [.lit true 0 [], .lit true 0 [], .int .i64 1]), H') := by
        rw [mv, run_unfold fn46 rfl]
        simp only [go_sem, simprocAttr, Try.f46, List.length_map, s1, h1, a1, a2, s2, h2, unwind, modeEx, resultsOf, one]
        exact ⟨_, rfl⟩
      obtain ⟨H', h⟩ := this
      exact done (.inl ⟨hs, rfl⟩) h rfl
    | true =>
      have eb : sumsB M.m = M.rows.all (fun s => rowSh a.l.length s.l) := by
        unfold sumsB
        rw [lm, h1, l0, h2]
        simp [MatV.m, List.all_map, Function.comp_def]
      obtain ⟨ex, st, hx, hp⟩ := Sums_loop hM ha M.rows.length 0 _ _ _ _ _ _ _ _ _ _ _ _ _ _ _ _ _ _ _ _ _ _ _ _ _ _ _ _ _ _ _ _ _ _ _ _ _ _ _ _ _ _ (by omega)
      rw [List.drop_zero] at hp
      simp only [go_sem, simprocAttr, Try.f46, Int.ofNat_zero, Int.natCast_zero, a2] at hx
      cases h3 : M.rows.all (fun s => rowSh a.l.length s.l) with
      | false =>
        rw [h3, if_neg (by simp)] at hp
        obtain ⟨rfl, jj, rfl⟩ := hp
        have : ∃ H', runT env 46 [M.v] [] 0 = some (.ret (.tuple [.lit true 0 [], .lit true 0 [], .int .i64 1]), H') := by
          rw [mv, run_unfold fn46 rfl]
          simp only [go_sem, simprocAttr, Try.f46, List.length_map, s1, h1, a1, a2, s2, h2]
          rw [hx]
          simp only [go_sem, simprocAttr, unwind, modeEx, resultsOf, one]
          exact ⟨_, rfl⟩
        obtain ⟨H', h⟩ := this
        exact done (.inl ⟨by rw [eb, h3], rfl⟩) h rfl
      | true =>
        rw [h3, if_pos rfl] at hp
        obtain ⟨rfl, jj, rfl⟩ := hp
        have sc := sums_call (sumOk_of hM (by rw [eb, h3]))
        rw [mv] at sc
        have e1 : intsV M.m.length (fun i => sumN (firstW M.m) (matOf M.m i)) = (sumR M.m).map (AVal.int .i64) := intsV_eq _ _
        have e2 : intsV (firstW M.m) (fun k => sumN M.m.length fun i => matOf M.m i k) = (sumC M.m).map (AVal.int .i64) := intsV_eq _ _
        rw [e1, e2] at sc
        have : ∃ H', runT env 46 [M.v] [] 0 = some (.ret (.tuple [.lit false 1 ((sumR M.m).map (AVal.int .i64)), .lit false 1 ((sumC M.m).map (AVal.int .i64)), .int .i64 0]), H') := by
          rw [mv, run_unfold fn46 rfl]
          simp only [go_sem, simprocAttr, Try.f46, List.length_map, s1, h1, a1, a2, s2, h2]
          rw [hx]
          simp only [go_sem, simprocAttr, sc, unwind, modeEx, resultsOf, one]
          exact ⟨_, rfl⟩
        obtain ⟨H', h⟩ := this
        exact done (.inr ⟨by rw [eb, h3], rfl⟩) h rfl

set_option maxRecDepth 10000
set_option maxHeartbeats 2000000

theorem rdims_loop {T : TabV} {M : MatV} (hM : M.Wf) : ∀ (n i : Nat) (j0 j3 j4 j6 j7 j8 j9 j10 j11 j12 j13 j14 j15 j16 j17 j18 j19 j20 j21 j22 j23 j24 j25 j26 : AVal), i + n = M.rows.length →
    Goes (execT env (Try.f107.at [1, 1, 0, 1, 0]) ⟨[j0, .lit M.cl M.sz (M.rows.map SlI.v), .ptr 0 0 0 0, j3, j4, .int .i64 i, j6, j7, j8, j9, j10, j11, j12, j13, j14, j15, j16, j17, j18, j19, j20, j21, j22, j23, j24, j25, j26], [boxT T], [], 0, []⟩) fun ex st =>
      if (M.rows.drop i).all (fun s => decide (s.l.length = T.tab.C)) then ex = .exit 0 ∧ FrP 27 [] [boxT T] [] 0 [] st
      else ex = .ret ∧ FrP 27 [(4, .bool false)] [boxT T] [] 0 [] st := by
  have hll := hM.len
  intro n
  induction n with
  | zero =>
    intro i; intros; rename_i hi
    have hd : decide ((i : Int) < (M.rows.length : Int)) = false := by simp; omega
    have hdr : M.rows.drop i = [] := List.drop_eq_nil_of_le (by omega)
    simp only [go_sem, simprocAttr, Try.f107]
    rw [exec_loop]
    simp only [go_sem, simprocAttr, List.length_map, hd, hdr]
    exact frP (by kernel_rfl)
  | succ n ih =>
    intro i; intros; rename_i hi
    have hd : decide ((i : Int) < (M.rows.length : Int)) = true := by simp; omega
    have h0 : (0 : Int) ≤ (i : Int) := by omega
    obtain ⟨b, hb, hdr⟩ := get_drop (show i < M.rows.length by omega)
    have hz := sz_of hM.sz hb
    have hb' : (M.rows.map SlI.v)[i]? = some (.lit b.cl b.sz (b.l.map (AVal.int .i64))) := by simp [hb, SlI.v]
    have lc : T.cols.l.length = T.tab.C := rfl
    have el : decide ((b.l.length : Int) = (T.tab.C : Int)) = decide (b.l.length = T.tab.C) := decide_eq_decide.2 (by omega)
    rw [hdr]
    cases hw : decide (b.l.length = T.tab.C) with
    | false =>
      simp only [go_sem, simprocAttr, Try.f107, boxT]
      rw [exec_loop]
      simp only [go_sem, simprocAttr, List.length_map, hd, h0, Int.toNat_natCast, hb', hz, lc, el, hw]
      exact frP (by kernel_rfl)
    | true =>
      have ih' := ih (i + 1)
      simp only [go_sem, simprocAttr, Try.f107, boxT, hz] at ih' ⊢
      rw [exec_loop]
      simp only [go_sem, simprocAttr, List.length_map, hd, h0, Int.toNat_natCast, hb', hz, lc, el, hw, wrap_succ (show i < 2 ^ 63 - 1 by omega)]
      exact ih' _ _ _ _ _ _ _ _ _ _ _ _ _ _ _ _ _ _ _ _ _ _ _ _ (by omega)

theorem rdims_call {T : TabV} {M : MatV} (hM : M.Wf) (ro : Nat) (H : Heap) (nx : Nat) : callT env 107 [T.v, M.v] ro H nx = some (.ret (.bool (dimsB T.tab M.m)), .ups []) := by
  have : ∃ H', runT env 107 [T.v, M.v] [] 0 = some (.ret (.bool (dimsB T.tab M.m)), H') := by
    have ed : dimsB T.tab M.m = (decide (M.rows.length = T.tab.R) && M.rows.all fun s => decide (s.l.length = T.tab.C)) := by
      unfold dimsB MatV.m; simp only [List.length_map, List.all_map]; rfl
    have lr : T.rows.l.length = T.tab.R := rfl
    have el : decide ((M.rows.length : Int) = (T.tab.R : Int)) = decide (M.rows.length = T.tab.R) := decide_eq_decide.2 (by omega)
    obtain ⟨ex, st, hx, hp⟩ := rdims_loop (T := T) hM M.rows.length 0 _ _ _ _ _ _ _ _ _ _ _ _ _ _ _ _ _ _ _ _ _ _ _ _ (by omega)
    rw [List.drop_zero] at hp
    simp only [go_sem, simprocAttr, Try.f107, boxT, Int.ofNat_zero, Int.natCast_zero] at hx
    rw [ed, run_unfold fn107 rfl]
    cases h1 : decide (M.rows.length = T.tab.R) with
    | false =>
      simp only [go_sem, simprocAttr, Try.f107, MatV.v, List.length_map, lr, el, h1, unwind, modeEx, resultsOf, one]
      exact ⟨_, rfl⟩
    | true =>
      simp only [go_sem, simprocAttr, Try.f107, MatV.v, List.length_map, lr, el, h1]
      rw [hx]
      cases h2 : M.rows.all fun s => decide (s.l.length = T.tab.C) with
      | false =>
        rw [h2, if_neg (by simp)] at hp
        obtain ⟨rfl, jp, rfl⟩ := hp
        simp only [go_sem, simprocAttr, unwind, modeEx, resultsOf, one]
        exact ⟨_, rfl⟩
      | true =>
        rw [h2, if_pos rfl] at hp
        obtain ⟨rfl, jp, rfl⟩ := hp
        simp only [go_sem, simprocAttr, unwind, modeEx, resultsOf, one]
        exact ⟨_, rfl⟩
  obtain ⟨H', h⟩ := this
  exact call_pure rfl rfl rfl (by simp [underL, TabV.under, MatV.under]) h rfl ro H nx

theorem rcm_inner {T : TabV} {M : MatV} (hT : T.Wf) (hok : T.tab.Ok) (hM : M.Wf) (hD : DimsOk T M) {i : Nat} (hi : i < T.tab.R) : ∀ (n k : Nat) (j0 j3 j4 j5 j8 j9 j10 j11 j12 j13 j14 j15 j16 j17 j18 j19 j20 j21 j22 j23 j24 j25 j26 j27 j28 j29 j30 j31 j32 j33 j34 j35 j36 j37 j38 j39 j40 j41 j42 j43 j44 j45 j46 j47 j48 j49 j50 j51 j52 j53 j54 j55 j56 j57 j58 j59 j60 j61 j62 j63 j64 j65 j66 j67 j68 j69 j70 j71 j72 j73 j74 j75 j76 j77 j78 j79 j80 j81 j82 j83 j84 j85 j86 j87 j88 j89 j90 j91 j92 j93 j94 j95 j96 j97 j98 j99 j100 j101 j102 j103 j104 j105 j106 j107 j108 j109 j110 j111 j112 j113 j114 j115 j116 : AVal), k + n = T.tab.C →
    Goes (execT env (Try.f45.at [1, 1, 1, 0, 1, 0, 0, 1, 0, 0, 1, 0]) ⟨[j0, .lit M.cl M.sz (M.rows.map SlI.v), .ptr 0 0 0 0, j3, j4, j5, .int .i64 i, .int .i64 k, j8, j9, j10, j11, j12, j13, j14, j15, j16, j17, j18, j19, j20, j21, j22, j23, j24, j25, j26, j27, j28, j29, j30, j31, j32, j33, j34, j35, j36, j37, j38, j39, j40, j41, j42, j43, j44, j45, j46, j47, j48, j49, j50, j51, j52, j53, j54, j55, j56, j57, j58, j59, j60, j61, j62, j63, j64, j65, j66, j67, j68, j69, j70, j71, j72, j73, j74, j75, j76, j77, j78, j79, j80, j81, j82, j83, j84, j85, j86, j87, j88, j89, j90, j91, j92, j93, j94, j95, j96, j97, j98, j99, j100, j101, j102, j103, j104, j105, j106, j107, j108, j109, j110, j111, j112, j113, j114, j115, j116], [boxT T], [], 0, []⟩) fun e s =>
      if allN (cellP T.tab (matOf M.m) i) k n then e = .exit 2 ∧ FrP 117 [(1, .lit M.cl M.sz (M.rows.map SlI.v)), (2, .ptr 0 0 0 0), (6, .int .i64 i)] [boxT T] [] 0 [] s
      else e = .ret ∧ FrP 117 [(4, .int .i64 4)] [boxT T] [] 0 [] s := by
  have hC8 := hok.C8
  have h0i : (0 : Int) ≤ (i : Int) := by omega
  intro n
  induction n with
  | zero =>
    intro k; intros; rename_i hk
    have hd : decide ((k : Int) < (T.tab.C : Int)) = false := by simp; omega
    obtain ⟨b, _, _, hb1, _, hb3, hb4, hb5⟩ := MatV.at hM hD hi (show 0 < T.tab.C from hok.C1)
    simp only [go_sem, simprocAttr, Try.f45, hb3]
    rw [exec_loop]
    simp only [go_sem, simprocAttr, h0i, Int.toNat_natCast, hb1, hb3, hb4, List.length_map, hb5, hd]
    exact frP (by kernel_rfl)
  | succ n ih =>
    intro k; intros; rename_i hk
    have hkC : k < T.tab.C := by omega
    have hd : decide ((k : Int) < (T.tab.C : Int)) = true := by simp; omega
    have h0 : (0 : Int) ≤ (k : Int) := by omega
    obtain ⟨c, hcm, hc1, hc2, hc3, _, _⟩ := TabV.at hT hok hi hkC
    obtain ⟨b, _, _, hb1, hb2, hb3, hb4, hb5⟩ := MatV.at hM hD hi hkC
    cases hp : cellP T.tab (matOf M.m) i k with
    | false =>
      have hp' : (T.tab.cell i k).has (matOf M.m i k) = false := hp
      simp only [go_sem, simprocAttr, Try.f45, boxT, hb3]
      rw [exec_loop]
      simp only [go_sem, simprocAttr, hd, h0, h0i, Int.toNat_natCast, hc1, hc2, hc3, hb1, hb2, hb3, hb4, List.length_map, hb5, hp', allN, hp]
      exact frP (by kernel_rfl)
    | true =>
      have hp' : (T.tab.cell i k).has (matOf M.m i k) = true := hp
      have ih' := ih (k + 1)
      simp only [go_sem, simprocAttr, Try.f45, hb3, boxT] at ih' ⊢
      rw [exec_loop]
      simp only [go_sem, simprocAttr, hd, h0, h0i, Int.toNat_natCast, hc1, hc2, hc3, hb1, hb2, hb3, hb4, List.length_map, hb5, hp', allN, hp, wrap_succ (show k < 2 ^ 63 - 1 by omega)]
      exact ih' _ _ _ _ _ _ _ _ _ _ _ _ _ _ _ _ _ _ _ _ _ _ _ _ _ _ _ _ _ _ _ _ _ _ _ _ _ _ _ _ _ _ _ _ _ _ _ _ _ _ _ _ _ _ _ _ _ _ _ _ _ _ _ _ _ _ _ _ _ _ _ _ _ _ _ _ _ _ _ _ _ _ _ _ _ _ _ _ _ _ _ _ _ _ _ _ _ _ _ _ _ _ _ _ _ _ _ _ _ _ _ _ _ (by omega)

theorem rcm_outer {T : TabV} {M : MatV} (hT : T.Wf) (hok : T.tab.Ok) (hM : M.Wf) (hD : DimsOk T M) : ∀ (n i : Nat) (j0 j3 j4 j5 j7 j8 j9 j10 j11 j12 j13 j14 j15 j16 j17 j18 j19 j20 j21 j22 j23 j24 j25 j26 j27 j28 j29 j30 j31 j32 j33 j34 j35 j36 j37 j38 j39 j40 j41 j42 j43 j44 j45 j46 j47 j48 j49 j50 j51 j52 j53 j54 j55 j56 j57 j58 j59 j60 j61 j62 j63 j64 j65 j66 j67 j68 j69 j70 j71 j72 j73 j74 j75 j76 j77 j78 j79 j80 j81 j82 j83 j84 j85 j86 j87 j88 j89 j90 j91 j92 j93 j94 j95 j96 j97 j98 j99 j100 j101 j102 j103 j104 j105 j106 j107 j108 j109 j110 j111 j112 j113 j114 j115 j116 : AVal), i + n = T.tab.R →
    Goes (execT env (Try.f45.at [1, 1, 1, 0, 1, 0]) ⟨[j0, .lit M.cl M.sz (M.rows.map SlI.v), .ptr 0 0 0 0, j3, j4, j5, .int .i64 i, j7, j8, j9, j10, j11, j12, j13, j14, j15, j16, j17, j18, j19, j20, j21, j22, j23, j24, j25, j26, j27, j28, j29, j30, j31, j32, j33, j34, j35, j36, j37, j38, j39, j40, j41, j42, j43, j44, j45, j46, j47, j48, j49, j50, j51, j52, j53, j54, j55, j56, j57, j58, j59, j60, j61, j62, j63, j64, j65, j66, j67, j68, j69, j70, j71, j72, j73, j74, j75, j76, j77, j78, j79, j80, j81, j82, j83, j84, j85, j86, j87, j88, j89, j90, j91, j92, j93, j94, j95, j96, j97, j98, j99, j100, j101, j102, j103, j104, j105, j106, j107, j108, j109, j110, j111, j112, j113, j114, j115, j116], [boxT T], [], 0, []⟩) fun e s =>
      if allN (rowsP T.tab (matOf M.m)) i n then e = .exit 0 ∧ FrP 117 [(1, .lit M.cl M.sz (M.rows.map SlI.v)), (2, .ptr 0 0 0 0)] [boxT T] [] 0 [] s
      else e = .ret ∧ FrP 117 [(4, .int .i64 4)] [boxT T] [] 0 [] s := by
  have hR8 := hok.R8
  have lm := hD.len
  intro n
  induction n with
  | zero =>
    intro i; intros; rename_i hi
    have hd : decide ((i : Int) < (T.tab.R : Int)) = false := by simp; omega
    simp only [go_sem, simprocAttr, Try.f45]
    rw [exec_loop]
    simp only [go_sem, simprocAttr, List.length_map, lm, hd]
    exact frP (by kernel_rfl)
  | succ n ih =>
    intro i; intros; rename_i hi
    have hiR : i < T.tab.R := by omega
    have hd : decide ((i : Int) < (T.tab.R : Int)) = true := by simp; omega
    cases hr : rowsP T.tab (matOf M.m) i with
    | false =>
      obtain ⟨e, s, hx, hp⟩ := rcm_inner hT hok hM hD hiR T.tab.C 0 _ _ _ _ _ _ _ _ _ _ _ _ _ _ _ _ _ _ _ _ _ _ _ _ _ _ _ _ _ _ _ _ _ _ _ _ _ _ _ _ _ _ _ _ _ _ _ _ _ _ _ _ _ _ _ _ _ _ _ _ _ _ _ _ _ _ _ _ _ _ _ _ _ _ _ _ _ _ _ _ _ _ _ _ _ _ _ _ _ _ _ _ _ _ _ _ _ _ _ _ _ _ _ _ _ _ _ _ _ _ _ _ _ (by omega)
      simp only [go_sem, simprocAttr, Try.f45, Int.ofNat_zero, Int.natCast_zero, boxT] at hx
      have hr' : allN (cellP T.tab (matOf M.m) i) 0 T.tab.C = false := hr
      rw [hr', if_neg (by simp)] at hp
      obtain ⟨rfl, jp, rfl⟩ := hp
      simp only [go_sem, simprocAttr, Try.f45, boxT]
      rw [exec_loop]
      simp only [go_sem, simprocAttr, List.length_map, lm, hd]
      rw [hx]
      simp only [go_sem, simprocAttr, allN, hr]
      exact frP (by kernel_rfl)
    | true =>
      obtain ⟨e, s, hx, hp⟩ := rcm_inner hT hok hM hD hiR T.tab.C 0 _ _ _ _ _ _ _ _ _ _ _ _ _ _ _ _ _ _ _ _ _ _ _ _ _ _ _ _ _ _ _ _ _ _ _ _ _ _ _ _ _ _ _ _ _ _ _ _ _ _ _ _ _ _ _ _ _ _ _ _ _ _ _ _ _ _ _ _ _ _ _ _ _ _ _ _ _ _ _ _ _ _ _ _ _ _ _ _ _ _ _ _ _ _ _ _ _ _ _ _ _ _ _ _ _ _ _ _ _ _ _ _ _ (by omega)
      simp only [go_sem, simprocAttr, Try.f45, Int.ofNat_zero, Int.natCast_zero, boxT] at hx
      have hr' : allN (cellP T.tab (matOf M.m) i) 0 T.tab.C = true := hr
      rw [hr', if_pos rfl] at hp
      obtain ⟨rfl, jp, rfl⟩ := hp
      have ih' := ih (i + 1)
      simp (config := { maxSteps := 1000000 }) only [go_sem, simprocAttr, Try.f45, boxT] at ih' ⊢
      rw [exec_loop]
      simp only [go_sem, simprocAttr, List.length_map, lm, hd]
      rw [hx]
      simp only [go_sem, simprocAttr, allN, hr, wrap_succ (show i < 2 ^ 63 - 1 by omega)]
      exact ih' _ _ _ _ _ _ _ _ _ _ _ _ _ _ _ _ _ _ _ _ _ _ _ _ _ _ _ _ _ _ _ _ _ _ _ _ _ _ _ _ _ _ _ _ _ _ _ _ _ _ _ _ _ _ _ _ _ _ _ _ _ _ _ _ _ _ _ _ _ _ _ _ _ _ _ _ _ _ _ _ _ _ _ _ _ _ _ _ _ _ _ _ _ _ _ _ _ _ _ _ _ _ _ _ _ _ _ _ _ _ _ _ _ _ (by omega)

def InCells (T : TabV) (M : MatV) : Prop := ∀ i k, i < T.tab.R → k < T.tab.C → 0 ≤ matOf M.m i k ∧ matOf M.m i k ≤ 2 ^ 30

theorem rcm_sum {T : TabV} {M : MatV} (hok : T.tab.Ok) (hM : M.Wf) (hD : DimsOk T M) (hI : InCells T M) {i : Nat} (hi : i < T.tab.R) : ∀ (n k : Nat) (j0 j3 j4 j5 j6 j7 j11 j12 j13 j14 j15 j16 j17 j18 j19 j20 j21 j22 j23 j24 j25 j26 j27 j28 j29 j30 j31 j32 j33 j34 j35 j36 j37 j38 j39 j40 j41 j42 j43 j44 j45 j46 j47 j48 j49 j50 j51 j52 j53 j54 j55 j56 j57 j58 j59 j60 j61 j62 j63 j64 j65 j66 j67 j68 j69 j70 j71 j72 j73 j74 j75 j76 j77 j78 j79 j80 j81 j82 j83 j84 j85 j86 j87 j88 j89 j90 j91 j92 j93 j94 j95 j96 j97 j98 j99 j100 j101 j102 j103 j104 j105 j106 j107 j108 j109 j110 j111 j112 j113 j114 j115 j116 : AVal), k + n = T.tab.C →
    Goes (execT env (Try.f45.at [1, 1, 1, 1, 0, 1, 0, 0, 1, 0, 0, 1, 0, 1, 0]) ⟨[j0, .lit M.cl M.sz (M.rows.map SlI.v), .ptr 0 0 0 0, j3, j4, j5, j6, j7, .int .i64 i, .int .i64 (sumN k (matOf M.m i)), .int .i64 k, j11, j12, j13, j14, j15, j16, j17, j18, j19, j20, j21, j22, j23, j24, j25, j26, j27, j28, j29, j30, j31, j32, j33, j34, j35, j36, j37, j38, j39, j40, j41, j42, j43, j44, j45, j46, j47, j48, j49, j50, j51, j52, j53, j54, j55, j56, j57, j58, j59, j60, j61, j62, j63, j64, j65, j66, j67, j68, j69, j70, j71, j72, j73, j74, j75, j76, j77, j78, j79, j80, j81, j82, j83, j84, j85, j86, j87, j88, j89, j90, j91, j92, j93, j94, j95, j96, j97, j98, j99, j100, j101, j102, j103, j104, j105, j106, j107, j108, j109, j110, j111, j112, j113, j114, j115, j116], [boxT T], [], 0, []⟩) fun e s =>
      e = .exit 6 ∧ FrP 117 [(1, .lit M.cl M.sz (M.rows.map SlI.v)), (2, .ptr 0 0 0 0), (8, .int .i64 i), (9, .int .i64 (sumN T.tab.C (matOf M.m i)))] [boxT T] [] 0 [] s := by
  have hC8 := hok.C8
  have h0i : (0 : Int) ≤ (i : Int) := by omega
  intro n
  induction n with
  | zero =>
    intro k; intros; rename_i hk
    have hd : decide ((k : Int) < (T.tab.C : Int)) = false := by simp; omega
    have : k = T.tab.C := by omega
    subst this
    obtain ⟨b, _, _, hb1, _, hb3, hb4, hb5⟩ := MatV.at hM hD hi (show 0 < T.tab.C from hok.C1)
    simp only [go_sem, simprocAttr, Try.f45, hb3]
    rw [exec_loop]
    simp only [go_sem, simprocAttr, h0i, Int.toNat_natCast, hb1, hb3, hb4, List.length_map, hb5, hd]
    exact frP (by kernel_rfl)
  | succ n ih =>
    intro k; intros; rename_i hk
    have hkC : k < T.tab.C := by omega
    have hd : decide ((k : Int) < (T.tab.C : Int)) = true := by simp; omega
    have h0 : (0 : Int) ≤ (k : Int) := by omega
    obtain ⟨b, _, _, hb1, hb2, hb3, hb4, hb5⟩ := MatV.at hM hD hi hkC
    have b1 := sumN_bd (n := k) (f := matOf M.m i) (B := 2 ^ 30) fun j hj => hI i j hi (by omega)
    have b2 := hI i k hi hkC
    have w1 : IntKind.i64.wrap (sumN k (matOf M.m i) + matOf M.m i k) = sumN (k + 1) (matOf M.m i) := i64_in _ (by omega)
    have ih' := ih (k + 1)
    simp only [go_sem, simprocAttr, Try.f45, hb3] at ih' ⊢
    rw [exec_loop]
    simp only [go_sem, simprocAttr, hd, h0, h0i, Int.toNat_natCast, hb1, hb2, hb3, hb4, List.length_map, hb5, w1, wrap_succ (show k < 2 ^ 63 - 1 by omega)]
    exact ih' _ _ _ _ _ _ _ _ _ _ _ _ _ _ _ _ _ _ _ _ _ _ _ _ _ _ _ _ _ _ _ _ _ _ _ _ _ _ _ _ _ _ _ _ _ _ _ _ _ _ _ _ _ _ _ _ _ _ _ _ _ _ _ _ _ _ _ _ _ _ _ _ _ _ _ _ _ _ _ _ _ _ _ _ _ _ _ _ _ _ _ _ _ _ _ _ _ _ _ _ _ _ _ _ _ _ _ _ _ _ _ _ (by omega)

theorem rcm_rows {T : TabV} {M : MatV} (hT : T.Wf) (hok : T.tab.Ok) (hM : M.Wf) (hD : DimsOk T M) (hI : InCells T M) : ∀ (n i : Nat) (j0 j3 j4 j5 j6 j7 j9 j10 j11 j12 j13 j14 j15 j16 j17 j18 j19 j20 j21 j22 j23 j24 j25 j26 j27 j28 j29 j30 j31 j32 j33 j34 j35 j36 j37 j38 j39 j40 j41 j42 j43 j44 j45 j46 j47 j48 j49 j50 j51 j52 j53 j54 j55 j56 j57 j58 j59 j60 j61 j62 j63 j64 j65 j66 j67 j68 j69 j70 j71 j72 j73 j74 j75 j76 j77 j78 j79 j80 j81 j82 j83 j84 j85 j86 j87 j88 j89 j90 j91 j92 j93 j94 j95 j96 j97 j98 j99 j100 j101 j102 j103 j104 j105 j106 j107 j108 j109 j110 j111 j112 j113 j114 j115 j116 : AVal), i + n = T.tab.R →
    Goes (execT env (Try.f45.at [1, 1, 1, 1, 0, 1, 0]) ⟨[j0, .lit M.cl M.sz (M.rows.map SlI.v), .ptr 0 0 0 0, j3, j4, j5, j6, j7, .int .i64 i, j9, j10, j11, j12, j13, j14, j15, j16, j17, j18, j19, j20, j21, j22, j23, j24, j25, j26, j27, j28, j29, j30, j31, j32, j33, j34, j35, j36, j37, j38, j39, j40, j41, j42, j43, j44, j45, j46, j47, j48, j49, j50, j51, j52, j53, j54, j55, j56, j57, j58, j59, j60, j61, j62, j63, j64, j65, j66, j67, j68, j69, j70, j71, j72, j73, j74, j75, j76, j77, j78, j79, j80, j81, j82, j83, j84, j85, j86, j87, j88, j89, j90, j91, j92, j93, j94, j95, j96, j97, j98, j99, j100, j101, j102, j103, j104, j105, j106, j107, j108, j109, j110, j111, j112, j113, j114, j115, j116], [boxT T], [], 0, []⟩) fun e s =>
      if allN (fun i => (T.tab.row i).has (sumN T.tab.C (matOf M.m i))) i n then e = .exit 4 ∧ FrP 117 [(1, .lit M.cl M.sz (M.rows.map SlI.v)), (2, .ptr 0 0 0 0)] [boxT T] [] 0 [] s
      else e = .ret ∧ FrP 117 [(4, .int .i64 4)] [boxT T] [] 0 [] s := by
  have hR8 := hok.R8
  have lm := hD.len
  intro n
  induction n with
  | zero =>
    intro i; intros; rename_i hi
    have hd : decide ((i : Int) < (T.tab.R : Int)) = false := by simp; omega
    simp only [go_sem, simprocAttr, Try.f45]
    rw [exec_loop]
    simp only [go_sem, simprocAttr, List.length_map, lm, hd]
    exact frP (by kernel_rfl)
  | succ n ih =>
    intro i; intros; rename_i hi
    have hiR : i < T.tab.R := by omega
    have hd : decide ((i : Int) < (T.tab.R : Int)) = true := by simp; omega
    have h0i : (0 : Int) ≤ (i : Int) := by omega
    obtain ⟨r1, r2⟩ := TabV.rowAt hT hiR
    have s0 : sumN 0 (matOf M.m i) = 0 := rfl
    cases hr : (T.tab.row i).has (sumN T.tab.C (matOf M.m i)) with
    | false =>
      obtain ⟨e, s, hx, hp⟩ := rcm_sum hok hM hD hI hiR T.tab.C 0 _ _ _ _ _ _ _ _ _ _ _ _ _ _ _ _ _ _ _ _ _ _ _ _ _ _ _ _ _ _ _ _ _ _ _ _ _ _ _ _ _ _ _ _ _ _ _ _ _ _ _ _ _ _ _ _ _ _ _ _ _ _ _ _ _ _ _ _ _ _ _ _ _ _ _ _ _ _ _ _ _ _ _ _ _ _ _ _ _ _ _ _ _ _ _ _ _ _ _ _ _ _ _ _ _ _ _ _ _ _ _ _ (by omega)
      simp only [go_sem, simprocAttr, Try.f45, Int.ofNat_zero, Int.natCast_zero, boxT, s0] at hx
      obtain ⟨rfl, jp, rfl⟩ := hp
      simp only [go_sem, simprocAttr, Try.f45, boxT]
      rw [exec_loop]
      simp only [go_sem, simprocAttr, List.length_map, lm, hd]
      rw [hx]
      simp only [go_sem, simprocAttr, boxT, h0i, Int.toNat_natCast, r1, r2, allN, hr]
      exact frP (by kernel_rfl)
    | true =>
      obtain ⟨e, s, hx, hp⟩ := rcm_sum hok hM hD hI hiR T.tab.C 0 _ _ _ _ _ _ _ _ _ _ _ _ _ _ _ _ _ _ _ _ _ _ _ _ _ _ _ _ _ _ _ _ _ _ _ _ _ _ _ _ _ _ _ _ _ _ _ _ _ _ _ _ _ _ _ _ _ _ _ _ _ _ _ _ _ _ _ _ _ _ _ _ _ _ _ _ _ _ _ _ _ _ _ _ _ _ _ _ _ _ _ _ _ _ _ _ _ _ _ _ _ _ _ _ _ _ _ _ _ _ _ _ (by omega)
      simp only [go_sem, simprocAttr, Try.f45, Int.ofNat_zero, Int.natCast_zero, boxT, s0] at hx
      obtain ⟨rfl, jp, rfl⟩ := hp
      have ih' := ih (i + 1)
      simp (config := { maxSteps := 1000000 }) only [go_sem, simprocAttr, Try.f45, boxT] at ih' ⊢
      rw [exec_loop]
      simp only [go_sem, simprocAttr, List.length_map, lm, hd]
      rw [hx]
      simp only [go_sem, simprocAttr, boxT, h0i, Int.toNat_natCast, r1, r2, allN, hr, wrap_succ (show i < 2 ^ 63 - 1 by omega)]
      exact ih' _ _ _ _ _ _ _ _ _ _ _ _ _ _ _ _ _ _ _ _ _ _ _ _ _ _ _ _ _ _ _ _ _ _ _ _ _ _ _ _ _ _ _ _ _ _ _ _ _ _ _ _ _ _ _ _ _ _ _ _ _ _ _ _ _ _ _ _ _ _ _ _ _ _ _ _ _ _ _ _ _ _ _ _ _ _ _ _ _ _ _ _ _ _ _ _ _ _ _ _ _ _ _ _ _ _ _ _ _ _ _ _ _ _ (by omega)

theorem rcm_csum {T : TabV} {M : MatV} (hok : T.tab.Ok) (hM : M.Wf) (hD : DimsOk T M) (hI : InCells T M) {k : Nat} (hk : k < T.tab.C) : ∀ (n i : Nat) (j0 j3 j4 j5 j6 j7 j8 j9 j10 j14 j15 j16 j17 j18 j19 j20 j21 j22 j23 j24 j25 j26 j27 j28 j29 j30 j31 j32 j33 j34 j35 j36 j37 j38 j39 j40 j41 j42 j43 j44 j45 j46 j47 j48 j49 j50 j51 j52 j53 j54 j55 j56 j57 j58 j59 j60 j61 j62 j63 j64 j65 j66 j67 j68 j69 j70 j71 j72 j73 j74 j75 j76 j77 j78 j79 j80 j81 j82 j83 j84 j85 j86 j87 j88 j89 j90 j91 j92 j93 j94 j95 j96 j97 j98 j99 j100 j101 j102 j103 j104 j105 j106 j107 j108 j109 j110 j111 j112 j113 j114 j115 j116 : AVal), i + n = T.tab.R →
    Goes (execT env (Try.f45.at [1, 1, 1, 1, 1, 0, 1, 0, 0, 1, 0, 0, 1, 0, 1, 0]) ⟨[j0, .lit M.cl M.sz (M.rows.map SlI.v), .ptr 0 0 0 0, j3, j4, j5, j6, j7, j8, j9, j10, .int .i64 k, .int .i64 (sumN i fun i => matOf M.m i k), .int .i64 i, j14, j15, j16, j17, j18, j19, j20, j21, j22, j23, j24, j25, j26, j27, j28, j29, j30, j31, j32, j33, j34, j35, j36, j37, j38, j39, j40, j41, j42, j43, j44, j45, j46, j47, j48, j49, j50, j51, j52, j53, j54, j55, j56, j57, j58, j59, j60, j61, j62, j63, j64, j65, j66, j67, j68, j69, j70, j71, j72, j73, j74, j75, j76, j77, j78, j79, j80, j81, j82, j83, j84, j85, j86, j87, j88, j89, j90, j91, j92, j93, j94, j95, j96, j97, j98, j99, j100, j101, j102, j103, j104, j105, j106, j107, j108, j109, j110, j111, j112, j113, j114, j115, j116], [boxT T], [], 0, []⟩) fun e s =>
      e = .exit 10 ∧ FrP 117 [(1, .lit M.cl M.sz (M.rows.map SlI.v)), (2, .ptr 0 0 0 0), (11, .int .i64 k), (12, .int .i64 (sumN T.tab.R fun i => matOf M.m i k))] [boxT T] [] 0 [] s := by
  have hR8 := hok.R8
  have lm := hD.len
  have h0k : (0 : Int) ≤ (k : Int) := by omega
  intro n
  induction n with
  | zero =>
    intro i; intros; rename_i hi
    have hd : decide ((i : Int) < (T.tab.R : Int)) = false := by simp; omega
    have : i = T.tab.R := by omega
    subst this
    simp only [go_sem, simprocAttr, Try.f45]
    rw [exec_loop]
    simp only [go_sem, simprocAttr, List.length_map, lm, hd]
    exact frP (by kernel_rfl)
  | succ n ih =>
    intro i; intros; rename_i hi
    have hiR : i < T.tab.R := by omega
    have hd : decide ((i : Int) < (T.tab.R : Int)) = true := by simp; omega
    have h0 : (0 : Int) ≤ (i : Int) := by omega
    obtain ⟨b, _, _, hb1, hb2, hb3, hb4, hb5⟩ := MatV.at hM hD hiR hk
    have b1 := sumN_bd (n := i) (f := fun i => matOf M.m i k) (B := 2 ^ 30) fun j hj => hI j k (by omega) hk
    have b2 := hI i k hiR hk
    have w1 : IntKind.i64.wrap ((sumN i fun i => matOf M.m i k) + matOf M.m i k) = sumN (i + 1) fun i => matOf M.m i k := i64_in _ (by omega)
    have ih' := ih (i + 1)
    simp only [go_sem, simprocAttr, Try.f45, hb3] at ih' ⊢
    rw [exec_loop]
    simp only [go_sem, simprocAttr, hd, h0, h0k, Int.toNat_natCast, hb1, hb2, hb3, hb4, List.length_map, lm, hb5, w1, wrap_succ (show i < 2 ^ 63 - 1 by omega)]
    exact ih' _ _ _ _ _ _ _ _ _ _ _ _ _ _ _ _ _ _ _ _ _ _ _ _ _ _ _ _ _ _ _ _ _ _ _ _ _ _ _ _ _ _ _ _ _ _ _ _ _ _ _ _ _ _ _ _ _ _ _ _ _ _ _ _ _ _ _ _ _ _ _ _ _ _ _ _ _ _ _ _ _ _ _ _ _ _ _ _ _ _ _ _ _ _ _ _ _ _ _ _ _ _ _ _ _ _ _ _ _ _ _ _ (by omega)

theorem rcm_cols {T : TabV} {M : MatV} (hT : T.Wf) (hok : T.tab.Ok) (hM : M.Wf) (hD : DimsOk T M) (hI : InCells T M) : ∀ (n k : Nat) (j0 j3 j4 j5 j6 j7 j8 j9 j10 j12 j13 j14 j15 j16 j17 j18 j19 j20 j21 j22 j23 j24 j25 j26 j27 j28 j29 j30 j31 j32 j33 j34 j35 j36 j37 j38 j39 j40 j41 j42 j43 j44 j45 j46 j47 j48 j49 j50 j51 j52 j53 j54 j55 j56 j57 j58 j59 j60 j61 j62 j63 j64 j65 j66 j67 j68 j69 j70 j71 j72 j73 j74 j75 j76 j77 j78 j79 j80 j81 j82 j83 j84 j85 j86 j87 j88 j89 j90 j91 j92 j93 j94 j95 j96 j97 j98 j99 j100 j101 j102 j103 j104 j105 j106 j107 j108 j109 j110 j111 j112 j113 j114 j115 j116 : AVal), k + n = T.tab.C →
    Goes (execT env (Try.f45.at [1, 1, 1, 1, 1, 0, 1, 0]) ⟨[j0, .lit M.cl M.sz (M.rows.map SlI.v), .ptr 0 0 0 0, j3, j4, j5, j6, j7, j8, j9, j10, .int .i64 k, j12, j13, j14, j15, j16, j17, j18, j19, j20, j21, j22, j23, j24, j25, j26, j27, j28, j29, j30, j31, j32, j33, j34, j35, j36, j37, j38, j39, j40, j41, j42, j43, j44, j45, j46, j47, j48, j49, j50, j51, j52, j53, j54, j55, j56, j57, j58, j59, j60, j61, j62, j63, j64, j65, j66, j67, j68, j69, j70, j71, j72, j73, j74, j75, j76, j77, j78, j79, j80, j81, j82, j83, j84, j85, j86, j87, j88, j89, j90, j91, j92, j93, j94, j95, j96, j97, j98, j99, j100, j101, j102, j103, j104, j105, j106, j107, j108, j109, j110, j111, j112, j113, j114, j115, j116], [boxT T], [], 0, []⟩) fun e s =>
      if allN (fun k => (T.tab.col k).has (sumN T.tab.R fun i => matOf M.m i k)) k n then e = .exit 8 ∧ FrP 117 [] [boxT T] [] 0 [] s
      else e = .ret ∧ FrP 117 [(4, .int .i64 4)] [boxT T] [] 0 [] s := by
  have hC8 := hok.C8
  have lc : T.cols.l.length = T.tab.C := rfl
  intro n
  induction n with
  | zero =>
    intro k; intros; rename_i hk
    have hd : decide ((k : Int) < (T.tab.C : Int)) = false := by simp; omega
    simp only [go_sem, simprocAttr, Try.f45, boxT]
    rw [exec_loop]
    simp only [go_sem, simprocAttr, List.length_map, lc, hd]
    exact frP (by kernel_rfl)
  | succ n ih =>
    intro k; intros; rename_i hk
    have hkC : k < T.tab.C := by omega
    have hd : decide ((k : Int) < (T.tab.C : Int)) = true := by simp; omega
    have h0k : (0 : Int) ≤ (k : Int) := by omega
    obtain ⟨r1, r2⟩ := TabV.colAt hT hkC
    have s0 : (sumN 0 fun i => matOf M.m i k) = 0 := rfl
    cases hr : (T.tab.col k).has (sumN T.tab.R fun i => matOf M.m i k) with
    | false =>
      obtain ⟨e, s, hx, hp⟩ := rcm_csum hok hM hD hI hkC T.tab.R 0 _ _ _ _ _ _ _ _ _ _ _ _ _ _ _ _ _ _ _ _ _ _ _ _ _ _ _ _ _ _ _ _ _ _ _ _ _ _ _ _ _ _ _ _ _ _ _ _ _ _ _ _ _ _ _ _ _ _ _ _ _ _ _ _ _ _ _ _ _ _ _ _ _ _ _ _ _ _ _ _ _ _ _ _ _ _ _ _ _ _ _ _ _ _ _ _ _ _ _ _ _ _ _ _ _ _ _ _ _ _ _ _ (by omega)
      simp only [go_sem, simprocAttr, Try.f45, Int.ofNat_zero, Int.natCast_zero, boxT, s0] at hx
      obtain ⟨rfl, jp, rfl⟩ := hp
      simp only [go_sem, simprocAttr, Try.f45, boxT]
      rw [exec_loop]
      simp only [go_sem, simprocAttr, List.length_map, lc, hd]
      rw [hx]
      simp only [go_sem, simprocAttr, boxT, h0k, Int.toNat_natCast, r1, r2, allN, hr]
      exact frP (by kernel_rfl)
    | true =>
      obtain ⟨e, s, hx, hp⟩ := rcm_csum hok hM hD hI hkC T.tab.R 0 _ _ _ _ _ _ _ _ _ _ _ _ _ _ _ _ _ _ _ _ _ _ _ _ _ _ _ _ _ _ _ _ _ _ _ _ _ _ _ _ _ _ _ _ _ _ _ _ _ _ _ _ _ _ _ _ _ _ _ _ _ _ _ _ _ _ _ _ _ _ _ _ _ _ _ _ _ _ _ _ _ _ _ _ _ _ _ _ _ _ _ _ _ _ _ _ _ _ _ _ _ _ _ _ _ _ _ _ _ _ _ _ (by omega)
      simp only [go_sem, simprocAttr, Try.f45, Int.ofNat_zero, Int.natCast_zero, boxT, s0] at hx
      obtain ⟨rfl, jp, rfl⟩ := hp
      have ih' := ih (k + 1)
      simp (config := { maxSteps := 1000000 }) only [go_sem, simprocAttr, Try.f45, boxT] at ih' ⊢
      rw [exec_loop]
      simp only [go_sem, simprocAttr, List.length_map, lc, hd]
      rw [hx]
      simp only [go_sem, simprocAttr, boxT, h0k, Int.toNat_natCast, r1, r2, allN, hr, wrap_succ (show k < 2 ^ 63 - 1 by omega)]
      exact ih' _ _ _ _ _ _ _ _ _ _ _ _ _ _ _ _ _ _ _ _ _ _ _ _ _ _ _ _ _ _ _ _ _ _ _ _ _ _ _ _ _ _ _ _ _ _ _ _ _ _ _ _ _ _ _ _ _ _ _ _ _ _ _ _ _ _ _ _ _ _ _ _ _ _ _ _ _ _ _ _ _ _ _ _ _ _ _ _ _ _ _ _ _ _ _ _ _ _ _ _ _ _ _ _ _ _ _ _ _ _ _ _ _ _ (by omega)

theorem rcm_run {T : TabV} {M : MatV} (hT : T.Wf) (hM : M.Wf) : ∃ H', runT env 45 [T.v, M.v] [] 0 = some (.ret (.int .i64 (cmS T.tab M.m)), H') := by
  have hc := rcheck_call T hT
  have rd := rdims_call (T := T) hM
  rw [run_unfold fn45 rfl]
  unfold cmS
  cases hok : T.tab.ok with
  | false =>
    simp only [go_sem, simprocAttr, Try.f45, hc, ckS_no hok, unwind, modeEx, resultsOf, one]
    exact ⟨_, rfl⟩
  | true =>
    have hO := Tab.ok_iff.1 hok
    cases h1 : dimsB T.tab M.m with
    | false =>
      rw [h1] at rd
      simp only [go_sem, simprocAttr, Try.f45, hc, ckS_ok hok, rd, unwind, modeEx, resultsOf, one]
      exact ⟨_, rfl⟩
    | true =>
      rw [h1] at rd
      have ed : dimsB T.tab M.m = (decide (M.rows.length = T.tab.R) && M.rows.all fun s => decide (s.l.length = T.tab.C)) := by
        unfold dimsB MatV.m; simp only [List.length_map, List.all_map]; rfl
      rw [ed, Bool.and_eq_true] at h1
      have hD : DimsOk T M := ⟨of_decide_eq_true h1.1, fun s hs => of_decide_eq_true (List.all_eq_true.1 h1.2 s hs)⟩
      obtain ⟨e, s, hx, hp⟩ := rcm_outer hT hO hM hD T.tab.R 0 _ _ _ _ _ _ _ _ _ _ _ _ _ _ _ _ _ _ _ _ _ _ _ _ _ _ _ _ _ _ _ _ _ _ _ _ _ _ _ _ _ _ _ _ _ _ _ _ _ _ _ _ _ _ _ _ _ _ _ _ _ _ _ _ _ _ _ _ _ _ _ _ _ _ _ _ _ _ _ _ _ _ _ _ _ _ _ _ _ _ _ _ _ _ _ _ _ _ _ _ _ _ _ _ _ _ _ _ _ _ _ _ _ _ (by omega)
      simp only [go_sem, simprocAttr, Try.f45, Int.ofNat_zero, Int.natCast_zero, boxT] at hx
      have key : fitsB T.tab (matOf M.m) = (allN (rowsP T.tab (matOf M.m)) 0 T.tab.R && (allN (fun i => (T.tab.row i).has (sumN T.tab.C (matOf M.m i))) 0 T.tab.R && allN (fun k => (T.tab.col k).has (sumN T.tab.R fun i => matOf M.m i k)) 0 T.tab.C)) := rfl
      rw [key]
      have mv : M.v = .lit M.cl M.sz (M.rows.map SlI.v) := rfl
      rw [mv] at rd ⊢
      simp only [go_sem, simprocAttr, Try.f45, hc, ckS_ok hok, rd]
      rw [hx]
      cases h3 : allN (rowsP T.tab (matOf M.m)) 0 T.tab.R with
      | false =>
        rw [h3, if_neg (by simp)] at hp
        obtain ⟨rfl, jp, rfl⟩ := hp
        simp only [go_sem, simprocAttr, unwind, modeEx, resultsOf, one]
        exact ⟨_, rfl⟩
      | true =>
        rw [h3, if_pos rfl] at hp
        obtain ⟨rfl, jp, rfl⟩ := hp
        have hI : InCells T M := fun i k hi hk => by
          have a := allN_iff.1 h3 i (by omega) (by omega)
          have a2 := Spn.has_iff.1 (allN_iff.1 a k (by omega) (by omega))
          have := hO.cell_ok hi hk
          omega
        obtain ⟨e2, s2, hx2, hp2⟩ := rcm_rows hT hO hM hD hI T.tab.R 0 _ _ _ _ _ _ _ _ _ _ _ _ _ _ _ _ _ _ _ _ _ _ _ _ _ _ _ _ _ _ _ _ _ _ _ _ _ _ _ _ _ _ _ _ _ _ _ _ _ _ _ _ _ _ _ _ _ _ _ _ _ _ _ _ _ _ _ _ _ _ _ _ _ _ _ _ _ _ _ _ _ _ _ _ _ _ _ _ _ _ _ _ _ _ _ _ _ _ _ _ _ _ _ _ _ _ _ _ _ _ _ _ _ _ (by omega)
        simp only [go_sem, simprocAttr, Try.f45, Int.ofNat_zero, Int.natCast_zero, boxT] at hx2
        simp only [go_sem, simprocAttr, boxT]
        rw [hx2]
        cases h4 : allN (fun i => (T.tab.row i).has (sumN T.tab.C (matOf M.m i))) 0 T.tab.R with
        | false =>
          rw [h4, if_neg (by simp)] at hp2
          obtain ⟨rfl, jq, rfl⟩ := hp2
          simp only [go_sem, simprocAttr, unwind, modeEx, resultsOf, one]
          exact ⟨_, rfl⟩
        | true =>
          rw [h4, if_pos rfl] at hp2
          obtain ⟨rfl, jq, rfl⟩ := hp2
          obtain ⟨e3, s3, hx3, hp3⟩ := rcm_cols hT hO hM hD hI T.tab.C 0 _ _ _ _ _ _ _ _ _ _ _ _ _ _ _ _ _ _ _ _ _ _ _ _ _ _ _ _ _ _ _ _ _ _ _ _ _ _ _ _ _ _ _ _ _ _ _ _ _ _ _ _ _ _ _ _ _ _ _ _ _ _ _ _ _ _ _ _ _ _ _ _ _ _ _ _ _ _ _ _ _ _ _ _ _ _ _ _ _ _ _ _ _ _ _ _ _ _ _ _ _ _ _ _ _ _ _ _ _ _ _ _ _ _ (by omega)
          simp only [go_sem, simprocAttr, Try.f45, Int.ofNat_zero, Int.natCast_zero, boxT] at hx3
          simp only [go_sem, simprocAttr, boxT]
          rw [hx3]
          cases h5 : allN (fun k => (T.tab.col k).has (sumN T.tab.R fun i => matOf M.m i k)) 0 T.tab.C with
          | false =>
            rw [h5, if_neg (by simp)] at hp3
            obtain ⟨rfl, jr, rfl⟩ := hp3
            simp only [go_sem, simprocAttr, unwind, modeEx, resultsOf, one]
            exact ⟨_, rfl⟩
          | true =>
            rw [h5, if_pos rfl] at hp3
            obtain ⟨rfl, jr, rfl⟩ := hp3
            simp only [go_sem, simprocAttr, unwind, modeEx, resultsOf, one]
            exact ⟨_, rfl⟩

theorem rcm_call {T : TabV} {M : MatV} (hT : T.Wf) (hM : M.Wf) (ro : Nat) (H : Heap) (nx : Nat) : callT env 45 [T.v, M.v] ro H nx = some (.ret (.int .i64 (cmS T.tab M.m)), .ups []) := by
  obtain ⟨H', h⟩ := rcm_run hT hM
  exact call_pure rfl rfl rfl (by simp [underL, TabV.under, MatV.under]) h rfl ro H nx

set_option maxRecDepth 10000
set_option maxHeartbeats 2000000

theorem isSh_call (n : Int) (ro : Nat) (H : Heap) (nx : Nat) : callT env 108 [.int .i64 n, .agg [.int .i64 0, .int .i64 1073741824]] ro H nx = some (.ret (.bool (shB n)), .ups []) := is_call n ⟨0, 1073741824⟩ ro H nx

theorem rs_check {M : MatV} (hM : M.Wf) {i : Nat} {b : SlI} (hb : M.rows[i]? = some b) : ∀ (n k : Nat) (j1 j4 j7 j8 j9 j10 j11 j12 j13 j14 j15 j16 j17 j18 j19 j20 j21 j22 j23 j24 j25 j26 j27 j28 j29 j30 j31 j32 j33 j34 j35 j36 j37 j38 j39 j40 j41 j42 j43 j44 j45 j46 j47 j48 j49 j50 j51 j52 j53 j54 j55 j56 j57 j58 j59 j60 j61 j62 j63 j64 j65 j66 j67 j68 j69 j70 j71 j72 j73 j74 j75 j76 j77 j78 j79 j80 j81 j82 j83 j84 j85 j86 j87 j88 j89 j90 j91 j92 j93 j94 j95 j96 j97 j98 j99 j100 j101 j102 j103 j104 j105 j106 j107 j108 j109 j110 j111 j112 j113 j114 j115 j116 j117 j118 j119 j120 j121 j122 : AVal), k + n = b.l.length →
    Goes (execT env (Try.f47.at [1, 1, 0, 1, 0, 0, 1, 0, 0, 1, 1, 0]) ⟨[.lit M.cl M.sz (M.rows.map SlI.v), j1, .lit true 0 [], .lit true 0 [], j4, .int .i64 i, .int .i64 k, j7, j8, j9, j10, j11, j12, j13, j14, j15, j16, j17, j18, j19, j20, j21, j22, j23, j24, j25, j26, j27, j28, j29, j30, j31, j32, j33, j34, j35, j36, j37, j38, j39, j40, j41, j42, j43, j44, j45, j46, j47, j48, j49, j50, j51, j52, j53, j54, j55, j56, j57, j58, j59, j60, j61, j62, j63, j64, j65, j66, j67, j68, j69, j70, j71, j72, j73, j74, j75, j76, j77, j78, j79, j80, j81, j82, j83, j84, j85, j86, j87, j88, j89, j90, j91, j92, j93, j94, j95, j96, j97, j98, j99, j100, j101, j102, j103, j104, j105, j106, j107, j108, j109, j110, j111, j112, j113, j114, j115, j116, j117, j118, j119, j120, j121, j122], [], [], 0, [7, 8]⟩) fun ex st =>
      if (b.l.drop k).all shB then ex = .exit 2 ∧ FrP 123 [(0, .lit M.cl M.sz (M.rows.map SlI.v)), (2, .lit true 0 []), (3, .lit true 0 []), (5, .int .i64 i)] [] [] 0 [7, 8] st
      else ex = .ret ∧ FrP 123 [(2, .lit true 0 []), (3, .lit true 0 []), (4, .int .i64 1)] [] [] 0 [7, 8] st := by
  obtain ⟨b1, b2, b3, b4⟩ := mrow hM hb
  have h0i : (0 : Int) ≤ (i : Int) := by omega
  intro n
  induction n with
  | zero =>
    intro k; intros; rename_i hk
    have hd : decide ((k : Int) < (b.l.length : Int)) = false := by simp; omega
    have hdr : b.l.drop k = [] := List.drop_eq_nil_of_le (by omega)
    simp only [go_sem, simprocAttr, Try.f47, b2]
    rw [exec_loop]
    simp only [go_sem, simprocAttr, h0i, Int.toNat_natCast, b1, b2, List.length_map, hd, hdr]
    exact frP (by kernel_rfl)
  | succ n ih =>
    intro k; intros; rename_i hk
    have hd : decide ((k : Int) < (b.l.length : Int)) = true := by simp; omega
    have h0 : (0 : Int) ≤ (k : Int) := by omega
    obtain ⟨x, hx, hdr⟩ := get_drop (show k < b.l.length by omega)
    have hz := sz_of b3 hx
    have hx' : (b.l.map (AVal.int .i64))[k]? = some (.int .i64 x) := by simp [hx]
    have sc := isSh_call x
    rw [hdr]
    cases hs : shB x with
    | false =>
      rw [hs] at sc
      simp only [go_sem, simprocAttr, Try.f47, b2]
      rw [exec_loop]
      simp only [go_sem, simprocAttr, hd, h0, h0i, Int.toNat_natCast, b1, b2, hz, hx', List.length_map, sc, hs]
      exact frP (by kernel_rfl)
    | true =>
      rw [hs] at sc
      have ih' := ih (k + 1)
      simp only [go_sem, simprocAttr, Try.f47, b2] at ih' ⊢
      rw [exec_loop]
      simp only [go_sem, simprocAttr, hd, h0, h0i, Int.toNat_natCast, b1, b2, hz, hx', List.length_map, sc, hs, wrap_succ (show k < 2 ^ 63 - 1 by omega)]
      exact ih' _ _ _ _ _ _ _ _ _ _ _ _ _ _ _ _ _ _ _ _ _ _ _ _ _ _ _ _ _ _ _ _ _ _ _ _ _ _ _ _ _ _ _ _ _ _ _ _ _ _ _ _ _ _ _ _ _ _ _ _ _ _ _ _ _ _ _ _ _ _ _ _ _ _ _ _ _ _ _ _ _ _ _ _ _ _ _ _ _ _ _ _ _ _ _ _ _ _ _ _ _ _ _ _ _ _ _ _ _ _ _ _ _ _ _ _ _ _ (by omega)

theorem rs_checks {M : MatV} (hM : M.Wf) {a : SlI} (ha : M.rows[0]? = some a) : ∀ (n i : Nat) (j1 j4 j6 j7 j8 j9 j10 j11 j12 j13 j14 j15 j16 j17 j18 j19 j20 j21 j22 j23 j24 j25 j26 j27 j28 j29 j30 j31 j32 j33 j34 j35 j36 j37 j38 j39 j40 j41 j42 j43 j44 j45 j46 j47 j48 j49 j50 j51 j52 j53 j54 j55 j56 j57 j58 j59 j60 j61 j62 j63 j64 j65 j66 j67 j68 j69 j70 j71 j72 j73 j74 j75 j76 j77 j78 j79 j80 j81 j82 j83 j84 j85 j86 j87 j88 j89 j90 j91 j92 j93 j94 j95 j96 j97 j98 j99 j100 j101 j102 j103 j104 j105 j106 j107 j108 j109 j110 j111 j112 j113 j114 j115 j116 j117 j118 j119 j120 j121 j122 : AVal), i + n = M.rows.length →
    Goes (execT env (Try.f47.at [1, 1, 0, 1, 0]) ⟨[.lit M.cl M.sz (M.rows.map SlI.v), j1, .lit true 0 [], .lit true 0 [], j4, .int .i64 i, j6, j7, j8, j9, j10, j11, j12, j13, j14, j15, j16, j17, j18, j19, j20, j21, j22, j23, j24, j25, j26, j27, j28, j29, j30, j31, j32, j33, j34, j35, j36, j37, j38, j39, j40, j41, j42, j43, j44, j45, j46, j47, j48, j49, j50, j51, j52, j53, j54, j55, j56, j57, j58, j59, j60, j61, j62, j63, j64, j65, j66, j67, j68, j69, j70, j71, j72, j73, j74, j75, j76, j77, j78, j79, j80, j81, j82, j83, j84, j85, j86, j87, j88, j89, j90, j91, j92, j93, j94, j95, j96, j97, j98, j99, j100, j101, j102, j103, j104, j105, j106, j107, j108, j109, j110, j111, j112, j113, j114, j115, j116, j117, j118, j119, j120, j121, j122], [], [], 0, [7, 8]⟩) fun ex st =>
      if (M.rows.drop i).all (fun s => rowSh a.l.length s.l) then ex = .exit 0 ∧ FrP 123 [(0, .lit M.cl M.sz (M.rows.map SlI.v)), (2, .lit true 0 []), (3, .lit true 0 [])] [] [] 0 [7, 8] st
      else ex = .ret ∧ FrP 123 [(2, .lit true 0 []), (3, .lit true 0 []), (4, .int .i64 1)] [] [] 0 [7, 8] st := by
  have hll := hM.len
  obtain ⟨a1, a2, _, _⟩ := mrow hM ha
  intro n
  induction n with
  | zero =>
    intro i; intros; rename_i hi
    have hd : decide ((i : Int) < (M.rows.length : Int)) = false := by simp; omega
    have hdr : M.rows.drop i = [] := List.drop_eq_nil_of_le (by omega)
    simp only [go_sem, simprocAttr, Try.f47]
    rw [exec_loop]
    simp only [go_sem, simprocAttr, List.length_map, hd, hdr]
    exact frP (by kernel_rfl)
  | succ n ih =>
    intro i; intros; rename_i hi
    have hd : decide ((i : Int) < (M.rows.length : Int)) = true := by simp; omega
    have h0 : (0 : Int) ≤ (i : Int) := by omega
    obtain ⟨b, hb, hdr⟩ := get_drop (show i < M.rows.length by omega)
    obtain ⟨b1, _, b3, b4⟩ := mrow hM hb
    have el : decide ((b.l.length : Int) = (a.l.length : Int)) = decide (b.l.length = a.l.length) := decide_eq_decide.2 (by omega)
    rw [hdr]
    cases hw : decide (b.l.length = a.l.length) with
    | false =>
      have hr : rowSh a.l.length b.l = false := by unfold rowSh; rw [hw]; rfl
      simp only [go_sem, simprocAttr, Try.f47, a2]
      rw [exec_loop]
      simp only [go_sem, simprocAttr, hd, h0, Int.toNat_natCast, b1, a1, a2, List.length_map, el, hw, hr]
      exact frP (by kernel_rfl)
    | true =>
      obtain ⟨ex, st, hx, hp⟩ := rs_check hM hb b.l.length 0 _ _ _ _ _ _ _ _ _ _ _ _ _ _ _ _ _ _ _ _ _ _ _ _ _ _ _ _ _ _ _ _ _ _ _ _ _ _ _ _ _ _ _ _ _ _ _ _ _ _ _ _ _ _ _ _ _ _ _ _ _ _ _ _ _ _ _ _ _ _ _ _ _ _ _ _ _ _ _ _ _ _ _ _ _ _ _ _ _ _ _ _ _ _ _ _ _ _ _ _ _ _ _ _ _ _ _ _ _ _ _ _ _ _ _ _ _ _ (by omega)
      rw [List.drop_zero] at hp
      simp only [go_sem, simprocAttr, Try.f47, Int.ofNat_zero, Int.natCast_zero, a2] at hx
      cases hs : b.l.all shB with
      | false =>
        have hr : rowSh a.l.length b.l = false := by unfold rowSh; rw [hw, hs]; rfl
        rw [hs, if_neg (by simp)] at hp
        obtain ⟨rfl, jp, rfl⟩ := hp
        simp only [go_sem, simprocAttr, Try.f47, a2]
        rw [exec_loop]
        simp only [go_sem, simprocAttr, hd, h0, Int.toNat_natCast, b1, a1, a2, List.length_map, el, hw]
        rw [hx]
        simp only [go_sem, simprocAttr, hr]
        exact frP (by kernel_rfl)
      | true =>
        have hr : rowSh a.l.length b.l = true := by unfold rowSh; rw [hw, hs]; rfl
        rw [hs, if_pos rfl] at hp
        obtain ⟨rfl, jp, rfl⟩ := hp
        have ih' := ih (i + 1)
        simp only [go_sem, simprocAttr, Try.f47, a2] at ih' ⊢
        rw [exec_loop]
        simp only [go_sem, simprocAttr, hd, h0, Int.toNat_natCast, b1, a1, a2, List.length_map, el, hw]
        rw [hx]
        simp only [go_sem, simprocAttr, hr, a2, wrap_succ (show i < 2 ^ 63 - 1 by omega)]
        exact ih' _ _ _ _ _ _ _ _ _ _ _ _ _ _ _ _ _ _ _ _ _ _ _ _ _ _ _ _ _ _ _ _ _ _ _ _ _ _ _ _ _ _ _ _ _ _ _ _ _ _ _ _ _ _ _ _ _ _ _ _ _ _ _ _ _ _ _ _ _ _ _ _ _ _ _ _ _ _ _ _ _ _ _ _ _ _ _ _ _ _ _ _ _ _ _ _ _ _ _ _ _ _ _ _ _ _ _ _ _ _ _ _ _ _ _ _ _ _ _ (by omega)

def grow (n : Nat) (f : Nat → Int) (x : Int) (j : Nat) : Int := if j < n then f j else x
theorem grow_get (n : Nat) (f : Nat → Int) (x : Int) : (intsV (n + 1) (grow n f x))[n]? = some (.int .i64 x) := by
  rw [intsV_get (by omega)]; simp [grow]
theorem grow_set (n : Nat) (f : Nat → Int) (x y : Int) : (intsV (n + 1) (grow n f x)).set n (.int .i64 y) = intsV (n + 1) (grow n f y) := intsV_set fun i hi => by
  unfold grow
  by_cases h : i = n
  · subst h; simp
  · rw [if_pos (by omega), if_neg h, if_pos (by omega)]
theorem grow_snoc (n : Nat) (f : Nat → Int) (x : Int) : intsV n f ++ [.int .i64 x] = intsV (n + 1) (grow n f x) := by
  unfold intsV
  rw [vecA_succ]
  congr 1
  · exact vecA_congr fun i hi => by simp [grow, hi]
  · simp [grow]
theorem grow_full (n : Nat) (f : Nat → Int) : intsV (n + 1) (grow n f (f n)) = intsV (n + 1) f := intsV_congr fun i hi => by
  unfold grow
  by_cases h : i < n
  · rw [if_pos h]
  · rw [if_neg h, show i = n by omega]

theorem append_int {H : Heap} {id g n : Nat} {f : Nat → Int} {x : Int} {cl : Bool} (hH : H[id]? = some (accB 1 g (intsV n f))) (hb : n < 2 ^ 30) (nx : Nat) {ro : Nat} (hro : ro ≤ id) :
    ∃ g', appendOp env ro nx 51 (.ref id (accG g (intsV n f)) 0 n false) (.lit cl 1 [.int .i64 x]) H = some (.ref id g' 0 (n + 1) false, [(id, .cells g' 1 true (intsV (n + 1) (grow n f x)))]) := by
  obtain ⟨g', h⟩ := append_acc (v := .int .i64 x) (cl := cl) ti51 ti3 rfl ⟨by decide, rfl, rfl⟩ rfl hH rfl (by rw [intsV_length]; show (n + 1) * 9 ≤ 2 ^ 45; omega) nx hro
  rw [intsV_length, grow_snoc] at h
  have hne : intsV (n + 1) (grow n f x) ≠ [] := fun e => by have := congrArg List.length e; rw [intsV_length] at this; simp at this
  have h' : appendOp env ro nx 51 (.ref id (accG g (intsV n f)) 0 n false) (.lit cl 1 [.int .i64 x]) H = some (.ref id (accG g' (intsV (n + 1) (grow n f x))) 0 (n + 1) false, [(id, accB 1 g' (intsV (n + 1) (grow n f x)))]) := h
  have e1 : accB 1 g' (intsV (n + 1) (grow n f x)) = .cells g' 1 true (intsV (n + 1) (grow n f x)) := if_neg hne
  have e2 : accG g' (intsV (n + 1) (grow n f x)) = g' := if_neg hne
  rw [e1, e2] at h'
  exact ⟨g', h'⟩

theorem acc_one {n g : Nat} {f : Nat → Int} : Blk.cells g 1 true (intsV (n + 1) f) = accB 1 g (intsV (n + 1) f) ∧ g = accG g (intsV (n + 1) f) := by
  have hne : intsV (n + 1) f ≠ [] := fun e => by have := congrArg List.length e; rw [intsV_length] at this; simp at this
  exact ⟨by rw [accB, if_neg hne], by rw [accG, if_neg hne]⟩

section
variable {M : MatV} {R C : Nat}
theorem SumOk.row (h : SumOk M R C) {i : Nat} (hi : i < R) : ∃ b, M.rows[i]? = some b ∧ b.l.length = C ∧ (M.rows.map SlI.v)[i]? = some (.lit b.cl b.sz (b.l.map (AVal.int .i64))) ∧ M.sz = 1 ∧ (0 < C → b.sz = 1) ∧ ∀ k, k < C → (b.l.map (AVal.int .i64))[k]? = some (.int .i64 (matOf M.m i k)) := by
  obtain ⟨b, hb, _⟩ := get_drop (show i < M.rows.length by rw [h.len]; exact hi)
  have hw := h.wid b (List.mem_of_getElem? hb)
  obtain ⟨b1, b2, b3, b4⟩ := mrow h.wf hb
  refine ⟨b, hb, hw, b1, b2, fun hc => ?_, fun k hk => ?_⟩
  · rcases b3 with h3 | h3
    · rw [h3] at hw; simp at hw; omega
    · exact h3
  · obtain ⟨x, hx, _⟩ := get_drop (show k < b.l.length by omega)
    simp [hx, matOf_get hb hx]

theorem rs_radd (h : SumOk M R C) {i : Nat} (hi : i < R) (B : Blk) (g : Nat) : ∀ (n k : Nat) (j1 j2 j3 j4 j5 j6 j11 j12 j13 j14 j15 j16 j17 j18 j19 j20 j21 j22 j23 j24 j25 j26 j27 j28 j29 j30 j31 j32 j33 j34 j35 j36 j37 j38 j39 j40 j41 j42 j43 j44 j45 j46 j47 j48 j49 j50 j51 j52 j53 j54 j55 j56 j57 j58 j59 j60 j61 j62 j63 j64 j65 j66 j67 j68 j69 j70 j71 j72 j73 j74 j75 j76 j77 j78 j79 j80 j81 j82 j83 j84 j85 j86 j87 j88 j89 j90 j91 j92 j93 j94 j95 j96 j97 j98 j99 j100 j101 j102 j103 j104 j105 j106 j107 j108 j109 j110 j111 j112 j113 j114 j115 j116 j117 j118 j119 j120 j121 j122 : AVal) (v8 : AVal), k + n = C →
    Goes (execT env (Try.f47.at [1, 1, 1, 1, 0, 1, 0, 0, 1, 0, 0, 1, 1, 0]) ⟨[.lit M.cl M.sz (M.rows.map SlI.v), j1, j2, j3, j4, j5, j6, .ref 0 g 0 (i + 1) false, v8, .int .i64 i, .int .i64 k, j11, j12, j13, j14, j15, j16, j17, j18, j19, j20, j21, j22, j23, j24, j25, j26, j27, j28, j29, j30, j31, j32, j33, j34, j35, j36, j37, j38, j39, j40, j41, j42, j43, j44, j45, j46, j47, j48, j49, j50, j51, j52, j53, j54, j55, j56, j57, j58, j59, j60, j61, j62, j63, j64, j65, j66, j67, j68, j69, j70, j71, j72, j73, j74, j75, j76, j77, j78, j79, j80, j81, j82, j83, j84, j85, j86, j87, j88, j89, j90, j91, j92, j93, j94, j95, j96, j97, j98, j99, j100, j101, j102, j103, j104, j105, j106, j107, j108, j109, j110, j111, j112, j113, j114, j115, j116, j117, j118, j119, j120, j121, j122], [.cells g 1 true (intsV (i + 1) (grow i (fun i => sumN C (matOf M.m i)) (sumN k (matOf M.m i)))), B], [], 0, [7, 8]⟩) fun ex st =>
      ex = .exit 6 ∧ FrP 123 [(0, .lit M.cl M.sz (M.rows.map SlI.v)), (7, .ref 0 g 0 (i + 1) false), (8, v8), (9, .int .i64 i)] [.cells g 1 true (intsV (i + 1) fun i => sumN C (matOf M.m i)), B] [] 0 [7, 8] st := by
  have hC8 := h.C8
  have hR8 := h.R8
  have h0i : (0 : Int) ≤ (i : Int) := by omega
  obtain ⟨b, hb, hw, b1, b2, b3, b4⟩ := h.row hi
  intro n
  induction n with
  | zero =>
    intro k; intros; rename_i v8 hk
    have hd : decide ((k : Int) < (C : Int)) = false := by simp; omega
    have : k = C := by omega
    subst this
    have gf := grow_full i fun i => sumN k (matOf M.m i)
    simp only [go_sem, simprocAttr, Try.f47, b2]
    rw [exec_loop]
    simp only [go_sem, simprocAttr, h0i, Int.toNat_natCast, b1, b2, List.length_map, hw, hd, gf]
    exact frP (by kernel_rfl)
  | succ n ih =>
    intro k; intros; rename_i v8 hk
    have hkC : k < C := by omega
    have hd : decide ((k : Int) < (C : Int)) = true := by simp; omega
    have hdi : decide ((i : Int) < ((i + 1 : Nat) : Int)) = true := by simp; omega
    have h0 : (0 : Int) ≤ (k : Int) := by omega
    have b3 := b3 (by omega)
    have b4 := b4 k hkC
    have bd1 := sumN_bd (n := k) (f := matOf M.m i) (B := 2 ^ 30) fun j hj => h.bd i j hi (by omega)
    have bd2 := h.bd i k hi hkC
    have w1 : IntKind.i64.wrap (sumN k (matOf M.m i) + matOf M.m i k) = sumN (k + 1) (matOf M.m i) := i64_in _ (by omega)
    have gg := grow_get i (fun i => sumN C (matOf M.m i)) (sumN k (matOf M.m i))
    have gs := grow_set i (fun i => sumN C (matOf M.m i)) (sumN k (matOf M.m i)) (sumN (k + 1) (matOf M.m i))
    have ih' := ih (k + 1)
    simp only [go_sem, simprocAttr, Try.f47, b2] at ih' ⊢
    rw [exec_loop]
    simp only [go_sem, simprocAttr, hd, hdi, h0, h0i, Int.toNat_natCast, b1, b2, b3, b4, hw, List.length_map, gg, gs, w1]
    rw [apart_ok]
    · simp only [go_sem, simprocAttr, b2, gg, gs, w1, wrap_succ (show k < 2 ^ 63 - 1 by omega)]
      exact ih' _ _ _ _ _ _ _ _ _ _ _ _ _ _ _ _ _ _ _ _ _ _ _ _ _ _ _ _ _ _ _ _ _ _ _ _ _ _ _ _ _ _ _ _ _ _ _ _ _ _ _ _ _ _ _ _ _ _ _ _ _ _ _ _ _ _ _ _ _ _ _ _ _ _ _ _ _ _ _ _ _ _ _ _ _ _ _ _ _ _ _ _ _ _ _ _ _ _ _ _ _ _ _ _ _ _ _ _ _ _ _ _ _ _ _ _ _ _ v8 (by omega)
    · kernel_rfl

theorem rs_rows (h : SumOk M R C) (hC : 1 ≤ C) : ∀ (n i g : Nat) (j1 j2 j3 j4 j5 j6 j10 j11 j12 j13 j14 j15 j16 j17 j18 j19 j20 j21 j22 j23 j24 j25 j26 j27 j28 j29 j30 j31 j32 j33 j34 j35 j36 j37 j38 j39 j40 j41 j42 j43 j44 j45 j46 j47 j48 j49 j50 j51 j52 j53 j54 j55 j56 j57 j58 j59 j60 j61 j62 j63 j64 j65 j66 j67 j68 j69 j70 j71 j72 j73 j74 j75 j76 j77 j78 j79 j80 j81 j82 j83 j84 j85 j86 j87 j88 j89 j90 j91 j92 j93 j94 j95 j96 j97 j98 j99 j100 j101 j102 j103 j104 j105 j106 j107 j108 j109 j110 j111 j112 j113 j114 j115 j116 j117 j118 j119 j120 j121 j122 : AVal), i + n = R →
    Goes (execT env (Try.f47.at [1, 1, 1, 1, 0, 1, 0]) ⟨[.lit M.cl M.sz (M.rows.map SlI.v), j1, j2, j3, j4, j5, j6, .ref 0 (accG g (intsV i fun i => sumN C (matOf M.m i))) 0 i false, .ref 1 0 0 0 false, .int .i64 i, j10, j11, j12, j13, j14, j15, j16, j17, j18, j19, j20, j21, j22, j23, j24, j25, j26, j27, j28, j29, j30, j31, j32, j33, j34, j35, j36, j37, j38, j39, j40, j41, j42, j43, j44, j45, j46, j47, j48, j49, j50, j51, j52, j53, j54, j55, j56, j57, j58, j59, j60, j61, j62, j63, j64, j65, j66, j67, j68, j69, j70, j71, j72, j73, j74, j75, j76, j77, j78, j79, j80, j81, j82, j83, j84, j85, j86, j87, j88, j89, j90, j91, j92, j93, j94, j95, j96, j97, j98, j99, j100, j101, j102, j103, j104, j105, j106, j107, j108, j109, j110, j111, j112, j113, j114, j115, j116, j117, j118, j119, j120, j121, j122], [accB 1 g (intsV i fun i => sumN C (matOf M.m i)), .cells 0 0 false []], [], 0, [7, 8]⟩) fun ex st =>
      ex = .exit 4 ∧ ∃ (g : Nat), FrP 123 [(0, .lit M.cl M.sz (M.rows.map SlI.v)), (7, .ref 0 (accG g (intsV R fun i => sumN C (matOf M.m i))) 0 R false), (8, .ref 1 0 0 0 false)] ([accB 1 g (intsV R fun i => sumN C (matOf M.m i)), .cells 0 0 false []]) [] 0 [7, 8] st := by
  have hR8 := h.R8
  have hl := h.len
  intro n
  induction n with
  | zero =>
    intro i g; intros; rename_i hi
    have hd : decide ((i : Int) < (R : Int)) = false := by simp; omega
    have : i = R := by omega
    subst this
    simp only [go_sem, simprocAttr, Try.f47]
    rw [exec_loop]
    simp only [go_sem, simprocAttr, List.length_map, hl, hd]
    exact ⟨g, frP (by kernel_rfl)⟩
  | succ n ih =>
    intro i g; intros; rename_i hi
    have hiR : i < R := by omega
    have hd : decide ((i : Int) < (R : Int)) = true := by simp; omega
    obtain ⟨g', ap⟩ := append_int (H := [accB 1 g (intsV i fun i => sumN C (matOf M.m i)), .cells 0 0 false []]) (id := 0) (g := g) (n := i) (f := fun i => sumN C (matOf M.m i)) (x := 0) (cl := true) rfl (by omega) 2 (ro := 0) (Nat.le_refl _)
    obtain ⟨ex, st, hx, hp⟩ := rs_radd h hiR (.cells 0 0 false []) g' C 0 _ _ _ _ _ _ _ _ _ _ _ _ _ _ _ _ _ _ _ _ _ _ _ _ _ _ _ _ _ _ _ _ _ _ _ _ _ _ _ _ _ _ _ _ _ _ _ _ _ _ _ _ _ _ _ _ _ _ _ _ _ _ _ _ _ _ _ _ _ _ _ _ _ _ _ _ _ _ _ _ _ _ _ _ _ _ _ _ _ _ _ _ _ _ _ _ _ _ _ _ _ _ _ _ _ _ _ _ _ _ _ _ _ _ _ _ _ _ (.ref 1 0 0 0 false) (by omega)
    obtain ⟨rfl, jp, rfl⟩ := hp
    obtain ⟨q1, q2⟩ := acc_one (n := i) (g := g') (f := fun i => sumN C (matOf M.m i))
    have s0 : sumN 0 (matOf M.m i) = 0 := rfl
    simp only [go_sem, simprocAttr, Try.f47, Int.ofNat_zero, Int.natCast_zero, s0] at hx
    have ih' := ih (i + 1) g'
    rw [← q1, ← q2] at ih'
    simp only [go_sem, simprocAttr, Try.f47] at ih' ⊢
    rw [exec_loop]
    simp only [go_sem, simprocAttr, List.length_map, hl, hd, ap]
    rw [hx]
    simp only [go_sem, simprocAttr, wrap_succ (show i < 2 ^ 63 - 1 by omega)]
    exact ih' _ _ _ _ _ _ _ _ _ _ _ _ _ _ _ _ _ _ _ _ _ _ _ _ _ _ _ _ _ _ _ _ _ _ _ _ _ _ _ _ _ _ _ _ _ _ _ _ _ _ _ _ _ _ _ _ _ _ _ _ _ _ _ _ _ _ _ _ _ _ _ _ _ _ _ _ _ _ _ _ _ _ _ _ _ _ _ _ _ _ _ _ _ _ _ _ _ _ _ _ _ _ _ _ _ _ _ _ _ _ _ _ _ _ _ _ _ _ _ (by omega)

theorem rs_cadd (h : SumOk M R C) {k : Nat} (hk : k < C) (B : Blk) (g : Nat) : ∀ (n i : Nat) (j1 j2 j3 j4 j5 j6 j9 j10 j13 j14 j15 j16 j17 j18 j19 j20 j21 j22 j23 j24 j25 j26 j27 j28 j29 j30 j31 j32 j33 j34 j35 j36 j37 j38 j39 j40 j41 j42 j43 j44 j45 j46 j47 j48 j49 j50 j51 j52 j53 j54 j55 j56 j57 j58 j59 j60 j61 j62 j63 j64 j65 j66 j67 j68 j69 j70 j71 j72 j73 j74 j75 j76 j77 j78 j79 j80 j81 j82 j83 j84 j85 j86 j87 j88 j89 j90 j91 j92 j93 j94 j95 j96 j97 j98 j99 j100 j101 j102 j103 j104 j105 j106 j107 j108 j109 j110 j111 j112 j113 j114 j115 j116 j117 j118 j119 j120 j121 j122 : AVal) (v7 : AVal), i + n = R →
    Goes (execT env (Try.f47.at [1, 1, 1, 1, 1, 0, 1, 0, 0, 1, 0, 0, 1, 1, 0]) ⟨[.lit M.cl M.sz (M.rows.map SlI.v), j1, j2, j3, j4, j5, j6, v7, .ref 1 g 0 (k + 1) false, j9, j10, .int .i64 k, .int .i64 i, j13, j14, j15, j16, j17, j18, j19, j20, j21, j22, j23, j24, j25, j26, j27, j28, j29, j30, j31, j32, j33, j34, j35, j36, j37, j38, j39, j40, j41, j42, j43, j44, j45, j46, j47, j48, j49, j50, j51, j52, j53, j54, j55, j56, j57, j58, j59, j60, j61, j62, j63, j64, j65, j66, j67, j68, j69, j70, j71, j72, j73, j74, j75, j76, j77, j78, j79, j80, j81, j82, j83, j84, j85, j86, j87, j88, j89, j90, j91, j92, j93, j94, j95, j96, j97, j98, j99, j100, j101, j102, j103, j104, j105, j106, j107, j108, j109, j110, j111, j112, j113, j114, j115, j116, j117, j118, j119, j120, j121, j122], [B, .cells g 1 true (intsV (k + 1) (grow k (fun k => sumN R fun i => matOf M.m i k) (sumN i fun i => matOf M.m i k)))], [], 0, [7, 8]⟩) fun ex st =>
      ex = .exit 10 ∧ FrP 123 [(0, .lit M.cl M.sz (M.rows.map SlI.v)), (7, v7), (8, .ref 1 g 0 (k + 1) false), (11, .int .i64 k)] [B, .cells g 1 true (intsV (k + 1) fun k => sumN R fun i => matOf M.m i k)] [] 0 [7, 8] st := by
  have hC8 := h.C8
  have hR8 := h.R8
  have hl := h.len
  have h0k : (0 : Int) ≤ (k : Int) := by omega
  intro n
  induction n with
  | zero =>
    intro i; intros; rename_i v7 hi
    have hd : decide ((i : Int) < (R : Int)) = false := by simp; omega
    have : i = R := by omega
    subst this
    have gf := grow_full k fun k => sumN i fun i => matOf M.m i k
    simp only [go_sem, simprocAttr, Try.f47]
    rw [exec_loop]
    simp only [go_sem, simprocAttr, List.length_map, hl, hd, gf]
    exact frP (by kernel_rfl)
  | succ n ih =>
    intro i; intros; rename_i v7 hi
    have hiR : i < R := by omega
    have hd : decide ((i : Int) < (R : Int)) = true := by simp; omega
    have hdk : decide ((k : Int) < ((k + 1 : Nat) : Int)) = true := by simp; omega
    have h0 : (0 : Int) ≤ (i : Int) := by omega
    obtain ⟨b, hb, hw, b1, b2, b3, b4⟩ := h.row hiR
    have b3 := b3 (by omega)
    have b4 := b4 k hk
    have bd1 := sumN_bd (n := i) (f := fun i => matOf M.m i k) (B := 2 ^ 30) fun j hj => h.bd j k (by omega) hk
    have bd2 := h.bd i k hiR hk
    have w1 : IntKind.i64.wrap ((sumN i fun i => matOf M.m i k) + matOf M.m i k) = sumN (i + 1) fun i => matOf M.m i k := i64_in _ (by omega)
    have gg := grow_get k (fun k => sumN R fun i => matOf M.m i k) (sumN i fun i => matOf M.m i k)
    have gs := grow_set k (fun k => sumN R fun i => matOf M.m i k) (sumN i fun i => matOf M.m i k) (sumN (i + 1) fun i => matOf M.m i k)
    have ih' := ih (i + 1)
    simp only [go_sem, simprocAttr, Try.f47, b2] at ih' ⊢
    rw [exec_loop]
    simp only [go_sem, simprocAttr, hd, hdk, h0, h0k, Int.toNat_natCast, b1, b2, b3, b4, hl, List.length_map, gg, gs, w1]
    rw [apart_ok]
    · simp only [go_sem, simprocAttr, b2, gg, gs, w1, wrap_succ (show i < 2 ^ 63 - 1 by omega)]
      exact ih' _ _ _ _ _ _ _ _ _ _ _ _ _ _ _ _ _ _ _ _ _ _ _ _ _ _ _ _ _ _ _ _ _ _ _ _ _ _ _ _ _ _ _ _ _ _ _ _ _ _ _ _ _ _ _ _ _ _ _ _ _ _ _ _ _ _ _ _ _ _ _ _ _ _ _ _ _ _ _ _ _ _ _ _ _ _ _ _ _ _ _ _ _ _ _ _ _ _ _ _ _ _ _ _ _ _ _ _ _ _ _ _ _ _ _ _ _ _ v7 (by omega)
    · kernel_rfl

theorem rs_cols (h : SumOk M R C) (B : Blk) (v7 : AVal) : ∀ (n k g : Nat) (j1 j2 j3 j4 j5 j6 j9 j10 j12 j13 j14 j15 j16 j17 j18 j19 j20 j21 j22 j23 j24 j25 j26 j27 j28 j29 j30 j31 j32 j33 j34 j35 j36 j37 j38 j39 j40 j41 j42 j43 j44 j45 j46 j47 j48 j49 j50 j51 j52 j53 j54 j55 j56 j57 j58 j59 j60 j61 j62 j63 j64 j65 j66 j67 j68 j69 j70 j71 j72 j73 j74 j75 j76 j77 j78 j79 j80 j81 j82 j83 j84 j85 j86 j87 j88 j89 j90 j91 j92 j93 j94 j95 j96 j97 j98 j99 j100 j101 j102 j103 j104 j105 j106 j107 j108 j109 j110 j111 j112 j113 j114 j115 j116 j117 j118 j119 j120 j121 j122 : AVal), k + n = C →
    Goes (execT env (Try.f47.at [1, 1, 1, 1, 1, 0, 1, 0]) ⟨[.lit M.cl M.sz (M.rows.map SlI.v), j1, j2, j3, j4, j5, j6, v7, .ref 1 (accG g (intsV k fun k => sumN R fun i => matOf M.m i k)) 0 k false, j9, j10, .int .i64 k, j12, j13, j14, j15, j16, j17, j18, j19, j20, j21, j22, j23, j24, j25, j26, j27, j28, j29, j30, j31, j32, j33, j34, j35, j36, j37, j38, j39, j40, j41, j42, j43, j44, j45, j46, j47, j48, j49, j50, j51, j52, j53, j54, j55, j56, j57, j58, j59, j60, j61, j62, j63, j64, j65, j66, j67, j68, j69, j70, j71, j72, j73, j74, j75, j76, j77, j78, j79, j80, j81, j82, j83, j84, j85, j86, j87, j88, j89, j90, j91, j92, j93, j94, j95, j96, j97, j98, j99, j100, j101, j102, j103, j104, j105, j106, j107, j108, j109, j110, j111, j112, j113, j114, j115, j116, j117, j118, j119, j120, j121, j122], [B, accB 1 g (intsV k fun k => sumN R fun i => matOf M.m i k)], [], 0, [7, 8]⟩) fun ex st =>
      ex = .exit 8 ∧ ∃ (g : Nat), FrP 123 [(7, v7), (8, .ref 1 (accG g (intsV C fun k => sumN R fun i => matOf M.m i k)) 0 C false)] [B, accB 1 g (intsV C fun k => sumN R fun i => matOf M.m i k)] [] 0 [7, 8] st := by
  have hC8 := h.C8
  have hR1 := h.R1
  obtain ⟨a, ha, hw, a1, a2, _, _⟩ := h.row (i := 0) (by omega)
  intro n
  induction n with
  | zero =>
    intro k g; intros; rename_i hk
    have hd : decide ((k : Int) < (C : Int)) = false := by simp; omega
    have : k = C := by omega
    subst this
    simp only [go_sem, simprocAttr, Try.f47, a2]
    rw [exec_loop]
    simp only [go_sem, simprocAttr, List.length_map, a1, a2, hw, hd]
    exact ⟨g, frP (by kernel_rfl)⟩
  | succ n ih =>
    intro k g; intros; rename_i hk
    have hkC : k < C := by omega
    have hd : decide ((k : Int) < (C : Int)) = true := by simp; omega
    obtain ⟨g', ap⟩ := append_int (H := [B, accB 1 g (intsV k fun k => sumN R fun i => matOf M.m i k)]) (id := 1) (g := g) (n := k) (f := fun k => sumN R fun i => matOf M.m i k) (x := 0) (cl := true) rfl (by omega) 2 (ro := 0) (Nat.zero_le _)
    obtain ⟨ex, st, hx, hp⟩ := rs_cadd h hkC B g' R 0 _ _ _ _ _ _ _ _ _ _ _ _ _ _ _ _ _ _ _ _ _ _ _ _ _ _ _ _ _ _ _ _ _ _ _ _ _ _ _ _ _ _ _ _ _ _ _ _ _ _ _ _ _ _ _ _ _ _ _ _ _ _ _ _ _ _ _ _ _ _ _ _ _ _ _ _ _ _ _ _ _ _ _ _ _ _ _ _ _ _ _ _ _ _ _ _ _ _ _ _ _ _ _ _ _ _ _ _ _ _ _ _ _ _ _ _ _ _ v7 (by omega)
    obtain ⟨rfl, jp, rfl⟩ := hp
    obtain ⟨q1, q2⟩ := acc_one (n := k) (g := g') (f := fun k => sumN R fun i => matOf M.m i k)
    have s0 : (sumN 0 fun i => matOf M.m i k) = 0 := rfl
    simp only [go_sem, simprocAttr, Try.f47, Int.ofNat_zero, Int.natCast_zero, s0, a2] at hx
    have ih' := ih (k + 1) g'
    rw [← q1, ← q2] at ih'
    simp only [go_sem, simprocAttr, Try.f47, a2] at ih' ⊢
    rw [exec_loop]
    simp only [go_sem, simprocAttr, List.length_map, a1, a2, hw, hd, ap]
    rw [hx]
    simp only [go_sem, simprocAttr, a2, wrap_succ (show k < 2 ^ 63 - 1 by omega)]
    exact ih' _ _ _ _ _ _ _ _ _ _ _ _ _ _ _ _ _ _ _ _ _ _ _ _ _ _ _ _ _ _ _ _ _ _ _ _ _ _ _ _ _ _ _ _ _ _ _ _ _ _ _ _ _ _ _ _ _ _ _ _ _ _ _ _ _ _ _ _ _ _ _ _ _ _ _ _ _ _ _ _ _ _ _ _ _ _ _ _ _ _ _ _ _ _ _ _ _ _ _ _ _ _ _ _ _ _ _ _ _ _ _ _ _ _ _ _ _ _ _ (by omega)
end

set_option maxRecDepth 10000
set_option maxHeartbeats 2000000

theorem rSums_call {M : MatV} (hM : M.Wf) : ∃ v, SumsAns M.m v ∧ ∀ ro H nx, callT env 47 [M.v] ro H nx = some (.ret v, .ups []) := by
  have mv : M.v = .lit M.cl M.sz (M.rows.map SlI.v) := rfl
  have lm : M.m.length = M.rows.length := by simp [MatV.m]
  have s1 := rside_call M.rows.length
  have done : ∀ {v H'}, SumsAns M.m v → runT env 47 [M.v] [] 0 = some (.ret v, H') → noRef v = true → ∃ v, SumsAns M.m v ∧ ∀ ro H nx, callT env 47 [M.v] ro H nx = some (.ret v, .ups []) := fun hv hr hn =>
    ⟨_, hv, fun ro H nx => call_pure rfl rfl rfl (by simp [underL, MatV.under]) hr hn ro H nx⟩
  cases h1 : sideOk M.rows.length with
  | false =>
    have hs : sumsB M.m = false := by unfold sumsB; rw [lm, h1]; rfl
    have : ∃ H', runT env 47 [M.v] [] 0 = some (.ret (.tuple [.lit true 0 [], .lit true 0 [], .int .i64 1]), H') := by
      rw [mv, run_unfold fn47 rfl]
      simp only [go_sem, simprocAttr, Try.f47, List.length_map, s1, h1, unwind, modeEx, resultsOf, one]
      exact ⟨_, rfl⟩
    obtain ⟨H', h⟩ := this
    exact done (.inl ⟨hs, rfl⟩) h rfl
  | true =>
    have hpos : 0 < M.rows.length := by
      simp only [sideOk, Bool.and_eq_true, decide_eq_true_eq] at h1; omega
    obtain ⟨a, ha, _⟩ := get_drop hpos
    obtain ⟨a1, a2, a3, a4⟩ := mrow hM ha
    have l0 : firstW M.m = a.l.length := by
      unfold firstW
      have : M.m.getD 0 [] = a.l := getD_some (by simp [MatV.m, ha])
      rw [this]
    have s2 := rside_call a.l.length
    cases h2 : sideOk a.l.length with
    | false =>
      have hs : sumsB M.m = false := by unfold sumsB; rw [l0, h2, Bool.and_false]; rfl
      have : ∃ H', runT env 47 [M.v] [] 0 = some (.ret (.tuple [.lit true 0 [], .lit true 0 [], .int .i64 1]), H') := by
        rw [mv, run_unfold fn47 rfl]
        simp only [go_sem, simprocAttr, Try.f47, List.length_map, s1, h1, a1, a2, s2, h2, unwind, modeEx, resultsOf, one]
        exact ⟨_, rfl⟩
      obtain ⟨H', h⟩ := this
      exact done (.inl ⟨hs, rfl⟩) h rfl
    | true =>
      have eb : sumsB M.m = M.rows.all (fun s => rowSh a.l.length s.l) := by
        unfold sumsB
        rw [lm, h1, l0, h2]
        simp [MatV.m, List.all_map, Function.comp_def]
      obtain ⟨ex, st, hx, hp⟩ := rs_checks hM ha M.rows.length 0 _ _ _ _ _ _ _ _ _ _ _ _ _ _ _ _ _ _ _ _ _ _ _ _ _ _ _ _ _ _ _ _ _ _ _ _ _ _ _ _ _ _ _ _ _ _ _ _ _ _ _ _ _ _ _ _ _ _ _ _ _ _ _ _ _ _ _ _ _ _ _ _ _ _ _ _ _ _ _ _ _ _ _ _ _ _ _ _ _ _ _ _ _ _ _ _ _ _ _ _ _ _ _ _ _ _ _ _ _ _ _ _ _ _ _ _ _ _ _ (by omega)
      rw [List.drop_zero] at hp
      simp only [go_sem, simprocAttr, Try.f47, Int.ofNat_zero, Int.natCast_zero, a2] at hx
      cases h3 : M.rows.all (fun s => rowSh a.l.length s.l) with
      | false =>
        rw [h3, if_neg (by simp)] at hp
        obtain ⟨rfl, jj, rfl⟩ := hp
        have : ∃ H', runT env 47 [M.v] [] 0 = some (.ret (.tuple [.lit true 0 [], .lit true 0 [], .int .i64 1]), H') := by
          rw [mv, run_unfold fn47 rfl]
          simp only [go_sem, simprocAttr, Try.f47, List.length_map, s1, h1, a1, a2, s2, h2]
          rw [hx]
          simp only [go_sem, simprocAttr, unwind, modeEx, resultsOf, one]
          exact ⟨_, rfl⟩
        obtain ⟨H', h⟩ := this
        exact done (.inl ⟨by rw [eb, h3], rfl⟩) h rfl
      | true =>
        rw [h3, if_pos rfl] at hp
        obtain ⟨rfl, jp, rfl⟩ := hp
        have hS := sumOk_of hM (by rw [eb, h3])
        have hC1 : 1 ≤ firstW M.m := by
          rw [l0]; simp only [sideOk, Bool.and_eq_true, decide_eq_true_eq] at h2; omega
        have hR1 := hS.R1
        obtain ⟨e1, t1, hx1, hp1⟩ := rs_rows hS hC1 M.m.length 0 0 _ _ _ _ _ _ _ _ _ _ _ _ _ _ _ _ _ _ _ _ _ _ _ _ _ _ _ _ _ _ _ _ _ _ _ _ _ _ _ _ _ _ _ _ _ _ _ _ _ _ _ _ _ _ _ _ _ _ _ _ _ _ _ _ _ _ _ _ _ _ _ _ _ _ _ _ _ _ _ _ _ _ _ _ _ _ _ _ _ _ _ _ _ _ _ _ _ _ _ _ _ _ _ _ _ _ _ _ _ _ _ _ _ _ _ _ _ _ _ (by omega)
        obtain ⟨rfl, g1, jq, rfl⟩ := hp1
        obtain ⟨e2, t2, hx2, hp2⟩ := rs_cols hS (accB 1 g1 (intsV M.m.length fun i => sumN (firstW M.m) (matOf M.m i))) (.ref 0 (accG g1 (intsV M.m.length fun i => sumN (firstW M.m) (matOf M.m i))) 0 M.m.length false) (firstW M.m) 0 0 _ _ _ _ _ _ _ _ _ _ _ _ _ _ _ _ _ _ _ _ _ _ _ _ _ _ _ _ _ _ _ _ _ _ _ _ _ _ _ _ _ _ _ _ _ _ _ _ _ _ _ _ _ _ _ _ _ _ _ _ _ _ _ _ _ _ _ _ _ _ _ _ _ _ _ _ _ _ _ _ _ _ _ _ _ _ _ _ _ _ _ _ _ _ _ _ _ _ _ _ _ _ _ _ _ _ _ _ _ _ _ _ _ _ _ _ _ _ _ (by omega)
        obtain ⟨rfl, g2, jr, rfl⟩ := hp2
        have z0 : ∀ f : Nat → Int, intsV 0 f = [] := fun _ => rfl
        simp only [go_sem, simprocAttr, Try.f47, Int.ofNat_zero, Int.natCast_zero, z0, accB_nil, accG_nil, a2] at hx1 hx2
        have hr : runT env 47 [M.v] [] 0 = some (.ret (.tuple [.ref 0 (accG g1 (intsV M.m.length fun i => sumN (firstW M.m) (matOf M.m i))) 0 M.m.length false, .ref 1 (accG g2 (intsV (firstW M.m) fun k => sumN M.m.length fun i => matOf M.m i k)) 0 (firstW M.m) false, .int .i64 0]), [accB 1 g1 (intsV M.m.length fun i => sumN (firstW M.m) (matOf M.m i)), accB 1 g2 (intsV (firstW M.m) fun k => sumN M.m.length fun i => matOf M.m i k)]) := by
          rw [mv, run_unfold fn47 rfl]
          simp only [go_sem, simprocAttr, Try.f47, List.length_map, s1, h1, a1, a2, s2, h2]
          rw [hx]
          simp only [go_sem, simprocAttr, a2]
          rw [hx1]
          simp only [go_sem, simprocAttr, a2]
          rw [hx2]
          simp only [go_sem, simprocAttr, unwind, modeEx, resultsOf, one]
        have n1 : intsV M.m.length (fun i => sumN (firstW M.m) (matOf M.m i)) ≠ [] := fun e => by
          have := congrArg List.length e; rw [intsV_length, List.length_nil] at this; omega
        have n2 : intsV (firstW M.m) (fun k => sumN M.m.length fun i => matOf M.m i k) ≠ [] := fun e => by
          have := congrArg List.length e; rw [intsV_length, List.length_nil] at this; omega
        rw [accB, if_neg n1, accB, if_neg n2, accG, if_neg n1, accG, if_neg n2] at hr
        have q1 : intsV M.m.length (fun i => sumN (firstW M.m) (matOf M.m i)) = (sumR M.m).map (AVal.int .i64) := intsV_eq _ _
        have q2 : intsV (firstW M.m) (fun k => sumN M.m.length fun i => matOf M.m i k) = (sumC M.m).map (AVal.int .i64) := intsV_eq _ _
        refine ⟨_, .inr ⟨by rw [eb, h3], rfl⟩, fun ro H nx => call_back rfl rfl rfl (by simp [underL, MatV.under]) hr ?_ rfl ro H nx⟩
        rw [← q1, ← q2]
        simp [handBack, mapO, toLit, noRef, AVal.under, intsV_take, intsV_length]

theorem eq_loop {c1 c2 : Bool} {s1 s2 : Nat} {l : List Int} (h1 : l = [] ∨ s1 = 1) (h2 : l = [] ∨ s2 = 1) (hl : l.length < 2 ^ 63) : ∀ (n i : Nat) (j2 j3 j4 j5 j6 j7 j8 j9 j10 j11 j14 j15 j16 j17 j18 j19 j20 j21 j22 j23 j24 j25 : AVal), i + n = l.length →
    Goes (execT env (Try.f49.at [1, 1, 0, 1, 0]) ⟨[.lit c1 s1 (l.map (AVal.int .i64)), .lit c2 s2 (l.map (AVal.int .i64)), j2, j3, j4, j5, j6, j7, j8, j9, j10, j11, .int .i64 l.length, .int .i64 i, j14, j15, j16, j17, j18, j19, j20, j21, j22, j23, j24, j25], [], [], 0, []⟩) fun ex st =>
      ex = .exit 0 ∧ FrP 26 [] [] [] 0 [] st := by
  intro n
  induction n with
  | zero =>
    intro i; intros; rename_i hi
    have hd : decide ((i : Int) < (l.length : Int)) = false := by simp; omega
    simp only [go_sem, simprocAttr, Try.f49]
    rw [exec_loop]
    simp only [go_sem, simprocAttr, hd]
    exact frP (by kernel_rfl)
  | succ n ih =>
    intro i; intros; rename_i hi
    have hd : decide ((i : Int) < (l.length : Int)) = true := by simp; omega
    have h0 : (0 : Int) ≤ (i : Int) := by omega
    obtain ⟨x, hx, _⟩ := get_drop (show i < l.length by omega)
    have z1 := sz_of h1 hx
    have z2 := sz_of h2 hx
    have hx' : (l.map (AVal.int .i64))[i]? = some (.int .i64 x) := by simp [hx]
    have dd : decide (x = x) = true := decide_eq_true rfl
    have ih' := ih (i + 1)
    simp only [go_sem, simprocAttr, Try.f49, z1, z2] at ih' ⊢
    rw [exec_loop]
    simp only [go_sem, simprocAttr, hd, h0, Int.toNat_natCast, hx', z1, z2, dd, wrap_succ (show i < 2 ^ 63 - 1 by omega)]
    exact ih' _ _ _ _ _ _ _ _ _ _ _ _ _ _ _ _ _ _ _ _ _ _ (by omega)

theorem equal_call {c1 c2 : Bool} {s1 s2 : Nat} {l : List Int} (h1 : l = [] ∨ s1 = 1) (h2 : l = [] ∨ s2 = 1) (hl : l.length < 2 ^ 63) (ro : Nat) (H : Heap) (nx : Nat) : callT env 49 [.lit c1 s1 (l.map (AVal.int .i64)), .lit c2 s2 (l.map (AVal.int .i64))] ro H nx = some (.ret (.bool true), .ups []) := by
  have : ∃ H', runT env 49 [.lit c1 s1 (l.map (AVal.int .i64)), .lit c2 s2 (l.map (AVal.int .i64))] [] 0 = some (.ret (.bool true), H') := by
    obtain ⟨ex, st, hx, hp⟩ := eq_loop (c1 := c1) (c2 := c2) h1 h2 hl l.length 0 _ _ _ _ _ _ _ _ _ _ _ _ _ _ _ _ _ _ _ _ _ _ (by omega)
    obtain ⟨rfl, jp, rfl⟩ := hp
    have dd : decide ((l.length : Int) = (l.length : Int)) = true := decide_eq_true rfl
    simp only [go_sem, simprocAttr, Try.f49, Int.ofNat_zero, Int.natCast_zero] at hx
    rw [run_unfold fn49 rfl]
    simp only [go_sem, simprocAttr, Try.f49, List.length_map, dd]
    rw [hx]
    simp only [go_sem, simprocAttr, unwind, modeEx, resultsOf, one]
    exact ⟨_, rfl⟩
  obtain ⟨H', h⟩ := this
  exact call_pure rfl rfl rfl rfl h rfl ro H nx

theorem check_law (a0 a1 : List AVal) (h0 : FitT env 8 25 a0) (h1 : FitT env 8 46 a1) : ∃ H', runT env 9 [pack ⟨.struct [(22, 0), (22, 1), (23, 2)], 3, 72, .agg [.lit true 0 [], .lit true 0 [], .lit true 0 []]⟩ a0, pack ⟨.slice 51, 1, 24, .lit true 0 []⟩ a1] [] 0 = some (.ret (.bool true), H') := by
  obtain ⟨T, hT, e0⟩ := fit_tab (m := 3) h0
  obtain ⟨M, hM, rfl⟩ := fit_mat h1
  show ∃ H', runT env 9 [.agg a0, M.v] [] 0 = some (.ret (.bool true), H')
  rw [e0]
  have ck := check_call T hT
  have rck := rcheck_call T hT
  have cm := cm_call hT hM
  have rcm := rcm_call hT hM
  have d1 : decide (ckS T.tab = ckS T.tab) = true := decide_eq_true rfl
  have d2 : decide (cmS T.tab M.m = cmS T.tab M.m) = true := decide_eq_true rfl
  obtain ⟨v, hv, sc⟩ := Sums_call hM
  obtain ⟨w, hw, rsc⟩ := rSums_call hM
  rw [run_unfold fn9 rfl]
  rcases hv with ⟨hb, rfl⟩ | ⟨hb, rfl⟩
  · rcases hw with ⟨_, rfl⟩ | ⟨hb', _⟩
    · have ec : ∀ ro H nx, callT env 49 [.lit true 0 [], .lit true 0 []] ro H nx = some (.ret (.bool true), .ups []) := equal_call (l := []) (.inl rfl) (.inl rfl) (by decide)
      simp only [go_sem, simprocAttr, Try.f9, ck, rck, cm, rcm, d1, d2, sc, rsc, ec, unwind, modeEx, resultsOf, one]
      exact ⟨_, rfl⟩
    · rw [hb] at hb'; cases hb'
  · rcases hw with ⟨hb', _⟩ | ⟨_, rfl⟩
    · rw [hb] at hb'; cases hb'
    · have hS := sumOk_of hM hb
      have hR8 := hS.R8
      have hC8 := hS.C8
      have l1 : (sumR M.m).length = M.m.length := vecA_length _ _
      have l2 : (sumC M.m).length = firstW M.m := vecA_length _ _
      have ec1 := equal_call (c1 := false) (c2 := false) (s1 := 1) (s2 := 1) (l := sumR M.m) (.inr rfl) (.inr rfl) (by omega)
      have ec2 := equal_call (c1 := false) (c2 := false) (s1 := 1) (s2 := 1) (l := sumC M.m) (.inr rfl) (.inr rfl) (by omega)
      simp only [go_sem, simprocAttr, Try.f9, ck, rck, cm, rcm, d1, d2, sc, rsc, ec1, ec2, unwind, modeEx, resultsOf, one]
      exact ⟨_, rfl⟩
end Go.Proofs.Ytgfejpngfikjiaa.Tidy
