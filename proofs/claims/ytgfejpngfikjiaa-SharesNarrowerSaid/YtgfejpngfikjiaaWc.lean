/-
  What the functions that SharesNarrower reaches compute; the law, run.
-/
import Derived.Test.YtgfejpngfikjiaaWb
import Derived.Test.YtgfejpngfikjiaaCb
set_option linter.all false
namespace Go.Proofs.Ytgfejpngfikjiaa.Tidy
open Go Go.IntWalk
set_option maxRecDepth 10000
set_option linter.unusedSimpArgs false
set_option maxHeartbeats 4000000

set_option maxRecDepth 10000
set_option maxHeartbeats 2000000

def cellsGd (t : Tab) (x : Nat → Nat → Int) (i : Nat) : Bool := allN (fun k => (t.cell i k).has (x i k)) 0 t.C
def rowGd (t : Tab) (m : List (List Int)) (i : Nat) : Bool := decide ((m.getD i []).length = t.C) && (cellsGd t (matOf m) i && (t.row i).has (sumN t.C (matOf m i)))

def alH (T : TabV) (M : MatV) (i k : Nat) : Heap := [boxT T, .cells 0 1 true (intsV T.tab.C (cS (matOf M.m) i k))]

def Before (t : Tab) (x : Nat → Nat → Int) (i : Nat) : Prop := ∀ i', i' < i → ∀ k, k < t.C → 0 ≤ x i' k ∧ x i' k ≤ 2 ^ 30

theorem al_inner {T : TabV} {M : MatV} (hT : T.Wf) (hO : T.tab.Ok) (hM : M.Wf) {i : Nat} (hi : i < T.tab.R) {b : SlI} (hb : M.rows[i]? = some b) (hw : b.l.length = T.tab.C) (hB : Before T.tab (matOf M.m) i) : ∀ (n k : Nat) (j0 j1 j3 j4 j8 j10 j11 j12 j13 j14 j15 j16 j17 j18 j19 j20 j21 j22 j23 j27 j28 j29 j30 j31 j32 j33 j34 j35 j36 j40 j41 j42 j43 j44 j45 j46 j47 j48 j49 j50 j51 j52 j53 j54 j55 j56 j57 j58 j59 j60 j61 j62 j63 j64 j65 j66 j67 j68 j69 j70 j71 j72 j73 j74 j75 j76 j77 j78 j79 j80 j81 j82 j83 j84 j85 j86 j87 j88 j89 j90 j91 j92 j93 : AVal), k + n = T.tab.C → (∀ j, j < k → 0 ≤ matOf M.m i j ∧ matOf M.m i j ≤ 2 ^ 30) →
    Goes (execT env (Try.f39.at [1, 1, 1, 1, 0, 1, 0, 0, 1, 1, 0, 0, 1, 1, 1, 0, 1, 0]) ⟨[j0, j1, .ptr 0 0 0 0, j3, j4, .func 101 [] [], .ref 1 0 0 T.tab.C false, .int .i64 i, j8, .int .i64 (sumN k (matOf M.m i)), j10, j11, j12, j13, j14, j15, j16, j17, j18, j19, j20, j21, j22, j23, .lit M.cl M.sz (M.rows.map SlI.v), .int .i64 T.tab.R, .int .i64 i, j27, j28, j29, j30, j31, j32, j33, j34, j35, j36, .lit b.cl b.sz (b.l.map (AVal.int .i64)), .int .i64 T.tab.C, .int .i64 k, j40, j41, j42, j43, j44, j45, j46, j47, j48, j49, j50, j51, j52, j53, j54, j55, j56, j57, j58, j59, j60, j61, j62, j63, j64, j65, j66, j67, j68, j69, j70, j71, j72, j73, j74, j75, j76, j77, j78, j79, j80, j81, j82, j83, j84, j85, j86, j87, j88, j89, j90, j91, j92, j93], alH T M i k, [], 0, []⟩) fun ex st =>
      if allN (fun k => (T.tab.cell i k).has (matOf M.m i k)) k n then ex = .exit 2 ∧ (∀ j, j < T.tab.C → 0 ≤ matOf M.m i j ∧ matOf M.m i j ≤ 2 ^ 30) ∧ FrP 94 [(2, .ptr 0 0 0 0), (5, .func 101 [] []), (6, .ref 1 0 0 T.tab.C false), (7, .int .i64 i), (9, .int .i64 (sumN T.tab.C (matOf M.m i))), (24, .lit M.cl M.sz (M.rows.map SlI.v)), (25, .int .i64 T.tab.R), (26, .int .i64 i)] (alH T M i T.tab.C) [] 0 [] st
      else ex = .ret ∧ ∃ (H : Heap), FrP 94 [(4, .bool false)] H [] 0 [] st := by
  have hR8 := hO.R8
  have hC8 := hO.C8
  intro n
  induction n with
  | zero =>
    intro k; intros; rename_i hk hj
    have hd : decide ((k : Int) < (T.tab.C : Int)) = false := by simp; omega
    have : k = T.tab.C := by omega
    subst this
    simp only [go_sem, simprocAttr, Try.f39]
    rw [exec_loop]
    simp only [go_sem, simprocAttr, hd]
    exact ⟨hj, frP (by kernel_rfl)⟩
  | succ n ih =>
    intro k; intros; rename_i hk hj
    have hkC : k < T.tab.C := by omega
    have hd : decide ((k : Int) < (T.tab.C : Int)) = true := by simp; omega
    have h0 : (0 : Int) ≤ (k : Int) := by omega
    have h0i : (0 : Int) ≤ (i : Int) := by omega
    obtain ⟨c, hcm, hc1, hc2, hc3, _, _⟩ := TabV.at hT hO hi hkC
    obtain ⟨x, hx, _⟩ := get_drop (show k < b.l.length by omega)
    have hz := sz_of (hM.each b (List.mem_of_getElem? hb)) hx
    have hx' : (b.l.map (AVal.int .i64))[k]? = some (.int .i64 x) := by simp [hx]
    have hm := matOf_get hb hx
    cases hp : (T.tab.cell i k).has (matOf M.m i k) with
    | false =>
      have hp' := hp
      rw [hm] at hp'
      simp only [go_sem, simprocAttr, Try.f39, alH, boxT]
      rw [exec_loop]
      simp only [go_sem, simprocAttr, hd, h0, h0i, Int.toNat_natCast, hc1, hc2, hc3, hx', hz, hp', allN, hp]
      exact ⟨_, frP (by kernel_rfl)⟩
    | true =>
      have hp' := hp
      rw [hm] at hp'
      have hxb := hO.cell_ok hi hkC
      have hxh := Spn.has_iff.1 hp
      have b1 := sumN_bd (n := k) (f := matOf M.m i) (B := 2 ^ 30) hj
      have b2 := sumN_bd (n := i) (f := fun i => matOf M.m i k) (B := 2 ^ 30) fun j hj => hB j hj k hkC
      have g2 : (intsV T.tab.C (cS (matOf M.m) i k))[k]? = some (.int .i64 (sumN i fun i => matOf M.m i k)) := by rw [intsV_get hkC]; simp [cS]
      have w1 : IntKind.i64.wrap (sumN k (matOf M.m i) + x) = sumN (k + 1) (matOf M.m i) := by rw [i64_in _ (by omega)]; simp only [sumN, hm]
      have w2 : IntKind.i64.wrap (sumN i (fun i => matOf M.m i k) + x) = sumN i (fun i => matOf M.m i k) + x := i64_in _ (by omega)
      have s2 : (intsV T.tab.C (cS (matOf M.m) i k)).set k (.int .i64 (sumN i (fun i => matOf M.m i k) + x)) = intsV T.tab.C (cS (matOf M.m) i (k + 1)) := intsV_set fun j hj => by
        unfold cS
        by_cases e : j = k
        · subst e; rw [if_pos (by omega), if_pos rfl]; simp only [sumN]; rw [hm]
        · rw [if_neg e]
          by_cases e2 : j < k
          · rw [if_pos e2, if_pos (by omega)]
          · rw [if_neg e2, if_neg (by omega)]
      have ih' := ih (k + 1)
      simp only [go_sem, simprocAttr, Try.f39, hz, alH, boxT] at ih' ⊢
      rw [exec_loop]
      simp only [go_sem, simprocAttr, hd, h0, h0i, Int.toNat_natCast, hc1, hc2, hc3, hx', hz, hp', allN, hp, g2, w1, w2, s2, wrap_succ (show k < 2 ^ 63 - 1 by omega)]
      refine ih' _ _ _ _ _ _ _ _ _ _ _ _ _ _ _ _ _ _ _ _ _ _ _ _ _ _ _ _ _ _ _ _ _ _ _ _ _ _ _ _ _ _ _ _ _ _ _ _ _ _ _ _ _ _ _ _ _ _ _ _ _ _ _ _ _ _ _ _ _ _ _ _ _ _ _ _ _ _ _ _ _ _ _ (by omega) fun j hj' => ?_
      by_cases e : j = k
      · subst e; omega
      · exact hj j (by omega)

theorem al_outer {T : TabV} {M : MatV} (hT : T.Wf) (hO : T.tab.Ok) (hM : M.Wf) (hl : M.rows.length = T.tab.R) : ∀ (n i : Nat) (j0 j1 j3 j4 j7 j8 j9 j10 j11 j12 j13 j14 j15 j16 j17 j18 j19 j20 j21 j22 j23 j27 j28 j29 j30 j31 j32 j33 j34 j35 j36 j37 j38 j39 j40 j41 j42 j43 j44 j45 j46 j47 j48 j49 j50 j51 j52 j53 j54 j55 j56 j57 j58 j59 j60 j61 j62 j63 j64 j65 j66 j67 j68 j69 j70 j71 j72 j73 j74 j75 j76 j77 j78 j79 j80 j81 j82 j83 j84 j85 j86 j87 j88 j89 j90 j91 j92 j93 : AVal), i + n = T.tab.R → Before T.tab (matOf M.m) i →
    Goes (execT env (Try.f39.at [1, 1, 1, 1, 0, 1, 0]) ⟨[j0, j1, .ptr 0 0 0 0, j3, j4, .func 101 [] [], .ref 1 0 0 T.tab.C false, j7, j8, j9, j10, j11, j12, j13, j14, j15, j16, j17, j18, j19, j20, j21, j22, j23, .lit M.cl M.sz (M.rows.map SlI.v), .int .i64 T.tab.R, .int .i64 i, j27, j28, j29, j30, j31, j32, j33, j34, j35, j36, j37, j38, j39, j40, j41, j42, j43, j44, j45, j46, j47, j48, j49, j50, j51, j52, j53, j54, j55, j56, j57, j58, j59, j60, j61, j62, j63, j64, j65, j66, j67, j68, j69, j70, j71, j72, j73, j74, j75, j76, j77, j78, j79, j80, j81, j82, j83, j84, j85, j86, j87, j88, j89, j90, j91, j92, j93], alH T M i 0, [], 0, []⟩) fun ex st =>
      if allN (rowGd T.tab M.m) i n then ex = .exit 0 ∧ Before T.tab (matOf M.m) T.tab.R ∧ FrP 94 [(2, .ptr 0 0 0 0), (5, .func 101 [] []), (6, .ref 1 0 0 T.tab.C false)] (alH T M T.tab.R 0) [] 0 [] st
      else ex = .ret ∧ ∃ (H : Heap), FrP 94 [(4, .bool false)] H [] 0 [] st := by
  have hR8 := hO.R8
  have hC8 := hO.C8
  intro n
  induction n with
  | zero =>
    intro i; intros; rename_i hi hB
    have hd : decide ((i : Int) < (T.tab.R : Int)) = false := by simp; omega
    have : i = T.tab.R := by omega
    subst this
    simp only [go_sem, simprocAttr, Try.f39]
    rw [exec_loop]
    simp only [go_sem, simprocAttr, hd]
    exact ⟨hB, frP (by kernel_rfl)⟩
  | succ n ih =>
    intro i; intros; rename_i hi hB
    have hiR : i < T.tab.R := by omega
    have hd : decide ((i : Int) < (T.tab.R : Int)) = true := by simp; omega
    have h0i : (0 : Int) ≤ (i : Int) := by omega
    obtain ⟨b, hb, _⟩ := get_drop (show i < M.rows.length by omega)
    have hz := sz_of hM.sz hb
    have hbm : b ∈ M.rows := List.mem_of_getElem? hb
    have hb' : (M.rows.map SlI.v)[i]? = some (.lit b.cl b.sz (b.l.map (AVal.int .i64))) := by simp [hb, SlI.v]
    have hbl : (M.m.getD i []).length = b.l.length := by simp [MatV.m, hb]
    have hbb := hM.le b hbm
    have lc : T.cols.l.length = T.tab.C := rfl
    have el : decide ((b.l.length : Int) = (T.tab.C : Int)) = decide (b.l.length = T.tab.C) := decide_eq_decide.2 (by omega)
    obtain ⟨r1, r2⟩ := TabV.rowAt hT hiR
    cases hw : decide (b.l.length = T.tab.C) with
    | false =>
      have hg : rowGd T.tab M.m i = false := by unfold rowGd; rw [hbl, hw]; rfl
      simp only [go_sem, simprocAttr, Try.f39, alH, boxT]
      rw [exec_loop]
      simp only [go_sem, simprocAttr, hd, h0i, Int.toNat_natCast, hb', hz, List.length_map, lc, el, hw, allN, hg]
      exact ⟨_, frP (by kernel_rfl)⟩
    | true =>
      have hwl := of_decide_eq_true hw
      obtain ⟨ex, st, hx, hp⟩ := al_inner hT hO hM hiR hb hwl hB T.tab.C 0 _ _ _ _ _ _ _ _ _ _ _ _ _ _ _ _ _ _ _ _ _ _ _ _ _ _ _ _ _ _ _ _ _ _ _ _ _ _ _ _ _ _ _ _ _ _ _ _ _ _ _ _ _ _ _ _ _ _ _ _ _ _ _ _ _ _ _ _ _ _ _ _ _ _ _ _ _ _ _ _ _ _ _ (by omega) (fun j hj => by omega)
      have hs0 : sumN 0 (matOf M.m i) = 0 := rfl
      have dcc : decide ((T.tab.C : Int) = (T.tab.C : Int)) = true := decide_eq_true rfl
      simp only [go_sem, simprocAttr, Try.f39, hz, Int.ofNat_zero, Int.natCast_zero, hs0, alH, boxT] at hx
      cases hr : cellsGd T.tab (matOf M.m) i with
      | false =>
        have hr' : allN (fun k => (T.tab.cell i k).has (matOf M.m i k)) 0 T.tab.C = false := hr
        have hg : rowGd T.tab M.m i = false := by unfold rowGd; rw [hbl, hw, hr]; rfl
        rw [hr', if_neg (by simp)] at hp
        obtain ⟨rfl, H, jp, rfl⟩ := hp
        simp only [go_sem, simprocAttr, Try.f39, hz, alH, boxT]
        rw [exec_loop]
        simp only [go_sem, simprocAttr, hd, h0i, Int.toNat_natCast, hb', hz, List.length_map, lc, hwl, dcc]
        rw [hx]
        simp only [go_sem, simprocAttr, allN, hg]
        exact ⟨_, frP (by kernel_rfl)⟩
      | true =>
        have hr' : allN (fun k => (T.tab.cell i k).has (matOf M.m i k)) 0 T.tab.C = true := hr
        rw [hr', if_pos rfl] at hp
        obtain ⟨rfl, hnow, jp, rfl⟩ := hp
        cases hs : (T.tab.row i).has (sumN T.tab.C (matOf M.m i)) with
        | false =>
          have hg : rowGd T.tab M.m i = false := by unfold rowGd; rw [hbl, hw, hr, hs]; rfl
          simp only [go_sem, simprocAttr, Try.f39, hz, alH, boxT]
          rw [exec_loop]
          simp only [go_sem, simprocAttr, hd, h0i, Int.toNat_natCast, hb', hz, List.length_map, lc, hwl, dcc]
          rw [hx]
          simp only [go_sem, simprocAttr, alH, boxT, allN, hg, h0i, Int.toNat_natCast, r1, r2, hs]
          exact ⟨_, frP (by kernel_rfl)⟩
        | true =>
          have hg : rowGd T.tab M.m i = true := by unfold rowGd; rw [hbl, hw, hr, hs]; rfl
          have q2 : intsV T.tab.C (cS (matOf M.m) i T.tab.C) = intsV T.tab.C (cS (matOf M.m) (i + 1) 0) := by
            refine intsV_congr fun j hj => ?_
            unfold cS
            rw [if_pos hj, if_neg (by omega)]
          have ih' := ih (i + 1)
          simp only [go_sem, simprocAttr, Try.f39, hz, alH, boxT] at ih' ⊢
          rw [exec_loop]
          simp only [go_sem, simprocAttr, hd, h0i, Int.toNat_natCast, hb', hz, List.length_map, lc, hwl, dcc]
          rw [hx]
          simp only [go_sem, simprocAttr, hz, alH, boxT, allN, hg, h0i, Int.toNat_natCast, r1, r2, hs, q2, wrap_succ (show i < 2 ^ 63 - 1 by omega)]
          refine ih' _ _ _ _ _ _ _ _ _ _ _ _ _ _ _ _ _ _ _ _ _ _ _ _ _ _ _ _ _ _ _ _ _ _ _ _ _ _ _ _ _ _ _ _ _ _ _ _ _ _ _ _ _ _ _ _ _ _ _ _ _ _ _ _ _ _ _ _ _ _ _ _ _ _ _ _ _ _ _ _ _ _ _ _ _ _ _ _ (by omega) fun i' hi' k hk => ?_
          by_cases e : i' = i
          · subst e; exact hnow k hk
          · exact hB i' (by omega) k hk

theorem al_cols {T : TabV} (hT : T.Wf) (hO : T.tab.Ok) (f : Nat → Int) : ∀ (n i : Nat) (j0 j1 j3 j4 j6 j7 j8 j9 j10 j11 j12 j13 j14 j15 j16 j17 j18 j19 j20 j21 j22 j23 j24 j25 j26 j27 j28 j29 j30 j31 j32 j33 j34 j35 j36 j37 j38 j39 j40 j41 j42 j43 j44 j45 j46 j47 j48 j49 j50 j51 j52 j53 j54 j55 j56 j57 j58 j59 j60 j61 j62 j63 j64 j65 j66 j67 j68 j69 j70 j71 j72 j73 j74 j75 j76 j80 j81 j82 j83 j84 j85 j86 j87 j88 j89 j90 j91 j92 j93 : AVal), i + n = T.tab.C →
    Goes (execT env (Try.f39.at [1, 1, 1, 1, 1, 0, 1, 0]) ⟨[j0, j1, .ptr 0 0 0 0, j3, j4, .func 101 [] [], j6, j7, j8, j9, j10, j11, j12, j13, j14, j15, j16, j17, j18, j19, j20, j21, j22, j23, j24, j25, j26, j27, j28, j29, j30, j31, j32, j33, j34, j35, j36, j37, j38, j39, j40, j41, j42, j43, j44, j45, j46, j47, j48, j49, j50, j51, j52, j53, j54, j55, j56, j57, j58, j59, j60, j61, j62, j63, j64, j65, j66, j67, j68, j69, j70, j71, j72, j73, j74, j75, j76, .ref 1 0 0 T.tab.C false, .int .i64 T.tab.C, .int .i64 i, j80, j81, j82, j83, j84, j85, j86, j87, j88, j89, j90, j91, j92, j93], [boxT T, .cells 0 1 true (intsV T.tab.C f)], [], 0, []⟩) fun ex st =>
      if allN (fun i => (T.tab.col i).has (f i)) i n then ex = .exit 4 ∧ ∃ (H : Heap), FrP 94 [] H [] 0 [] st
      else ex = .ret ∧ ∃ (H : Heap), FrP 94 [(4, .bool false)] H [] 0 [] st := by
  have hC8 := hO.C8
  intro n
  induction n with
  | zero =>
    intro i; intros; rename_i hi
    have hd : decide ((i : Int) < (T.tab.C : Int)) = false := by simp; omega
    simp only [go_sem, simprocAttr, Try.f39]
    rw [exec_loop]
    simp only [go_sem, simprocAttr, hd]
    exact ⟨_, frP (by kernel_rfl)⟩
  | succ n ih =>
    intro i; intros; rename_i hi
    have hiC : i < T.tab.C := by omega
    have hd : decide ((i : Int) < (T.tab.C : Int)) = true := by simp; omega
    have h0i : (0 : Int) ≤ (i : Int) := by omega
    obtain ⟨r1, r2⟩ := TabV.colAt hT hiC
    have g1 := intsV_get (f := f) hiC
    cases hp : (T.tab.col i).has (f i) with
    | false =>
      simp only [go_sem, simprocAttr, Try.f39, boxT]
      rw [exec_loop]
      simp only [go_sem, simprocAttr, hd, h0i, Int.toNat_natCast, r1, r2, g1, allN, hp]
      exact ⟨_, frP (by kernel_rfl)⟩
    | true =>
      have ih' := ih (i + 1)
      simp only [go_sem, simprocAttr, Try.f39, boxT] at ih' ⊢
      rw [exec_loop]
      simp only [go_sem, simprocAttr, hd, h0i, Int.toNat_natCast, r1, r2, g1, allN, hp, wrap_succ (show i < 2 ^ 63 - 1 by omega)]
      exact ih' _ _ _ _ _ _ _ _ _ _ _ _ _ _ _ _ _ _ _ _ _ _ _ _ _ _ _ _ _ _ _ _ _ _ _ _ _ _ _ _ _ _ _ _ _ _ _ _ _ _ _ _ _ _ _ _ _ _ _ _ _ _ _ _ _ _ _ _ _ _ _ _ _ _ _ _ _ _ _ _ _ _ _ _ _ _ _ _ _ (by omega)

def alwB (t : Tab) (m : List (List Int)) : Bool := dimsB t m && fitsB t (matOf m)

def alw' (t : Tab) (m : List (List Int)) : Bool := decide (m.length = t.R) && (allN (rowGd t m) 0 t.R && allN (fun k => (t.col k).has (sumN t.R fun i => matOf m i k)) 0 t.C)

theorem alw_eq (t : Tab) (m : List (List Int)) : alwB t m = alw' t m := by
  rw [Bool.eq_iff_iff]
  unfold alwB alw' dimsB fitsB
  simp only [Bool.and_eq_true, decide_eq_true_eq, allN_iff, List.all_eq_true, rowGd, cellsGd]
  constructor
  · rintro ⟨⟨h1, h2⟩, h3, h4, h5⟩
    refine ⟨h1, fun j a b => ⟨?_, h3 j a b, h4 j a b⟩, h5⟩
    exact h2 _ (getD_mem (by omega) [])
  · rintro ⟨h1, h2, h3⟩
    refine ⟨⟨h1, fun l hl => ?_⟩, fun j a b => (h2 j a b).2.1, fun j a b => (h2 j a b).2.2, h3⟩
    obtain ⟨i, hi, e⟩ := List.getElem_of_mem hl
    have := (h2 i (by omega) (by omega)).1
    rw [List.getD_eq_getElem?_getD, List.getElem?_eq_getElem hi] at this
    simpa [e] using this

theorem allowed_call {T : TabV} {M : MatV} (hT : T.Wf) (hO : T.tab.Ok) (hM : M.Wf) (ro : Nat) (H : Heap) (nx : Nat) : callT env 39 [T.v, M.v] ro H nx = some (.ret (.bool (alwB T.tab M.m)), .ups []) := by
  have hC8 := hO.C8
  have hR8 := hO.R8
  have : ∃ H', runT env 39 [T.v, M.v] [] 0 = some (.ret (.bool (alwB T.tab M.m)), H') := by
    rw [alw_eq]
    unfold alw'
    have hll := hM.len
    have lr : T.rows.l.length = T.tab.R := rfl
    have lc : T.cols.l.length = T.tab.C := rfl
    have lm : M.m.length = M.rows.length := by simp [MatV.m]
    have el : decide ((M.rows.length : Int) = (T.tab.R : Int)) = decide (M.rows.length = T.tab.R) := decide_eq_decide.2 (by omega)
    rw [lm, run_unfold fn39 rfl]
    cases h1 : decide (M.rows.length = T.tab.R) with
    | false =>
      simp only [go_sem, simprocAttr, Try.f39, MatV.v, List.length_map, lr, el, h1, unwind, modeEx, resultsOf, one]
      exact ⟨_, rfl⟩
    | true =>
      have h1' := of_decide_eq_true h1
      have d1 : decide ((T.tab.R : Int) = (T.tab.R : Int)) = true := decide_eq_true rfl
      have c0 : (0 : Int) ≤ (T.tab.C : Int) := by omega
      have m1 : T.tab.C * 9 ≤ maxBytes := by unfold maxBytes; omega
      have e0 : intsV T.tab.C (cS (matOf M.m) 0 0) = List.replicate T.tab.C (AVal.int .i64 0) := by
        rw [intsV_rep]
        exact intsV_congr fun j hj => by unfold cS; rw [if_neg (by omega)]; rfl
      obtain ⟨ex, st, hx, hp⟩ := al_outer hT hO hM h1' T.tab.R 0 _ _ _ _ _ _ _ _ _ _ _ _ _ _ _ _ _ _ _ _ _ _ _ _ _ _ _ _ _ _ _ _ _ _ _ _ _ _ _ _ _ _ _ _ _ _ _ _ _ _ _ _ _ _ _ _ _ _ _ _ _ _ _ _ _ _ _ _ _ _ _ _ _ _ _ _ _ _ _ _ _ _ _ _ _ _ _ _ (by omega) (fun i' hi' => by omega)
      simp only [go_sem, simprocAttr, Try.f39, Int.ofNat_zero, Int.natCast_zero, alH, boxT, e0] at hx
      simp only [go_sem, simprocAttr, Try.f39, MatV.v, List.length_map, lr, lc, h1', d1, Int.toNat_natCast, c0, m1]
      rw [hx]
      cases hr : allN (rowGd T.tab M.m) 0 T.tab.R with
      | false =>
        rw [hr, if_neg (by simp)] at hp
        obtain ⟨rfl, H2, jp, rfl⟩ := hp
        simp only [go_sem, simprocAttr, unwind, modeEx, resultsOf, one]
        exact ⟨_, rfl⟩
      | true =>
        rw [hr, if_pos rfl] at hp
        obtain ⟨rfl, hB, jp, rfl⟩ := hp
        obtain ⟨ex2, st2, hx2, hp2⟩ := al_cols hT hO (cS (matOf M.m) T.tab.R 0) T.tab.C 0 _ _ _ _ _ _ _ _ _ _ _ _ _ _ _ _ _ _ _ _ _ _ _ _ _ _ _ _ _ _ _ _ _ _ _ _ _ _ _ _ _ _ _ _ _ _ _ _ _ _ _ _ _ _ _ _ _ _ _ _ _ _ _ _ _ _ _ _ _ _ _ _ _ _ _ _ _ _ _ _ _ _ _ _ _ _ _ _ _ (by omega)
        have e2 : allN (fun i => (T.tab.col i).has (cS (matOf M.m) T.tab.R 0 i)) 0 T.tab.C = allN (fun k => (T.tab.col k).has (sumN T.tab.R fun i => matOf M.m i k)) 0 T.tab.C := allN_congr fun j _ _ => by unfold cS; rw [if_neg (by omega)]
        rw [e2] at hp2
        simp only [go_sem, simprocAttr, Try.f39, Int.ofNat_zero, Int.natCast_zero, boxT] at hx2
        simp only [go_sem, simprocAttr, alH, boxT]
        rw [hx2]
        cases h3 : allN (fun k => (T.tab.col k).has (sumN T.tab.R fun i => matOf M.m i k)) 0 T.tab.C with
        | false =>
          rw [h3, if_neg (by simp)] at hp2
          obtain ⟨rfl, H2, jq, rfl⟩ := hp2
          simp only [go_sem, simprocAttr, unwind, modeEx, resultsOf, one]
          exact ⟨_, rfl⟩
        | true =>
          rw [h3, if_pos rfl] at hp2
          obtain ⟨rfl, H2, jq, rfl⟩ := hp2
          simp only [go_sem, simprocAttr, unwind, modeEx, resultsOf, one]
          exact ⟨_, rfl⟩
  obtain ⟨H', h⟩ := this
  exact call_pure rfl rfl rfl (by simp [underL, TabV.under, MatV.under]) h rfl ro H nx

set_option maxRecDepth 10000
set_option maxHeartbeats 4000000

set_option maxRecDepth 10000
set_option maxHeartbeats 4000000

def nwF : List AVal := [.func 63 [] [.ptr 2 0 0 0, .ptr 3 0 0 0], .func 64 [] [.ptr 2 0 0 0], .func 65 [] [.ptr 3 0 0 0], .func 66 [] [], .func 67 [] [.ptr 5 0 0 0]]
def nwH (T W : TabV) (x : Spn) (a b : Int) (c : CutA) : Heap := [boxT T, spB x, intB a, intB b, boxT W, .cells 0 2 false [c.v], .cells 0 1 false nwF]

def AskOk (T W : TabV) (H : Heap) (fv : AVal) : Prop := ∃ (k : Nat) (cs : List AVal) (x y : Spn) (us us' : List (Nat × Blk)), fv = .func k [] cs ∧
  callT env k (W.v :: cs) 0 H 7 = some (.ret (.tuple [spV x, .int .i64 0]), .ups us) ∧ putU H us = H ∧
  callT env k (T.v :: cs) 0 (H ++ [spB x]) 8 = some (.ret (.tuple [spV y, .int .i64 0]), .ups us') ∧ putU (H ++ [spB x]) us' = H ++ [spB x] ∧ y.lo ≤ x.lo ∧ x.hi ≤ y.hi

theorem nw_loop {T W : TabV} (x : Spn) (a b : Int) (c : CutA) (hf : ∀ fv ∈ nwF, AskOk T W (nwH T W x a b c) fv) : ∀ (n i : Nat) (j0 j1 j2 j3 j4 j5 j6 j7 j8 j10 j11 j12 j13 j14 j15 j16 j17 j18 j20 j21 j22 j23 j24 j25 j26 j27 j28 j29 j30 j31 j32 j33 j34 j35 j36 j37 j38 j39 j40 j41 j42 j43 j44 j45 j46 j47 j48 j49 j50 j51 j52 j53 j54 j55 j56 j57 j58 j59 j60 j61 j62 j63 j64 j65 j66 j67 j68 j69 j70 j71 j72 j73 j74 j75 j76 j77 j78 j79 j80 j81 j82 j83 j84 j85 j86 j87 j88 j89 j90 j91 j92 j93 j94 j95 j96 j97 j98 j99 j100 j101 j102 j103 j104 j105 j106 j107 j108 j109 j110 j111 j112 j113 j114 j115 j116 j117 j118 j119 j120 j121 j122 j123 j124 j125 j126 j127 j128 j129 j130 j131 j132 j133 j134 j135 j136 j137 j138 j139 j140 j141 j142 j143 j144 j145 j146 j147 j148 j149 j150 j151 j152 j153 j154 j155 j156 j157 j158 j162 j163 j164 j165 j166 j167 j168 j169 j170 j171 j172 j173 j174 j175 j176 j177 j178 j179 j180 j181 j182 j183 j184 j185 j186 j187 j188 j189 : AVal), i + n = 5 →
    Goes (execT env (Try.f17.at [1, 1, 1, 1, 1, 1, 1, 1, 1, 1, 0, 1, 0]) ⟨[j0, j1, j2, j3, j4, j5, j6, j7, j8, .ptr 0 0 0 0, j10, j11, j12, j13, j14, j15, j16, j17, j18, .ptr 4 0 0 0, j20, j21, j22, j23, j24, j25, j26, j27, j28, j29, j30, j31, j32, j33, j34, j35, j36, j37, j38, j39, j40, j41, j42, j43, j44, j45, j46, j47, j48, j49, j50, j51, j52, j53, j54, j55, j56, j57, j58, j59, j60, j61, j62, j63, j64, j65, j66, j67, j68, j69, j70, j71, j72, j73, j74, j75, j76, j77, j78, j79, j80, j81, j82, j83, j84, j85, j86, j87, j88, j89, j90, j91, j92, j93, j94, j95, j96, j97, j98, j99, j100, j101, j102, j103, j104, j105, j106, j107, j108, j109, j110, j111, j112, j113, j114, j115, j116, j117, j118, j119, j120, j121, j122, j123, j124, j125, j126, j127, j128, j129, j130, j131, j132, j133, j134, j135, j136, j137, j138, j139, j140, j141, j142, j143, j144, j145, j146, j147, j148, j149, j150, j151, j152, j153, j154, j155, j156, j157, j158, .ref 6 0 0 5 false, .int .i64 5, .int .i64 i, j162, j163, j164, j165, j166, j167, j168, j169, j170, j171, j172, j173, j174, j175, j176, j177, j178, j179, j180, j181, j182, j183, j184, j185, j186, j187, j188, j189], nwH T W x a b c, [], 0, [159]⟩) fun ex s =>
      ex = .exit 0 ∧ FrP 190 [] (nwH T W x a b c) [] 0 [159] s := by
  intro n
  induction n with
  | zero =>
    intro i; intros; rename_i hi'
    have hd : decide ((i : Int) < 5) = false := by simp; omega
    simp only [go_sem, simprocAttr, Try.f17]
    rw [exec_loop]
    simp only [go_sem, simprocAttr, hd]
    exact frP (by kernel_rfl)
  | succ n ih =>
    intro i; intros; rename_i hi'
    have hd : decide ((i : Int) < 5) = true := by simp; omega
    have i0 : (0 : Int) ≤ (i : Int) := by omega
    obtain ⟨fv, hm⟩ : ∃ m, nwF[i]? = some m := ⟨nwF[i]'(by show i < 5; omega), List.getElem?_eq_getElem (by show i < 5; omega)⟩
    have dL : decide ((i : Int) < 5) = true := hd
    obtain ⟨k, cs, y, z, us, us', rfl, c1, p1, c2, p2, e1, e2⟩ := hf fv (List.mem_of_getElem? hm)
    have wc : ∀ H nx, callT env 43 [spV y, spV z] 0 H nx = some (.ret (.bool true), .ups []) := fun H nx => by
      rw [within_law_call, decide_eq_true e1, decide_eq_true e2]; rfl
    have ih' := ih (i + 1)
    simp only [nwH, boxT, spB, intB, List.cons_append, List.nil_append] at c1 p1 c2 p2
    simp only [go_sem, simprocAttr, Try.f17, nwH, boxT, spB, intB] at ih' ⊢
    rw [exec_loop]
    simp only [go_sem, simprocAttr, hd, i0, Int.toNat_natCast, hm, c1, p1, c2, p2, wc, trunc, wrap_succ (show i < 2 ^ 63 - 1 by omega)]
    exact ih' _ _ _ _ _ _ _ _ _ _ _ _ _ _ _ _ _ _ _ _ _ _ _ _ _ _ _ _ _ _ _ _ _ _ _ _ _ _ _ _ _ _ _ _ _ _ _ _ _ _ _ _ _ _ _ _ _ _ _ _ _ _ _ _ _ _ _ _ _ _ _ _ _ _ _ _ _ _ _ _ _ _ _ _ _ _ _ _ _ _ _ _ _ _ _ _ _ _ _ _ _ _ _ _ _ _ _ _ _ _ _ _ _ _ _ _ _ _ _ _ _ _ _ _ _ _ _ _ _ _ _ _ _ _ _ _ _ _ _ _ _ _ _ _ _ _ _ _ _ _ _ _ _ _ _ _ _ _ _ _ _ _ _ _ _ _ _ _ _ _ _ _ _ _ _ _ _ _ _ _ _ _ _ _ _ (by omega)

theorem fits_meet {t : Tab} (hO : t.Ok) {r c : Nat} (hr : r < t.R) (hc : c < t.C) {x : Spn} (s : Nat → Nat → Int) : Fits (t.setCell r c (meetS x (t.cell r c))) s ↔ Fits t s ∧ x.lo ≤ s r c ∧ s r c ≤ x.hi := by
  have m1 : (meetS x (t.cell r c)).lo = max x.lo (t.cell r c).lo := rfl
  have m2 : (meetS x (t.cell r c)).hi = min x.hi (t.cell r c).hi := rfl
  rw [fits_narrow hO hr hc (by omega) (by omega), m1, m2]
  constructor
  · rintro ⟨h, h1, h2⟩
    exact ⟨h, by omega, by omega⟩
  · rintro ⟨h, h1, h2⟩
    have := h.cell r c hr hc
    exact ⟨h, by omega, by omega⟩

theorem cm_meet {t : Tab} (hO : t.Ok) {r c : Nat} (hr : r < t.R) (hc : c < t.C) {x : Spn} (hx : (meetS x (t.cell r c)).ok = true) (m : List (List Int)) : decide (cmS (t.setCell r c (meetS x (t.cell r c))) m = 0) = (alwB t m && (decide (x.lo ≤ matOf m r c) && decide (matOf m r c ≤ x.hi))) := by
  have hok := Tab.ok_iff.2 (setCell_ok hO (k := c) hr hx)
  have hd : dimsB (t.setCell r c (meetS x (t.cell r c))) m = dimsB t m := rfl
  unfold cmS alwB
  rw [hok, if_pos rfl, hd]
  cases dimsB t m with
  | false => rfl
  | true =>
    rw [if_pos rfl, Bool.true_and, Bool.eq_iff_iff]
    have hf := fits_meet hO hr hc (x := x) (matOf m)
    rw [← fitsB_iff, ← fitsB_iff] at hf
    simp only [Bool.and_eq_true, decide_eq_true_eq]
    rw [← hf]
    cases fitsB (t.setCell r c (meetS x (t.cell r c))) (matOf m) <;> simp

theorem askOk {T W : TabV} {H : Heap} {k : Nat} {cs : List AVal} {x y : Spn} {us us' : List (Nat × Blk)} {μ : (Nat → Nat → Int) → Int} (hsub : ∀ s, Fits W.tab s → Fits T.tab s) (hx : EndsP W.tab μ x) (hy : EndsP T.tab μ y)
    (c1 : callT env k (W.v :: cs) 0 H 7 = some (.ret (.tuple [spV x, .int .i64 0]), .ups us)) (p1 : putU H us = H)
    (c2 : callT env k (T.v :: cs) 0 (H ++ [spB x]) 8 = some (.ret (.tuple [spV y, .int .i64 0]), .ups us')) (p2 : putU (H ++ [spB x]) us' = H ++ [spB x]) : AskOk T W H (.func k [] cs) :=
  ⟨k, cs, x, y, us, us', rfl, c1, p1, c2, p2, hx.sub hy hsub⟩

theorem narrower_law (a0 a1 a2 a3 a4 a5 a6 a7 a8 : List AVal) (h0 : FitT env 8 25 a0) (h1 : FitT env 8 46 a1) (h2 : FitT env 8 3 a2) (h3 : FitT env 8 3 a3) (h4 : FitT env 8 39 a4) (h5 : FitT env 8 3 a5) (h6 : FitT env 8 3 a6) (h7 : FitT env 8 5 a7) (h8 : FitT env 8 5 a8) : ∃ H', runT env 17 [pack ⟨.struct [(22, 0), (22, 1), (23, 2)], 3, 72, .agg [.lit true 0 [], .lit true 0 [], .lit true 0 []]⟩ a0, pack ⟨.slice 51, 1, 24, .lit true 0 []⟩ a1, pack ⟨.int .i64, 1, 8, .int .i64 (0)⟩ a2, pack ⟨.int .i64, 1, 8, .int .i64 (0)⟩ a3, pack ⟨.struct [(3, 0), (3, 1)], 2, 16, .agg [.int .i64 (0), .int .i64 (0)]⟩ a4, pack ⟨.int .i64, 1, 8, .int .i64 (0)⟩ a5, pack ⟨.int .i64, 1, 8, .int .i64 (0)⟩ a6, pack ⟨.int .u8, 1, 1, .int .u8 (0)⟩ a7, pack ⟨.int .u8, 1, 1, .int .u8 (0)⟩ a8] [] 0 = some (.ret (.bool true), H') := by
  obtain ⟨T, hT, e0⟩ := fit_tab (m := 3) h0
  obtain ⟨M, hM, rfl⟩ := fit_mat h1
  obtain ⟨row, rfl, _⟩ := fit_int ti3 h2
  obtain ⟨col, rfl, _⟩ := fit_int ti3 h3
  obtain ⟨x, rfl, _⟩ := fit_spn (m := 6) h4
  obtain ⟨a, rfl, _⟩ := fit_int ti3 h5
  obtain ⟨b, rfl, _⟩ := fit_int ti3 h6
  obtain ⟨rs, rfl, hrs⟩ := fit_int ti5 h7
  obtain ⟨cs, rfl, hcs⟩ := fit_int ti5 h8
  show ∃ H', runT env 17 [.agg a0, M.v, .int .i64 row, .int .i64 col, spV x, .int .i64 a, .int .i64 b, .int .u8 rs, .int .u8 cs] [] 0 = some (.ret (.bool true), H')
  rw [e0]
  have wk := work_call T hT
  have lr : T.rows.l.length = T.tab.R := rfl
  have lc : T.cols.l.length = T.tab.C := rfl
  rw [run_unfold fn17 rfl]
  cases hw : workB T.tab with
  | false =>
    simp only [go_sem, simprocAttr, Try.f17, wk, hw, unwind, modeEx, resultsOf, one]
    exact ⟨_, rfl⟩
  | true =>
    have hO := (work_ok hw).1
    have hR8 := hO.R8
    have hC8 := hO.C8
    have hok := Tab.ok_iff.2 hO
    cases d1 : decide (a < 0) with
    | true =>
      simp only [go_sem, simprocAttr, Try.f17, wk, hw, d1, unwind, modeEx, resultsOf, one]
      exact ⟨_, rfl⟩
    | false =>
    cases d2 : decide ((T.tab.R : Int) ≤ a) with
    | true =>
      simp only [go_sem, simprocAttr, Try.f17, wk, hw, d1, List.length_map, lr, d2, unwind, modeEx, resultsOf, one]
      exact ⟨_, rfl⟩
    | false =>
    cases d3 : decide (b < 0) with
    | true =>
      simp only [go_sem, simprocAttr, Try.f17, wk, hw, d1, List.length_map, lr, d2, d3, unwind, modeEx, resultsOf, one]
      exact ⟨_, rfl⟩
    | false =>
    cases d4 : decide ((T.tab.C : Int) ≤ b) with
    | true =>
      simp only [go_sem, simprocAttr, Try.f17, wk, hw, d1, List.length_map, lr, lc, d2, d3, d4, unwind, modeEx, resultsOf, one]
      exact ⟨_, rfl⟩
    | false =>
    have wc := With_call hT row col x
    unfold withV at wc
    rw [if_pos hok] at wc
    cases ho : (outB T.tab row col || !x.ok) with
    | true =>
      rw [if_pos ho] at wc
      simp only [go_sem, simprocAttr, Try.f17, wk, hw, d1, List.length_map, lr, lc, d2, d3, d4, wc, noTab, unwind, modeEx, resultsOf, one]
      exact ⟨_, rfl⟩
    | false =>
      rw [ho, if_neg (by decide)] at wc
      obtain ⟨ho', hx⟩ := Bool.or_eq_false_iff.1 ho
      have hx : x.ok = true := by simpa using hx
      have d : decide (row < 0) = false ∧ decide ((T.tab.R : Int) ≤ row) = false ∧ decide (col < 0) = false ∧ decide ((T.tab.C : Int) ≤ col) = false := by
        unfold outB at ho'
        simpa only [Bool.or_eq_false_iff] using ho'
      obtain ⟨d5, d6, d7, d8⟩ := d
      obtain ⟨r, c, rfl, rfl, hr, hc⟩ := outB_no ho'
      obtain ⟨i, rfl, hi⟩ : ∃ i : Nat, a = i ∧ i < T.tab.R := ⟨a.toNat, by simp at d1; omega, by simp at d1 d2; omega⟩
      obtain ⟨k, rfl, hk⟩ : ∃ k : Nat, b = k ∧ k < T.tab.C := ⟨b.toNat, by simp at d3; omega, by simp at d3 d4; omega⟩
      rw [Int.toNat_natCast, Int.toNat_natCast] at wc
      have r0 : (0 : Int) ≤ (r : Int) := by omega
      have c0 : (0 : Int) ≤ (c : Int) := by omega
      by_cases hm : (meetS x (T.tab.cell r c)).hi < (meetS x (T.tab.cell r c)).lo
      · rw [if_pos hm] at wc
        simp only [go_sem, simprocAttr, Try.f17, wk, hw, d1, List.length_map, lr, lc, d2, d3, d4, wc, noTab, unwind, modeEx, resultsOf, one]
        exact ⟨_, rfl⟩
      · rw [if_neg hm] at wc
        have hxm := meet_ok (y := T.tab.cell r c) hx (by omega)
        have hO2 := setCell_ok hO (k := c) hr hxm
        have hok2 := Tab.ok_iff.2 hO2
        have hW := canon_wf hO2.R8 hO2.C8 hO2.len hO2.wid
        have hct := canon_tab (T.tab.setCell r c (meetS x (T.tab.cell r c)))
        have he := cm_meet hO hr hc hxm M.m
        have hfm := fits_meet hO hr hc (x := x)
        generalize hWv : canon (T.tab.setCell r c (meetS x (T.tab.cell r c))) = W at wc hW hct
        generalize hS : T.tab.setCell r c (meetS x (T.tab.cell r c)) = t2 at he hct hO2 hok2 hfm
        have hR2 : t2.R = T.tab.R := by rw [← hS]; rfl
        have hC2 : t2.C = T.tab.C := by rw [← hS]; rfl
        have wch := check_call W hW
        rw [hct, ckS_ok hok2] at wch
        have al := allowed_call hT hO hM
        have cm := cm_call hW hM
        rw [hct] at cm
        have pc := poss_call hW
        rw [hct] at pc
        unfold possV at pc
        rw [hok2, ckS_ok hok2, Bool.true_and] at pc
        have RW : W.tab.R = T.tab.R := by rw [hct, hR2]
        have CW : W.tab.C = T.tab.C := by rw [hct, hC2]
        cases hcan : canB t2 with
        | false =>
          rw [hcan] at pc
          cases ha : alwB T.tab M.m with
          | false =>
            rw [ha] at al he
            rw [Bool.false_and] at he
            simp only [go_sem, simprocAttr, Try.f17, wk, hw, d1, List.length_map, lr, lc, d2, d3, d4, d5, d6, d7, d8, wc, wch, al, cm, he, pc, unwind, modeEx, resultsOf, one]
            exact ⟨_, rfl⟩
          | true =>
            rw [ha] at al he
            rw [Bool.true_and] at he
            unfold alwB dimsB at ha
            simp only [Bool.and_eq_true] at ha
            have hD : DimsOk T M := ⟨by have := of_decide_eq_true ha.1.1; simpa [MatV.m] using this, fun s hs => of_decide_eq_true (List.all_eq_true.1 ha.1.2 s.l (List.mem_map.2 ⟨s, hs, rfl⟩))⟩
            obtain ⟨bm, _, _, m1, m2, m3, m4, _⟩ := MatV.at hM hD hr hc
            simp only [MatV.v, m3] at al cm
            cases b1 : decide (x.lo ≤ matOf M.m r c) <;> cases b2 : decide (matOf M.m r c ≤ x.hi) <;> rw [b1, b2] at he <;>
              (simp only [go_sem, simprocAttr, Try.f17, MatV.v, wk, hw, d1, List.length_map, lr, lc, d2, d3, d4, d5, d6, d7, d8, wc, wch, al, cm, he, r0, c0, Int.toNat_natCast, m1, m2, m3, m4, b1, b2, pc, unwind, modeEx, resultsOf, one]
               exact ⟨_, rfl⟩)
        | true =>
          rw [hcan] at pc
          have hsub : ∀ s, Fits W.tab s → Fits T.tab s := fun s hs => by
            rw [hct] at hs
            exact ((hfm s).1 hs).1
          have hcanT : canB T.tab = true := by
            obtain ⟨s, hs⟩ := canB_true.1 hcan
            exact canB_true.2 ⟨s, ((hfm s).1 hs).1⟩
          have hcanW : canB W.tab = true := by rw [hct]; exact hcan
          have hOW : W.tab.Ok := by rw [hct]; exact hO2
          have hb : ∀ p q, blkM W.tab p q = blkM T.tab p q := fun p q => by
            funext s
            unfold blkM
            rw [RW, CW]
          have hbc : bitC W.tab rs cs = bitC T.tab rs cs := by unfold bitC; rw [RW, CW]
          obtain ⟨y1, e1, f1⟩ := cell_ends hW hOW hcanW (r := i) (c := k) (by omega) (by omega)
          obtain ⟨z1, g1, k1⟩ := cell_ends hT hO hcanT hi hk
          obtain ⟨y2, e2, f2⟩ := row_ends hW hOW hcanW (r := i) (by omega)
          obtain ⟨z2, g2, k2⟩ := row_ends hT hO hcanT hi
          obtain ⟨y3, e3, f3⟩ := col_ends hW hOW hcanW (c := k) (by omega)
          obtain ⟨z3, g3, k3⟩ := col_ends hT hO hcanT hk
          obtain ⟨y4, e4, f4⟩ := total_ends hW hOW hcanW
          obtain ⟨z4, g4, k4⟩ := total_ends hT hO hcanT
          obtain ⟨y5, e5, f5⟩ := blk_ends hW hOW hcanW rs cs
          obtain ⟨z5, g5, k5⟩ := blk_ends hT hO hcanT rs cs
          rw [hb] at e1 e2 e3 e4 e5
          rw [hbc] at f5
          have A1 : AskOk T W (nwH T W x i k (bitC T.tab rs cs)) (.func 63 [] [.ptr 2 0 0 0, .ptr 3 0 0 0]) := askOk hsub e1 g1 (q_cell f1 (p := 2) (q := 3) rfl rfl (by decide) 7) rfl (q_cell k1 (p := 2) (q := 3) rfl rfl (by decide) 8) rfl
          have A2 : AskOk T W (nwH T W x i k (bitC T.tab rs cs)) (.func 64 [] [.ptr 2 0 0 0]) := askOk hsub e2 g2 (q_row f2 (p := 2) rfl 7) rfl (q_row k2 (p := 2) rfl 8) rfl
          have A3 : AskOk T W (nwH T W x i k (bitC T.tab rs cs)) (.func 65 [] [.ptr 3 0 0 0]) := askOk hsub e3 g3 (q_col f3 (p := 3) rfl 7) rfl (q_col k3 (p := 3) rfl 8) rfl
          have A4 : AskOk T W (nwH T W x i k (bitC T.tab rs cs)) (.func 66 [] []) := askOk hsub e4 g4 (q_all f4 0 _ 7) rfl (q_all k4 0 _ 8) rfl
          have A5 : AskOk T W (nwH T W x i k (bitC T.tab rs cs)) (.func 67 [] [.ptr 5 0 0 0]) := askOk hsub e5 g5 (q_blk f5 (p := 5) rfl 7) rfl (q_blk k5 (p := 5) rfl 8) rfl
          have hall : ∀ fv ∈ nwF, AskOk T W (nwH T W x i k (bitC T.tab rs cs)) fv := fun fv h => by
            unfold nwF at h
            simp only [List.mem_cons, List.not_mem_nil, or_false] at h
            rcases h with rfl | rfl | rfl | rfl | rfl
            · exact A1
            · exact A2
            · exact A3
            · exact A4
            · exact A5
          have ct := cut_call hO rs cs
          cases ha : alwB T.tab M.m with
          | false =>
            rw [ha] at al he
            rw [Bool.false_and] at he
            obtain ⟨ex, st, hx, hp⟩ := nw_loop x i k (bitC T.tab rs cs) hall 5 0 _ _ _ _ _ _ _ _ _ _ _ _ _ _ _ _ _ _ _ _ _ _ _ _ _ _ _ _ _ _ _ _ _ _ _ _ _ _ _ _ _ _ _ _ _ _ _ _ _ _ _ _ _ _ _ _ _ _ _ _ _ _ _ _ _ _ _ _ _ _ _ _ _ _ _ _ _ _ _ _ _ _ _ _ _ _ _ _ _ _ _ _ _ _ _ _ _ _ _ _ _ _ _ _ _ _ _ _ _ _ _ _ _ _ _ _ _ _ _ _ _ _ _ _ _ _ _ _ _ _ _ _ _ _ _ _ _ _ _ _ _ _ _ _ _ _ _ _ _ _ _ _ _ _ _ _ _ _ _ _ _ _ _ _ _ _ _ _ _ _ _ _ _ _ _ _ _ _ _ _ _ _ _ _ _ rfl
            obtain ⟨rfl, jp, rfl⟩ := hp
            simp only [go_sem, simprocAttr, Try.f17, nwH, nwF, boxT, spB, intB, Int.ofNat_zero, Int.natCast_zero] at hx
            simp only [go_sem, simprocAttr, Try.f17, wk, hw, d1, List.length_map, lr, lc, d2, d3, d4, d5, d6, d7, d8, wc, wch, al, cm, he, pc, ct]
            rw [hx]
            simp only [go_sem, simprocAttr, unwind, modeEx, resultsOf, one]
            exact ⟨_, rfl⟩
          | true =>
            rw [ha] at al he
            rw [Bool.true_and] at he
            unfold alwB dimsB at ha
            simp only [Bool.and_eq_true] at ha
            have hD : DimsOk T M := ⟨by have := of_decide_eq_true ha.1.1; simpa [MatV.m] using this, fun s hs => of_decide_eq_true (List.all_eq_true.1 ha.1.2 s.l (List.mem_map.2 ⟨s, hs, rfl⟩))⟩
            obtain ⟨bm, _, _, m1, m2, m3, m4, _⟩ := MatV.at hM hD hr hc
            simp only [MatV.v, m3] at al cm
            cases b1 : decide (x.lo ≤ matOf M.m r c) <;> cases b2 : decide (matOf M.m r c ≤ x.hi) <;> rw [b1, b2] at he <;>
              (obtain ⟨ex, st, hx, hp⟩ := nw_loop x i k (bitC T.tab rs cs) hall 5 0 _ _ _ _ _ _ _ _ _ _ _ _ _ _ _ _ _ _ _ _ _ _ _ _ _ _ _ _ _ _ _ _ _ _ _ _ _ _ _ _ _ _ _ _ _ _ _ _ _ _ _ _ _ _ _ _ _ _ _ _ _ _ _ _ _ _ _ _ _ _ _ _ _ _ _ _ _ _ _ _ _ _ _ _ _ _ _ _ _ _ _ _ _ _ _ _ _ _ _ _ _ _ _ _ _ _ _ _ _ _ _ _ _ _ _ _ _ _ _ _ _ _ _ _ _ _ _ _ _ _ _ _ _ _ _ _ _ _ _ _ _ _ _ _ _ _ _ _ _ _ _ _ _ _ _ _ _ _ _ _ _ _ _ _ _ _ _ _ _ _ _ _ _ _ _ _ _ _ _ _ _ _ _ _ _ rfl
               obtain ⟨rfl, jp, rfl⟩ := hp
               simp only [go_sem, simprocAttr, Try.f17, nwH, nwF, boxT, spB, intB, Int.ofNat_zero, Int.natCast_zero] at hx
               simp only [go_sem, simprocAttr, Try.f17, MatV.v, wk, hw, d1, List.length_map, lr, lc, d2, d3, d4, d5, d6, d7, d8, wc, wch, al, cm, he, r0, c0, Int.toNat_natCast, m1, m2, m3, m4, b1, b2, pc, ct]
               rw [hx]
               simp only [go_sem, simprocAttr, unwind, modeEx, resultsOf, one]
               exact ⟨_, rfl⟩)
end Go.Proofs.Ytgfejpngfikjiaa.Tidy

