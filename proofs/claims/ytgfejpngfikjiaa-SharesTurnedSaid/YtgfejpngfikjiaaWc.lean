/-
  What the functions that SharesTurned reaches compute; the law, run.
-/
import Derived.Test.YtgfejpngfikjiaaWb
import Derived.Test.YtgfejpngfikjiaaCb
import Derived.Test.YtgfejpngfikjiaaWa
set_option linter.all false
namespace Go.Proofs.Ytgfejpngfikjiaa.Tidy
open Go Go.IntWalk
set_option maxRecDepth 10000
set_option linter.unusedSimpArgs false
set_option maxHeartbeats 4000000

set_option maxRecDepth 10000
set_option maxHeartbeats 2000000

def cellsGd (t : Tab) (x : Nat → Nat → Int) (i : Nat) : Bool := allN (fun k => (t.cell i k).has (x i k)) 0 t.C
def rowGd (t : Tab) (m : List (List Int)) (i : Nat) : Bool := decide ((m.getD i []).length = t.C) && (cellsGd t (matOf m) i && (t.row i).has (sumN t.C (matOf m i)))

def alH (T : TabV) (M : MatV) (i k : Nat) : Heap := [boxT T, .cells 0 1 true (intsV T.tab.C (cS (matOf M.m) i k))]

def Before (t : Tab) (x : Nat → Nat → Int) (i : Nat) : Prop := ∀ i', i' < i → ∀ k, k < t.C → 0 ≤ x i' k ∧ x i' k ≤ 2 ^ 30

theorem al_inner {T : TabV} {M : MatV} (hT : T.Wf) (hO : T.tab.Ok) (hM : M.Wf) {i : Nat} (hi : i < T.tab.R) {b : SlI} (hb : M.rows[i]? = some b) (hw : b.l.length = T.tab.C) (hB : Before T.tab (matOf M.m) i) : ∀ (n k : Nat) (j0 j1 j3 j4 j8 j10 j11 j12 j13 j14 j15 j16 j17 j18 j19 j20 j21 j22 j23 j27 j28 j29 j30 j31 j32 j33 j34 j35 j36 j40 j41 j42 j43 j44 j45 j46 j47 j48 j49 j50 j51 j52 j53 j54 j55 j56 j57 j58 j59 j60 j61 j62 j63 j64 j65 j66 j67 j68 j69 j70 j71 j72 j73 j74 j75 j76 j77 j78 j79 j80 j81 j82 j83 j84 j85 j86 j87 j88 j89 j90 j91 j92 j93 : AVal), k + n = T.tab.C → (∀ j, j < k → 0 ≤ matOf M.m i j ∧ matOf M.m i j ≤ 2 ^ 30) →
    Goes (execT env (Try.f39.at [1, 1, 1, 1, 0, 1, 0, 0, 1, 1, 0, 0, 1, 1, 1, 0, 1, 0]) ⟨[j0, j1, .ptr 0 0 0 0, j3, j4, .func 101 [] [], .ref 1 0 0 T.tab.C false, .int .i64 i, j8, .int .i64 (sumN k (matOf M.m i)), j10, j11, j12, j13, j14, j15, j16, j17, j18, j19, j20, j21, j22, j23, .lit M.cl M.sz (M.rows.map SlI.v), .int .i64 T.tab.R, .int .i64 i, j27, j28, j29, j30, j31, j32, j33, j34, j35, j36, .lit b.cl b.sz (b.l.map (AVal.int .i64)), .int .i64 T.tab.C, .int .i64 k, j40, j41, j42, j43, j44, j45, j46, j47, j48, j49, j50, j51, j52, j53, j54, j55, j56, j57, j58, j59, j60, j61, j62, j63, j64, j65, j66, j67, j68, j69, j70, j71, j72, j73, j74, j75, j76, j77, j78, j79, j80, j81, j82, j83, j84, j85, j86, j87, j88, j89, j90, j91, j92, j93], alH T M i k, [], 0, []⟩) fun ex st =>
      if allN (fun k => (T.tab.cell i k).has (matOf M.m i k)) k n then ex = .exit 2 ∧ (∀ j, j < T.tab.C → 0 ≤ matOf M.m i j ∧ matOf M.m i j ≤ 2 ^ 30) ∧ FrP 94 [(2, .ptr 0 0 0 0), (5, .func 101 [] []), (6, .ref 1 0 0 T.tab.C false), (7, .int .i64 i), (9, .int .i64 (sumN T.tab.C (matOf M.m i))), (24, .lit M.cl M.sz (M.rows.map SlI.v)), (25, .int .i64 T.tab.R), (26, .int .i64 i)] (alH T M i T.tab.C) [] 0 [] st
      else ex = .ret ∧ ∃ (H : Heap), FrP 94 [(4, .bool false)] H [] 0 [] st := by
  have hR8 := hO.R8
  have hC8 := hO.C8
  intro n
  induction n with
  | zero =>
    intro k; intros; rename_i hk hj
    have hd : decide ((k : Int) < (T.tab.C : Int)) = false := by simp; omega
    have : k = T.tab.C := by omega
    subst this
    simp only [go_sem, simprocAttr, Try.f39]
    rw [exec_loop]
    simp only [go_sem, simprocAttr, hd]
    exact ⟨hj, frP (by kernel_rfl)⟩
  | succ n ih =>
    intro k; intros; rename_i hk hj
    have hkC : k < T.tab.C := by omega
    have hd : decide ((k : Int) < (T.tab.C : Int)) = true := by simp; omega
    have h0 : (0 : Int) ≤ (k : Int) := by omega
    have h0i : (0 : Int) ≤ (i : Int) := by omega
    obtain ⟨c, hcm, hc1, hc2, hc3, _, _⟩ := TabV.at hT hO hi hkC
    obtain ⟨x, hx, _⟩ := get_drop (show k < b.l.length by omega)
    have hz := sz_of (hM.each b (List.mem_of_getElem? hb)) hx
    have hx' : (b.l.map (AVal.int .i64))[k]? = some (.int .i64 x) := by simp [hx]
    have hm := matOf_get hb hx
    cases hp : (T.tab.cell i k).has (matOf M.m i k) with
    | false =>
      have hp' := hp
      rw [hm] at hp'
      simp only [go_sem, simprocAttr, Try.f39, alH, boxT]
      rw [exec_loop]
      simp only [go_sem, simprocAttr, hd, h0, h0i, Int.toNat_natCast, hc1, hc2, hc3, hx', hz, hp', allN, hp]
      exact ⟨_, frP (by kernel_rfl)⟩
    | true =>
      have hp' := hp
      rw [hm] at hp'
      have hxb := hO.cell_ok hi hkC
      have hxh := Spn.has_iff.1 hp
      have b1 := sumN_bd (n := k) (f := matOf M.m i) (B := 2 ^ 30) hj
      have b2 := sumN_bd (n := i) (f := fun i => matOf M.m i k) (B := 2 ^ 30) fun j hj => hB j hj k hkC
      have g2 : (intsV T.tab.C (cS (matOf M.m) i k))[k]? = some (.int .i64 (sumN i fun i => matOf M.m i k)) := by rw [intsV_get hkC]; simp [cS]
      have w1 : IntKind.i64.wrap (sumN k (matOf M.m i) + x) = sumN (k + 1) (matOf M.m i) := by rw [i64_in _ (by omega)]; simp only [sumN, hm]
      have w2 : IntKind.i64.wrap (sumN i (fun i => matOf M.m i k) + x) = sumN i (fun i => matOf M.m i k) + x := i64_in _ (by omega)
      have s2 : (intsV T.tab.C (cS (matOf M.m) i k)).set k (.int .i64 (sumN i (fun i => matOf M.m i k) + x)) = intsV T.tab.C (cS (matOf M.m) i (k + 1)) := intsV_set fun j hj => by
        unfold cS
        by_cases e : j = k
        · subst e; rw [if_pos (by omega), if_pos rfl]; simp only [sumN]; rw [hm]
        · rw [if_neg e]
          by_cases e2 : j < k
          · rw [if_pos e2, if_pos (by omega)]
          · rw [if_neg e2, if_neg (by omega)]
      have ih' := ih (k + 1)
      simp only [go_sem, simprocAttr, Try.f39, hz, alH, boxT] at ih' ⊢
      rw [exec_loop]
      simp only [go_sem, simprocAttr, hd, h0, h0i, Int.toNat_natCast, hc1, hc2, hc3, hx', hz, hp', allN, hp, g2, w1, w2, s2, wrap_succ (show k < 2 ^ 63 - 1 by omega)]
      refine ih' _ _ _ _ _ _ _ _ _ _ _ _ _ _ _ _ _ _ _ _ _ _ _ _ _ _ _ _ _ _ _ _ _ _ _ _ _ _ _ _ _ _ _ _ _ _ _ _ _ _ _ _ _ _ _ _ _ _ _ _ _ _ _ _ _ _ _ _ _ _ _ _ _ _ _ _ _ _ _ _ _ _ _ (by omega) fun j hj' => ?_
      by_cases e : j = k
      · subst e; omega
      · exact hj j (by omega)

theorem al_outer {T : TabV} {M : MatV} (hT : T.Wf) (hO : T.tab.Ok) (hM : M.Wf) (hl : M.rows.length = T.tab.R) : ∀ (n i : Nat) (j0 j1 j3 j4 j7 j8 j9 j10 j11 j12 j13 j14 j15 j16 j17 j18 j19 j20 j21 j22 j23 j27 j28 j29 j30 j31 j32 j33 j34 j35 j36 j37 j38 j39 j40 j41 j42 j43 j44 j45 j46 j47 j48 j49 j50 j51 j52 j53 j54 j55 j56 j57 j58 j59 j60 j61 j62 j63 j64 j65 j66 j67 j68 j69 j70 j71 j72 j73 j74 j75 j76 j77 j78 j79 j80 j81 j82 j83 j84 j85 j86 j87 j88 j89 j90 j91 j92 j93 : AVal), i + n = T.tab.R → Before T.tab (matOf M.m) i →
    Goes (execT env (Try.f39.at [1, 1, 1, 1, 0, 1, 0]) ⟨[j0, j1, .ptr 0 0 0 0, j3, j4, .func 101 [] [], .ref 1 0 0 T.tab.C false, j7, j8, j9, j10, j11, j12, j13, j14, j15, j16, j17, j18, j19, j20, j21, j22, j23, .lit M.cl M.sz (M.rows.map SlI.v), .int .i64 T.tab.R, .int .i64 i, j27, j28, j29, j30, j31, j32, j33, j34, j35, j36, j37, j38, j39, j40, j41, j42, j43, j44, j45, j46, j47, j48, j49, j50, j51, j52, j53, j54, j55, j56, j57, j58, j59, j60, j61, j62, j63, j64, j65, j66, j67, j68, j69, j70, j71, j72, j73, j74, j75, j76, j77, j78, j79, j80, j81, j82, j83, j84, j85, j86, j87, j88, j89, j90, j91, j92, j93], alH T M i 0, [], 0, []⟩) fun ex st =>
      if allN (rowGd T.tab M.m) i n then ex = .exit 0 ∧ Before T.tab (matOf M.m) T.tab.R ∧ FrP 94 [(2, .ptr 0 0 0 0), (5, .func 101 [] []), (6, .ref 1 0 0 T.tab.C false)] (alH T M T.tab.R 0) [] 0 [] st
      else ex = .ret ∧ ∃ (H : Heap), FrP 94 [(4, .bool false)] H [] 0 [] st := by
  have hR8 := hO.R8
  have hC8 := hO.C8
  intro n
  induction n with
  | zero =>
    intro i; intros; rename_i hi hB
    have hd : decide ((i : Int) < (T.tab.R : Int)) = false := by simp; omega
    have : i = T.tab.R := by omega
    subst this
    simp only [go_sem, simprocAttr, Try.f39]
    rw [exec_loop]
    simp only [go_sem, simprocAttr, hd]
    exact ⟨hB, frP (by kernel_rfl)⟩
  | succ n ih =>
    intro i; intros; rename_i hi hB
    have hiR : i < T.tab.R := by omega
    have hd : decide ((i : Int) < (T.tab.R : Int)) = true := by simp; omega
    have h0i : (0 : Int) ≤ (i : Int) := by omega
    obtain ⟨b, hb, _⟩ := get_drop (show i < M.rows.length by omega)
    have hz := sz_of hM.sz hb
    have hbm : b ∈ M.rows := List.mem_of_getElem? hb
    have hb' : (M.rows.map SlI.v)[i]? = some (.lit b.cl b.sz (b.l.map (AVal.int .i64))) := by simp [hb, SlI.v]
    have hbl : (M.m.getD i []).length = b.l.length := by simp [MatV.m, hb]
    have hbb := hM.le b hbm
    have lc : T.cols.l.length = T.tab.C := rfl
    have el : decide ((b.l.length : Int) = (T.tab.C : Int)) = decide (b.l.length = T.tab.C) := decide_eq_decide.2 (by omega)
    obtain ⟨r1, r2⟩ := TabV.rowAt hT hiR
    cases hw : decide (b.l.length = T.tab.C) with
    | false =>
      have hg : rowGd T.tab M.m i = false := by unfold rowGd; rw [hbl, hw]; rfl
      simp only [go_sem, simprocAttr, Try.f39, alH, boxT]
      rw [exec_loop]
      simp only [go_sem, simprocAttr, hd, h0i, Int.toNat_natCast, hb', hz, List.length_map, lc, el, hw, allN, hg]
      exact ⟨_, frP (by kernel_rfl)⟩
    | true =>
      have hwl := of_decide_eq_true hw
      obtain ⟨ex, st, hx, hp⟩ := al_inner hT hO hM hiR hb hwl hB T.tab.C 0 _ _ _ _ _ _ _ _ _ _ _ _ _ _ _ _ _ _ _ _ _ _ _ _ _ _ _ _ _ _ _ _ _ _ _ _ _ _ _ _ _ _ _ _ _ _ _ _ _ _ _ _ _ _ _ _ _ _ _ _ _ _ _ _ _ _ _ _ _ _ _ _ _ _ _ _ _ _ _ _ _ _ _ (by omega) (fun j hj => by omega)
      have hs0 : sumN 0 (matOf M.m i) = 0 := rfl
      have dcc : decide ((T.tab.C : Int) = (T.tab.C : Int)) = true := decide_eq_true rfl
      simp only [go_sem, simprocAttr, Try.f39, hz, Int.ofNat_zero, Int.natCast_zero, hs0, alH, boxT] at hx
      cases hr : cellsGd T.tab (matOf M.m) i with
      | false =>
        have hr' : allN (fun k => (T.tab.cell i k).has (matOf M.m i k)) 0 T.tab.C = false := hr
        have hg : rowGd T.tab M.m i = false := by unfold rowGd; rw [hbl, hw, hr]; rfl
        rw [hr', if_neg (by simp)] at hp
        obtain ⟨rfl, H, jp, rfl⟩ := hp
        simp only [go_sem, simprocAttr, Try.f39, hz, alH, boxT]
        rw [exec_loop]
        simp only [go_sem, simprocAttr, hd, h0i, Int.toNat_natCast, hb', hz, List.length_map, lc, hwl, dcc]
        rw [hx]
        simp only [go_sem, simprocAttr, allN, hg]
        exact ⟨_, frP (by kernel_rfl)⟩
      | true =>
        have hr' : allN (fun k => (T.tab.cell i k).has (matOf M.m i k)) 0 T.tab.C = true := hr
        rw [hr', if_pos rfl] at hp
        obtain ⟨rfl, hnow, jp, rfl⟩ := hp
        cases hs : (T.tab.row i).has (sumN T.tab.C (matOf M.m i)) with
        | false =>
          have hg : rowGd T.tab M.m i = false := by unfold rowGd; rw [hbl, hw, hr, hs]; rfl
          simp only [go_sem, simprocAttr, Try.f39, hz, alH, boxT]
          rw [exec_loop]
          simp only [go_sem, simprocAttr, hd, h0i, Int.toNat_natCast, hb', hz, List.length_map, lc, hwl, dcc]
          rw [hx]
          simp only [go_sem, simprocAttr, alH, boxT, allN, hg, h0i, Int.toNat_natCast, r1, r2, hs]
          exact ⟨_, frP (by kernel_rfl)⟩
        | true =>
          have hg : rowGd T.tab M.m i = true := by unfold rowGd; rw [hbl, hw, hr, hs]; rfl
          have q2 : intsV T.tab.C (cS (matOf M.m) i T.tab.C) = intsV T.tab.C (cS (matOf M.m) (i + 1) 0) := by
            refine intsV_congr fun j hj => ?_
            unfold cS
            rw [if_pos hj, if_neg (by omega)]
          have ih' := ih (i + 1)
          simp only [go_sem, simprocAttr, Try.f39, hz, alH, boxT] at ih' ⊢
          rw [exec_loop]
          simp only [go_sem, simprocAttr, hd, h0i, Int.toNat_natCast, hb', hz, List.length_map, lc, hwl, dcc]
          rw [hx]
          simp only [go_sem, simprocAttr, hz, alH, boxT, allN, hg, h0i, Int.toNat_natCast, r1, r2, hs, q2, wrap_succ (show i < 2 ^ 63 - 1 by omega)]
          refine ih' _ _ _ _ _ _ _ _ _ _ _ _ _ _ _ _ _ _ _ _ _ _ _ _ _ _ _ _ _ _ _ _ _ _ _ _ _ _ _ _ _ _ _ _ _ _ _ _ _ _ _ _ _ _ _ _ _ _ _ _ _ _ _ _ _ _ _ _ _ _ _ _ _ _ _ _ _ _ _ _ _ _ _ _ _ _ _ _ (by omega) fun i' hi' k hk => ?_
          by_cases e : i' = i
          · subst e; exact hnow k hk
          · exact hB i' (by omega) k hk

theorem al_cols {T : TabV} (hT : T.Wf) (hO : T.tab.Ok) (f : Nat → Int) : ∀ (n i : Nat) (j0 j1 j3 j4 j6 j7 j8 j9 j10 j11 j12 j13 j14 j15 j16 j17 j18 j19 j20 j21 j22 j23 j24 j25 j26 j27 j28 j29 j30 j31 j32 j33 j34 j35 j36 j37 j38 j39 j40 j41 j42 j43 j44 j45 j46 j47 j48 j49 j50 j51 j52 j53 j54 j55 j56 j57 j58 j59 j60 j61 j62 j63 j64 j65 j66 j67 j68 j69 j70 j71 j72 j73 j74 j75 j76 j80 j81 j82 j83 j84 j85 j86 j87 j88 j89 j90 j91 j92 j93 : AVal), i + n = T.tab.C →
    Goes (execT env (Try.f39.at [1, 1, 1, 1, 1, 0, 1, 0]) ⟨[j0, j1, .ptr 0 0 0 0, j3, j4, .func 101 [] [], j6, j7, j8, j9, j10, j11, j12, j13, j14, j15, j16, j17, j18, j19, j20, j21, j22, j23, j24, j25, j26, j27, j28, j29, j30, j31, j32, j33, j34, j35, j36, j37, j38, j39, j40, j41, j42, j43, j44, j45, j46, j47, j48, j49, j50, j51, j52, j53, j54, j55, j56, j57, j58, j59, j60, j61, j62, j63, j64, j65, j66, j67, j68, j69, j70, j71, j72, j73, j74, j75, j76, .ref 1 0 0 T.tab.C false, .int .i64 T.tab.C, .int .i64 i, j80, j81, j82, j83, j84, j85, j86, j87, j88, j89, j90, j91, j92, j93], [boxT T, .cells 0 1 true (intsV T.tab.C f)], [], 0, []⟩) fun ex st =>
      if allN (fun i => (T.tab.col i).has (f i)) i n then ex = .exit 4 ∧ ∃ (H : Heap), FrP 94 [] H [] 0 [] st
      else ex = .ret ∧ ∃ (H : Heap), FrP 94 [(4, .bool false)] H [] 0 [] st := by
  have hC8 := hO.C8
  intro n
  induction n with
  | zero =>
    intro i; intros; rename_i hi
    have hd : decide ((i : Int) < (T.tab.C : Int)) = false := by simp; omega
    simp only [go_sem, simprocAttr, Try.f39]
    rw [exec_loop]
    simp only [go_sem, simprocAttr, hd]
    exact ⟨_, frP (by kernel_rfl)⟩
  | succ n ih =>
    intro i; intros; rename_i hi
    have hiC : i < T.tab.C := by omega
    have hd : decide ((i : Int) < (T.tab.C : Int)) = true := by simp; omega
    have h0i : (0 : Int) ≤ (i : Int) := by omega
    obtain ⟨r1, r2⟩ := TabV.colAt hT hiC
    have g1 := intsV_get (f := f) hiC
    cases hp : (T.tab.col i).has (f i) with
    | false =>
      simp only [go_sem, simprocAttr, Try.f39, boxT]
      rw [exec_loop]
      simp only [go_sem, simprocAttr, hd, h0i, Int.toNat_natCast, r1, r2, g1, allN, hp]
      exact ⟨_, frP (by kernel_rfl)⟩
    | true =>
      have ih' := ih (i + 1)
      simp only [go_sem, simprocAttr, Try.f39, boxT] at ih' ⊢
      rw [exec_loop]
      simp only [go_sem, simprocAttr, hd, h0i, Int.toNat_natCast, r1, r2, g1, allN, hp, wrap_succ (show i < 2 ^ 63 - 1 by omega)]
      exact ih' _ _ _ _ _ _ _ _ _ _ _ _ _ _ _ _ _ _ _ _ _ _ _ _ _ _ _ _ _ _ _ _ _ _ _ _ _ _ _ _ _ _ _ _ _ _ _ _ _ _ _ _ _ _ _ _ _ _ _ _ _ _ _ _ _ _ _ _ _ _ _ _ _ _ _ _ _ _ _ _ _ _ _ _ _ _ _ _ _ (by omega)

def alwB (t : Tab) (m : List (List Int)) : Bool := dimsB t m && fitsB t (matOf m)

def alw' (t : Tab) (m : List (List Int)) : Bool := decide (m.length = t.R) && (allN (rowGd t m) 0 t.R && allN (fun k => (t.col k).has (sumN t.R fun i => matOf m i k)) 0 t.C)

theorem alw_eq (t : Tab) (m : List (List Int)) : alwB t m = alw' t m := by
  rw [Bool.eq_iff_iff]
  unfold alwB alw' dimsB fitsB
  simp only [Bool.and_eq_true, decide_eq_true_eq, allN_iff, List.all_eq_true, rowGd, cellsGd]
  constructor
  · rintro ⟨⟨h1, h2⟩, h3, h4, h5⟩
    refine ⟨h1, fun j a b => ⟨?_, h3 j a b, h4 j a b⟩, h5⟩
    exact h2 _ (getD_mem (by omega) [])
  · rintro ⟨h1, h2, h3⟩
    refine ⟨⟨h1, fun l hl => ?_⟩, fun j a b => (h2 j a b).2.1, fun j a b => (h2 j a b).2.2, h3⟩
    obtain ⟨i, hi, e⟩ := List.getElem_of_mem hl
    have := (h2 i (by omega) (by omega)).1
    rw [List.getD_eq_getElem?_getD, List.getElem?_eq_getElem hi] at this
    simpa [e] using this

theorem allowed_call {T : TabV} {M : MatV} (hT : T.Wf) (hO : T.tab.Ok) (hM : M.Wf) (ro : Nat) (H : Heap) (nx : Nat) : callT env 39 [T.v, M.v] ro H nx = some (.ret (.bool (alwB T.tab M.m)), .ups []) := by
  have hC8 := hO.C8
  have hR8 := hO.R8
  have : ∃ H', runT env 39 [T.v, M.v] [] 0 = some (.ret (.bool (alwB T.tab M.m)), H') := by
    rw [alw_eq]
    unfold alw'
    have hll := hM.len
    have lr : T.rows.l.length = T.tab.R := rfl
    have lc : T.cols.l.length = T.tab.C := rfl
    have lm : M.m.length = M.rows.length := by simp [MatV.m]
    have el : decide ((M.rows.length : Int) = (T.tab.R : Int)) = decide (M.rows.length = T.tab.R) := decide_eq_decide.2 (by omega)
    rw [lm, run_unfold fn39 rfl]
    cases h1 : decide (M.rows.length = T.tab.R) with
    | false =>
      simp only [go_sem, simprocAttr, Try.f39, MatV.v, List.length_map, lr, el, h1, unwind, modeEx, resultsOf, one]
      exact ⟨_, rfl⟩
    | true =>
      have h1' := of_decide_eq_true h1
      have d1 : decide ((T.tab.R : Int) = (T.tab.R : Int)) = true := decide_eq_true rfl
      have c0 : (0 : Int) ≤ (T.tab.C : Int) := by omega
      have m1 : T.tab.C * 9 ≤ maxBytes := by unfold maxBytes; omega
      have e0 : intsV T.tab.C (cS (matOf M.m) 0 0) = List.replicate T.tab.C (AVal.int .i64 0) := by
        rw [intsV_rep]
        exact intsV_congr fun j hj => by unfold cS; rw [if_neg (by omega)]; rfl
      obtain ⟨ex, st, hx, hp⟩ := al_outer hT hO hM h1' T.tab.R 0 _ _ _ _ _ _ _ _ _ _ _ _ _ _ _ _ _ _ _ _ _ _ _ _ _ _ _ _ _ _ _ _ _ _ _ _ _ _ _ _ _ _ _ _ _ _ _ _ _ _ _ _ _ _ _ _ _ _ _ _ _ _ _ _ _ _ _ _ _ _ _ _ _ _ _ _ _ _ _ _ _ _ _ _ _ _ _ _ (by omega) (fun i' hi' => by omega)
      simp only [go_sem, simprocAttr, Try.f39, Int.ofNat_zero, Int.natCast_zero, alH, boxT, e0] at hx
      simp only [go_sem, simprocAttr, Try.f39, MatV.v, List.length_map, lr, lc, h1', d1, Int.toNat_natCast, c0, m1]
      rw [hx]
      cases hr : allN (rowGd T.tab M.m) 0 T.tab.R with
      | false =>
        rw [hr, if_neg (by simp)] at hp
        obtain ⟨rfl, H2, jp, rfl⟩ := hp
        simp only [go_sem, simprocAttr, unwind, modeEx, resultsOf, one]
        exact ⟨_, rfl⟩
      | true =>
        rw [hr, if_pos rfl] at hp
        obtain ⟨rfl, hB, jp, rfl⟩ := hp
        obtain ⟨ex2, st2, hx2, hp2⟩ := al_cols hT hO (cS (matOf M.m) T.tab.R 0) T.tab.C 0 _ _ _ _ _ _ _ _ _ _ _ _ _ _ _ _ _ _ _ _ _ _ _ _ _ _ _ _ _ _ _ _ _ _ _ _ _ _ _ _ _ _ _ _ _ _ _ _ _ _ _ _ _ _ _ _ _ _ _ _ _ _ _ _ _ _ _ _ _ _ _ _ _ _ _ _ _ _ _ _ _ _ _ _ _ _ _ _ _ (by omega)
        have e2 : allN (fun i => (T.tab.col i).has (cS (matOf M.m) T.tab.R 0 i)) 0 T.tab.C = allN (fun k => (T.tab.col k).has (sumN T.tab.R fun i => matOf M.m i k)) 0 T.tab.C := allN_congr fun j _ _ => by unfold cS; rw [if_neg (by omega)]
        rw [e2] at hp2
        simp only [go_sem, simprocAttr, Try.f39, Int.ofNat_zero, Int.natCast_zero, boxT] at hx2
        simp only [go_sem, simprocAttr, alH, boxT]
        rw [hx2]
        cases h3 : allN (fun k => (T.tab.col k).has (sumN T.tab.R fun i => matOf M.m i k)) 0 T.tab.C with
        | false =>
          rw [h3, if_neg (by simp)] at hp2
          obtain ⟨rfl, H2, jq, rfl⟩ := hp2
          simp only [go_sem, simprocAttr, unwind, modeEx, resultsOf, one]
          exact ⟨_, rfl⟩
        | true =>
          rw [h3, if_pos rfl] at hp2
          obtain ⟨rfl, H2, jq, rfl⟩ := hp2
          simp only [go_sem, simprocAttr, unwind, modeEx, resultsOf, one]
          exact ⟨_, rfl⟩
  obtain ⟨H', h⟩ := this
  exact call_pure rfl rfl rfl (by simp [underL, TabV.under, MatV.under]) h rfl ro H nx

set_option maxRecDepth 10000
set_option maxHeartbeats 4000000

theorem turn_turn {t : Tab} (hO : t.Ok) : t.turn.turn = t := by
  have hc : t.turn.turn.cells = t.cells := by
    show (List.range t.R).map (fun i => colL t.turn i t.C) = t.cells
    apply List.ext_getElem
    · simp [hO.len]
    · intro i h1 h2
      have hi : i < t.R := by simpa using h1
      have hw := hO.wid t.cells[i] (List.getElem_mem h2)
      rw [List.getElem_map, List.getElem_range]
      apply List.ext_getElem
      · rw [colL_length, hw]
      · intro k h3 h4
        have hk : k < t.C := by rw [colL_length] at h3; exact h3
        have e1 : (colL t.turn i t.C)[k] = t.turn.cell k i := by simp [colL]
        rw [e1, turn_cell hi hk]
        unfold Tab.cell
        rw [List.getD_eq_getElem?_getD (l := t.cells), List.getElem?_eq_getElem h2, Option.getD_some, List.getD_eq_getElem?_getD, List.getElem?_eq_getElem h4, Option.getD_some]
  cases t with
  | mk rows cols cells => exact congrArg (Tab.mk rows cols) hc

theorem ends_turn_cell {t : Tab} {r c : Nat} (hr : r < t.R) (hc : c < t.C) {lo hi : Int} (h : IsEnds t.net [r * t.C + c] lo hi) : IsEnds t.turn.net [c * t.turn.C + r] lo hi := by
  obtain ⟨⟨x, hx, ex⟩, ⟨y, hy, ey⟩, ha⟩ := isEnds_iff.1 h
  rw [brings_cell t _ hr hc] at ex ey
  refine isEnds_iff.2 ⟨⟨fun k i => x i k, (fits_turn _).2 hx, ?_⟩, ⟨fun k i => y i k, (fits_turn _).2 hy, ?_⟩, fun s hs => ?_⟩
  · rw [brings_cell t.turn _ (show c < t.turn.R from hc) (show r < t.turn.C from hr)]; exact ex
  · rw [brings_cell t.turn _ (show c < t.turn.R from hc) (show r < t.turn.C from hr)]; exact ey
  · have := ha _ ((fits_turn s).1 hs)
    rw [brings_cell t _ hr hc] at this
    rw [brings_cell t.turn _ (show c < t.turn.R from hc) (show r < t.turn.C from hr)]; exact this

theorem ends_turn_all {t : Tab} {lo hi : Int} (h : IsEnds t.net (rowsL t t.R) lo hi) : IsEnds t.turn.net (rowsL t.turn t.turn.R) lo hi := by
  obtain ⟨⟨x, hx, ex⟩, ⟨y, hy, ey⟩, ha⟩ := isEnds_iff.1 h
  rw [brings_total] at ex ey
  have sw : ∀ x : Nat → Nat → Int, (sumN t.turn.R fun i => sumN t.turn.C ((fun k i => x i k) i)) = sumN t.R fun i => sumN t.C (x i) := fun x => (sumN_swap x t.C t.R).symm
  refine isEnds_iff.2 ⟨⟨fun k i => x i k, (fits_turn _).2 hx, ?_⟩, ⟨fun k i => y i k, (fits_turn _).2 hy, ?_⟩, fun s hs => ?_⟩
  · rw [brings_total, sw]; exact ex
  · rw [brings_total, sw]; exact ey
  · have := ha _ ((fits_turn s).1 hs)
    rw [brings_total] at this
    rw [brings_total]
    rwa [← sw fun i k => s k i] at this

theorem ans_same {t t' : Tab} {code : Int} {l l' : List Nat} {v v' : AVal} (h : EndsAns t code l v) (h' : EndsAns t' code l' v') (e : ∀ lo hi lo' hi', code = 0 → IsEnds t.net l lo hi → IsEnds t'.net l' lo' hi' → lo = lo' ∧ hi = hi') : v = v' := by
  rcases h with ⟨hz, rfl⟩ | ⟨hz, _, lo, hi, he, rfl⟩
  · rcases h' with ⟨_, rfl⟩ | ⟨hz', _⟩
    · rfl
    · exact absurd hz' hz
  · rcases h' with ⟨hz', _⟩ | ⟨_, _, lo', hi', he', rfl⟩
    · exact absurd hz hz'
    · obtain ⟨rfl, rfl⟩ := e _ _ _ _ hz he he'
      rfl
theorem ans_form {t : Tab} {code : Int} {l : List Nat} {v : AVal} (h : EndsAns t code l v) : ∃ (x : Spn) (c : Int), v = .tuple [spV x, .int .i64 c] := by
  rcases h with ⟨_, rfl⟩ | ⟨_, _, lo, hi, _, rfl⟩
  · exact ⟨⟨0, 0⟩, _, rfl⟩
  · exact ⟨⟨lo, hi⟩, _, rfl⟩

theorem turned_law (a0 a1 a2 a3 : List AVal) (h0 : FitT env 8 25 a0) (h1 : FitT env 8 46 a1) (h2 : FitT env 8 3 a2) (h3 : FitT env 8 3 a3) : ∃ H', runT env 11 [pack ⟨.struct [(22, 0), (22, 1), (23, 2)], 3, 72, .agg [.lit true 0 [], .lit true 0 [], .lit true 0 []]⟩ a0, pack ⟨.slice 51, 1, 24, .lit true 0 []⟩ a1, pack ⟨.int .i64, 1, 8, .int .i64 (0)⟩ a2, pack ⟨.int .i64, 1, 8, .int .i64 (0)⟩ a3] [] 0 = some (.ret (.bool true), H') := by
  obtain ⟨T, hT, e0⟩ := fit_tab (m := 3) h0
  obtain ⟨M, hM, rfl⟩ := fit_mat h1
  obtain ⟨i, rfl, _⟩ := fit_int ti3 h2
  obtain ⟨k, rfl, _⟩ := fit_int ti3 h3
  show ∃ H', runT env 11 [.agg a0, M.v, .int .i64 i, .int .i64 k] [] 0 = some (.ret (.bool true), H')
  rw [e0]
  have wk := work_call T hT
  have lc : T.cols.l.length = T.tab.C := rfl
  rw [run_unfold fn11 rfl]
  cases hw : workB T.tab with
  | false =>
    simp only [go_sem, simprocAttr, Try.f11, wk, hw, unwind, modeEx, resultsOf, one]
    exact ⟨_, rfl⟩
  | true =>
    have hO := (work_ok hw).1
    have hR8 := hO.R8
    have hC8 := hO.C8
    have hok := Tab.ok_iff.2 hO
    have hO2 := turn_ok hO
    have hok2 := Tab.ok_iff.2 hO2
    have hW := canon_wf hO2.R8 hO2.C8 hO2.len hO2.wid
    have hW2 := canon_wf hO.R8 hO.C8 hO.len hO.wid
    have t1 := Turned_call hT
    have t2 := Turned_call hW
    rw [canon_tab] at t2
    unfold turnV at t1 t2
    rw [if_pos hok] at t1
    rw [if_pos hok2, turn_turn hO] at t2
    have sm := Same_call hW2 hT (canon_tab _) (by show T.tab.R < _; omega) (by show T.tab.C < _; omega) (fun s hs => by
      obtain ⟨l, hl, rfl⟩ := List.mem_map.1 hs
      have := hO.wid l hl
      show l.length < _; omega) (by
      simp only [canon, List.length_map]
      have := hO.len
      omega)
    have al := allowed_call hT hO hM
    obtain ⟨v1, w1, p1⟩ := rowE_call hT i
    obtain ⟨v2, w2, p2⟩ := colE_call hW i
    obtain ⟨v3, w3, p3⟩ := cellE_call hT i k
    obtain ⟨v4, w4, p4⟩ := cellE_call hW k i
    obtain ⟨v5, w5, p5⟩ := total_call hT
    obtain ⟨v6, w6, p6⟩ := total_call hW
    rw [canon_tab] at w2 w4 w6
    rw [ask_turn hO] at w2 w4 w6
    obtain rfl := ans_same w1 w2 fun lo hi lo' hi' hz h h' => by
      obtain ⟨_, _, ho⟩ := askS_zero hz
      obtain ⟨r, c, rfl, _, hr, _⟩ := outB_no ho
      rw [Int.toNat_natCast] at h h'
      exact (ends_turn_row hr h).unique h'
    obtain rfl := ans_same w3 w4 fun lo hi lo' hi' hz h h' => by
      obtain ⟨_, _, ho⟩ := askS_zero hz
      obtain ⟨r, c, rfl, rfl, hr, hc⟩ := outB_no ho
      rw [Int.toNat_natCast, Int.toNat_natCast] at h h'
      exact (ends_turn_cell hr hc h).unique h'
    obtain rfl := ans_same w5 w6 fun lo hi lo' hi' hz h h' => (ends_turn_all h).unique h'
    obtain ⟨x1, c1, rfl⟩ := ans_form w1
    obtain ⟨x3, c3, rfl⟩ := ans_form w3
    obtain ⟨x5, c5, rfl⟩ := ans_form w5
    have dd : ∀ n : Int, decide (n = n) = true := fun n => decide_eq_true rfl
    cases ha : alwB T.tab M.m with
    | false =>
      rw [ha] at al
      simp only [go_sem, simprocAttr, Try.f11, wk, hw, t1, t2, sm, al, p1, p2, p3, p4, p5, p6, eql_spV, dd, unwind, modeEx, resultsOf, one]
      exact ⟨_, rfl⟩
    | true =>
      rw [ha] at al
      unfold alwB at ha
      rw [Bool.and_eq_true] at ha
      have to := turnedOf_call hO hM ha.1
      have hf : Fits T.tab (matOf M.m) := fitsB_iff.1 ha.2
      have hf2 : Fits T.tab.turn fun k i => matOf M.m i k := (fits_turn _).2 hf
      have cm := cm_call hW (matM_wf hO2 hf2)
      unfold cmS at cm
      rw [canon_tab, if_pos hok2, if_pos (matM_dims _ _), if_pos (matM_fits hf2)] at cm
      simp only [go_sem, simprocAttr, Try.f11, wk, hw, t1, t2, sm, al, to, cm, List.length_map, lc, p1, p2, p3, p4, p5, p6, eql_spV, dd, unwind, modeEx, resultsOf, one]
      exact ⟨_, rfl⟩
end Go.Proofs.Ytgfejpngfikjiaa.Tidy

