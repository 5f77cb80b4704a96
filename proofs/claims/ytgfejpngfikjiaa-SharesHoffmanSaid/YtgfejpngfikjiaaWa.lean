/-
  What the functions that SharesHoffman reaches compute; the law, run.
-/
import Derived.Test.YtgfejpngfikjiaaCb
import Derived.Test.YtgfejpngfikjiaaCe
import Derived.Test.YtgfejpngfikjiaaCf
set_option linter.all false
namespace Go.Proofs.Ytgfejpngfikjiaa.Tidy
open Go Go.IntWalk
set_option maxRecDepth 10000
set_option linter.unusedSimpArgs false
set_option maxHeartbeats 2000000

def cellsGd (t : Tab) (x : Nat → Nat → Int) (i : Nat) : Bool := allN (fun k => (t.cell i k).has (x i k)) 0 t.C
def rowGd (t : Tab) (m : List (List Int)) (i : Nat) : Bool := decide ((m.getD i []).length = t.C) && (cellsGd t (matOf m) i && (t.row i).has (sumN t.C (matOf m i)))

def alH (T : TabV) (M : MatV) (i k : Nat) : Heap := [boxT T, .cells 0 1 true (intsV T.tab.C (cS (matOf M.m) i k))]

def Before (t : Tab) (x : Nat → Nat → Int) (i : Nat) : Prop := ∀ i', i' < i → ∀ k, k < t.C → 0 ≤ x i' k ∧ x i' k ≤ 2 ^ 30

theorem al_inner {T : TabV} {M : MatV} (hT : T.Wf) (hO : T.tab.Ok) (hM : M.Wf) {i : Nat} (hi : i < T.tab.R) {b : SlI} (hb : M.rows[i]? = some b) (hw : b.l.length = T.tab.C) (hB : Before T.tab (matOf M.m) i) : ∀ (n k : Nat) (j0 j1 j3 j4 j8 j10 j11 j12 j13 j14 j15 j16 j17 j18 j19 j20 j21 j22 j23 j27 j28 j29 j30 j31 j32 j33 j34 j35 j36 j40 j41 j42 j43 j44 j45 j46 j47 j48 j49 j50 j51 j52 j53 j54 j55 j56 j57 j58 j59 j60 j61 j62 j63 j64 j65 j66 j67 j68 j69 j70 j71 j72 j73 j74 j75 j76 j77 j78 j79 j80 j81 j82 j83 j84 j85 j86 j87 j88 j89 j90 j91 j92 j93 : AVal), k + n = T.tab.C → (∀ j, j < k → 0 ≤ matOf M.m i j ∧ matOf M.m i j ≤ 2 ^ 30) →
    Goes (execT env (Try.f39.at [1, 1, 1, 1, 0, 1, 0, 0, 1, 1, 0, 0, 1, 1, 1, 0, 1, 0]) ⟨[j0, j1, .ptr 0 0 0 0, j3, j4, .func 101 [] [], .ref 1 0 0 T.tab.C false, .int .i64 i, j8, .int .i64 (sumN k (matOf M.m i)), j10, j11, j12, j13, j14, j15, j16, j17, j18, j19, j20, j21, j22, j23, .lit M.cl M.sz (M.rows.map SlI.v), .int .i64 T.tab.R, .int .i64 i, j27, j28, j29, j30, j31, j32, j33, j34, j35, j36, .lit b.cl b.sz (b.l.map (AVal.int .i64)), .int .i64 T.tab.C, .int .i64 k, j40, j41, j42, j43, j44, j45, j46, j47, j48, j49, j50, j51, j52, j53, j54, j55, j56, j57, j58, j59, j60, j61, j62, j63, j64, j65, j66, j67, j68, j69, j70, j71, j72, j73, j74, j75, j76, j77, j78, j79, j80, j81, j82, j83, j84, j85, j86, j87, j88, j89, j90, j91, j92, j93], alH T M i k, [], 0, []⟩) fun ex st =>
      if allN (fun k => (T.tab.cell i k).has (matOf M.m i k)) k n then ex = .exit 2 ∧ (∀ j, j < T.tab.C → 0 ≤ matOf M.m i j ∧ matOf M.m i j ≤ 2 ^ 30) ∧ FrP 94 [(2, .ptr 0 0 0 0), (5, .func 101 [] []), (6, .ref 1 0 0 T.tab.C false), (7, .int .i64 i), (9, .int .i64 (sumN T.tab.C (matOf M.m i))), (24, .lit M.cl M.sz (M.rows.map SlI.v)), (25, .int .i64 T.tab.R), (26, .int .i64 i)] (alH T M i T.tab.C) [] 0 [] st
      else ex = .ret ∧ ∃ (H : Heap), FrP 94 [(4, .bool false)] H [] 0 [] st := by
  have hR8 := hO.R8
  have hC8 := hO.C8
  intro n
  induction n with
  | zero =>
    intro k; intros; rename_i hk hj
    have hd : decide ((k : Int) < (T.tab.C : Int)) = false := by simp; omega
    have : k = T.tab.C := by omega
    subst this
    simp only [go_sem, simprocAttr, Try.f39]
    rw [exec_loop]
    simp only [go_sem, simprocAttr, hd]
    exact ⟨hj, frP (by kernel_rfl)⟩
  | succ n ih =>
    intro k; intros; rename_i hk hj
    have hkC : k < T.tab.C := by omega
    have hd : decide ((k : Int) < (T.tab.C : Int)) = true := by simp; omega
    have h0 : (0 : Int) ≤ (k : Int) := by omega
    have h0i : (0 : Int) ≤ (i : Int) := by omega
    obtain ⟨c, hcm, hc1, hc2, hc3, _, _⟩ := TabV.at hT hO hi hkC
    obtain ⟨x, hx, _⟩ := get_drop (show k < b.l.length by omega)
    have hz := sz_of (hM.each b (List.mem_of_getElem? hb)) hx
    have hx' : (b.l.map (AVal.int .i64))[k]? = some (.int .i64 x) := by simp [hx]
    have hm := matOf_get hb hx
    cases hp : (T.tab.cell i k).has (matOf M.m i k) with
    | false =>
      have hp' := hp
      rw [hm] at hp'
      simp only [go_sem, simprocAttr, Try.f39, alH, boxT]
      rw [exec_loop]
      simp only [go_sem, simprocAttr, hd, h0, h0i, Int.toNat_natCast, hc1, hc2, hc3, hx', hz, hp', allN, hp]
      exact ⟨_, frP (by kernel_rfl)⟩
    | true =>
      have hp' := hp
      rw [hm] at hp'
      have hxb := hO.cell_ok hi hkC
      have hxh := Spn.has_iff.1 hp
      have b1 := sumN_bd (n := k) (f := matOf M.m i) (B := 2 ^ 30) hj
      have b2 := sumN_bd (n := i) (f := fun i => matOf M.m i k) (B := 2 ^ 30) fun j hj => hB j hj k hkC
      have g2 : (intsV T.tab.C (cS (matOf M.m) i k))[k]? = some (.int .i64 (sumN i fun i => matOf M.m i k)) := by rw [intsV_get hkC]; simp [cS]
      have w1 : IntKind.i64.wrap (sumN k (matOf M.m i) + x) = sumN (k + 1) (matOf M.m i) := by rw [i64_in _ (by omega)]; simp only [sumN, hm]
      have w2 : IntKind.i64.wrap (sumN i (fun i => matOf M.m i k) + x) = sumN i (fun i => matOf M.m i k) + x := i64_in _ (by omega)
      have s2 : (intsV T.tab.C (cS (matOf M.m) i k)).set k (.int .i64 (sumN i (fun i => matOf M.m i k) + x)) = intsV T.tab.C (cS (matOf M.m) i (k + 1)) := intsV_set fun j hj => by
        unfold cS
        by_cases e : j = k
        · subst e; rw [if_pos (by omega), if_pos rfl]; simp only [sumN]; rw [hm]
        · rw [if_neg e]
          by_cases e2 : j < k
          · rw [if_pos e2, if_pos (by omega)]
          · rw [if_neg e2, if_neg (by omega)]
      have ih' := ih (k + 1)
      simp only [go_sem, simprocAttr, Try.f39, hz, alH, boxT] at ih' ⊢
      rw [exec_loop]
      simp only [go_sem, simprocAttr, hd, h0, h0i, Int.toNat_natCast, hc1, hc2, hc3, hx', hz, hp', allN, hp, g2, w1, w2, s2, wrap_succ (show k < 2 ^ 63 - 1 by omega)]
      refine ih' _ _ _ _ _ _ _ _ _ _ _ _ _ _ _ _ _ _ _ _ _ _ _ _ _ _ _ _ _ _ _ _ _ _ _ _ _ _ _ _ _ _ _ _ _ _ _ _ _ _ _ _ _ _ _ _ _ _ _ _ _ _ _ _ _ _ _ _ _ _ _ _ _ _ _ _ _ _ _ _ _ _ _ (by omega) fun j hj' => ?_
      by_cases e : j = k
      · subst e; omega
      · exact hj j (by omega)

theorem al_outer {T : TabV} {M : MatV} (hT : T.Wf) (hO : T.tab.Ok) (hM : M.Wf) (hl : M.rows.length = T.tab.R) : ∀ (n i : Nat) (j0 j1 j3 j4 j7 j8 j9 j10 j11 j12 j13 j14 j15 j16 j17 j18 j19 j20 j21 j22 j23 j27 j28 j29 j30 j31 j32 j33 j34 j35 j36 j37 j38 j39 j40 j41 j42 j43 j44 j45 j46 j47 j48 j49 j50 j51 j52 j53 j54 j55 j56 j57 j58 j59 j60 j61 j62 j63 j64 j65 j66 j67 j68 j69 j70 j71 j72 j73 j74 j75 j76 j77 j78 j79 j80 j81 j82 j83 j84 j85 j86 j87 j88 j89 j90 j91 j92 j93 : AVal), i + n = T.tab.R → Before T.tab (matOf M.m) i →
    Goes (execT env (Try.f39.at [1, 1, 1, 1, 0, 1, 0]) ⟨[j0, j1, .ptr 0 0 0 0, j3, j4, .func 101 [] [], .ref 1 0 0 T.tab.C false, j7, j8, j9, j10, j11, j12, j13, j14, j15, j16, j17, j18, j19, j20, j21, j22, j23, .lit M.cl M.sz (M.rows.map SlI.v), .int .i64 T.tab.R, .int .i64 i, j27, j28, j29, j30, j31, j32, j33, j34, j35, j36, j37, j38, j39, j40, j41, j42, j43, j44, j45, j46, j47, j48, j49, j50, j51, j52, j53, j54, j55, j56, j57, j58, j59, j60, j61, j62, j63, j64, j65, j66, j67, j68, j69, j70, j71, j72, j73, j74, j75, j76, j77, j78, j79, j80, j81, j82, j83, j84, j85, j86, j87, j88, j89, j90, j91, j92, j93], alH T M i 0, [], 0, []⟩) fun ex st =>
      if allN (rowGd T.tab M.m) i n then ex = .exit 0 ∧ Before T.tab (matOf M.m) T.tab.R ∧ FrP 94 [(2, .ptr 0 0 0 0), (5, .func 101 [] []), (6, .ref 1 0 0 T.tab.C false)] (alH T M T.tab.R 0) [] 0 [] st
      else ex = .ret ∧ ∃ (H : Heap), FrP 94 [(4, .bool false)] H [] 0 [] st := by
  have hR8 := hO.R8
  have hC8 := hO.C8
  intro n
  induction n with
  | zero =>
    intro i; intros; rename_i hi hB
    have hd : decide ((i : Int) < (T.tab.R : Int)) = false := by simp; omega
    have : i = T.tab.R := by omega
    subst this
    simp only [go_sem, simprocAttr, Try.f39]
    rw [exec_loop]
    simp only [go_sem, simprocAttr, hd]
    exact ⟨hB, frP (by kernel_rfl)⟩
  | succ n ih =>
    intro i; intros; rename_i hi hB
    have hiR : i < T.tab.R := by omega
    have hd : decide ((i : Int) < (T.tab.R : Int)) = true := by simp; omega
    have h0i : (0 : Int) ≤ (i : Int) := by omega
    obtain ⟨b, hb, _⟩ := get_drop (show i < M.rows.length by omega)
    have hz := sz_of hM.sz hb
    have hbm : b ∈ M.rows := List.mem_of_getElem? hb
    have hb' : (M.rows.map SlI.v)[i]? = some (.lit b.cl b.sz (b.l.map (AVal.int .i64))) := by simp [hb, SlI.v]
    have hbl : (M.m.getD i []).length = b.l.length := by simp [MatV.m, hb]
    have hbb := hM.le b hbm
    have lc : T.cols.l.length = T.tab.C := rfl
    have el : decide ((b.l.length : Int) = (T.tab.C : Int)) = decide (b.l.length = T.tab.C) := decide_eq_decide.2 (by omega)
    obtain ⟨r1, r2⟩ := TabV.rowAt hT hiR
    cases hw : decide (b.l.length = T.tab.C) with
    | false =>
      have hg : rowGd T.tab M.m i = false := by unfold rowGd; rw [hbl, hw]; rfl
      simp only [go_sem, simprocAttr, Try.f39, alH, boxT]
      rw [exec_loop]
      simp only [go_sem, simprocAttr, hd, h0i, Int.toNat_natCast, hb', hz, List.length_map, lc, el, hw, allN, hg]
      exact ⟨_, frP (by kernel_rfl)⟩
    | true =>
      have hwl := of_decide_eq_true hw
      obtain ⟨ex, st, hx, hp⟩ := al_inner hT hO hM hiR hb hwl hB T.tab.C 0 _ _ _ _ _ _ _ _ _ _ _ _ _ _ _ _ _ _ _ _ _ _ _ _ _ _ _ _ _ _ _ _ _ _ _ _ _ _ _ _ _ _ _ _ _ _ _ _ _ _ _ _ _ _ _ _ _ _ _ _ _ _ _ _ _ _ _ _ _ _ _ _ _ _ _ _ _ _ _ _ _ _ _ (by omega) (fun j hj => by omega)
      have hs0 : sumN 0 (matOf M.m i) = 0 := rfl
      have dcc : decide ((T.tab.C : Int) = (T.tab.C : Int)) = true := decide_eq_true rfl
      simp only [go_sem, simprocAttr, Try.f39, hz, Int.ofNat_zero, Int.natCast_zero, hs0, alH, boxT] at hx
      cases hr : cellsGd T.tab (matOf M.m) i with
      | false =>
        have hr' : allN (fun k => (T.tab.cell i k).has (matOf M.m i k)) 0 T.tab.C = false := hr
        have hg : rowGd T.tab M.m i = false := by unfold rowGd; rw [hbl, hw, hr]; rfl
        rw [hr', if_neg (by simp)] at hp
        obtain ⟨rfl, H, jp, rfl⟩ := hp
        simp only [go_sem, simprocAttr, Try.f39, hz, alH, boxT]
        rw [exec_loop]
        simp only [go_sem, simprocAttr, hd, h0i, Int.toNat_natCast, hb', hz, List.length_map, lc, hwl, dcc]
        rw [hx]
        simp only [go_sem, simprocAttr, allN, hg]
        exact ⟨_, frP (by kernel_rfl)⟩
      | true =>
        have hr' : allN (fun k => (T.tab.cell i k).has (matOf M.m i k)) 0 T.tab.C = true := hr
        rw [hr', if_pos rfl] at hp
        obtain ⟨rfl, hnow, jp, rfl⟩ := hp
        cases hs : (T.tab.row i).has (sumN T.tab.C (matOf M.m i)) with
        | false =>
          have hg : rowGd T.tab M.m i = false := by unfold rowGd; rw [hbl, hw, hr, hs]; rfl
          simp only [go_sem, simprocAttr, Try.f39, hz, alH, boxT]
          rw [exec_loop]
          simp only [go_sem, simprocAttr, hd, h0i, Int.toNat_natCast, hb', hz, List.length_map, lc, hwl, dcc]
          rw [hx]
          simp only [go_sem, simprocAttr, alH, boxT, allN, hg, h0i, Int.toNat_natCast, r1, r2, hs]
          exact ⟨_, frP (by kernel_rfl)⟩
        | true =>
          have hg : rowGd T.tab M.m i = true := by unfold rowGd; rw [hbl, hw, hr, hs]; rfl
          have q2 : intsV T.tab.C (cS (matOf M.m) i T.tab.C) = intsV T.tab.C (cS (matOf M.m) (i + 1) 0) := by
            refine intsV_congr fun j hj => ?_
            unfold cS
            rw [if_pos hj, if_neg (by omega)]
          have ih' := ih (i + 1)
          simp only [go_sem, simprocAttr, Try.f39, hz, alH, boxT] at ih' ⊢
          rw [exec_loop]
          simp only [go_sem, simprocAttr, hd, h0i, Int.toNat_natCast, hb', hz, List.length_map, lc, hwl, dcc]
          rw [hx]
          simp only [go_sem, simprocAttr, hz, alH, boxT, allN, hg, h0i, Int.toNat_natCast, r1, r2, hs, q2, wrap_succ (show i < 2 ^ 63 - 1 by omega)]
          refine ih' _ _ _ _ _ _ _ _ _ _ _ _ _ _ _ _ _ _ _ _ _ _ _ _ _ _ _ _ _ _ _ _ _ _ _ _ _ _ _ _ _ _ _ _ _ _ _ _ _ _ _ _ _ _ _ _ _ _ _ _ _ _ _ _ _ _ _ _ _ _ _ _ _ _ _ _ _ _ _ _ _ _ _ _ _ _ _ _ (by omega) fun i' hi' k hk => ?_
          by_cases e : i' = i
          · subst e; exact hnow k hk
          · exact hB i' (by omega) k hk

theorem al_cols {T : TabV} (hT : T.Wf) (hO : T.tab.Ok) (f : Nat → Int) : ∀ (n i : Nat) (j0 j1 j3 j4 j6 j7 j8 j9 j10 j11 j12 j13 j14 j15 j16 j17 j18 j19 j20 j21 j22 j23 j24 j25 j26 j27 j28 j29 j30 j31 j32 j33 j34 j35 j36 j37 j38 j39 j40 j41 j42 j43 j44 j45 j46 j47 j48 j49 j50 j51 j52 j53 j54 j55 j56 j57 j58 j59 j60 j61 j62 j63 j64 j65 j66 j67 j68 j69 j70 j71 j72 j73 j74 j75 j76 j80 j81 j82 j83 j84 j85 j86 j87 j88 j89 j90 j91 j92 j93 : AVal), i + n = T.tab.C →
    Goes (execT env (Try.f39.at [1, 1, 1, 1, 1, 0, 1, 0]) ⟨[j0, j1, .ptr 0 0 0 0, j3, j4, .func 101 [] [], j6, j7, j8, j9, j10, j11, j12, j13, j14, j15, j16, j17, j18, j19, j20, j21, j22, j23, j24, j25, j26, j27, j28, j29, j30, j31, j32, j33, j34, j35, j36, j37, j38, j39, j40, j41, j42, j43, j44, j45, j46, j47, j48, j49, j50, j51, j52, j53, j54, j55, j56, j57, j58, j59, j60, j61, j62, j63, j64, j65, j66, j67, j68, j69, j70, j71, j72, j73, j74, j75, j76, .ref 1 0 0 T.tab.C false, .int .i64 T.tab.C, .int .i64 i, j80, j81, j82, j83, j84, j85, j86, j87, j88, j89, j90, j91, j92, j93], [boxT T, .cells 0 1 true (intsV T.tab.C f)], [], 0, []⟩) fun ex st =>
      if allN (fun i => (T.tab.col i).has (f i)) i n then ex = .exit 4 ∧ ∃ (H : Heap), FrP 94 [] H [] 0 [] st
      else ex = .ret ∧ ∃ (H : Heap), FrP 94 [(4, .bool false)] H [] 0 [] st := by
  have hC8 := hO.C8
  intro n
  induction n with
  | zero =>
    intro i; intros; rename_i hi
    have hd : decide ((i : Int) < (T.tab.C : Int)) = false := by simp; omega
    simp only [go_sem, simprocAttr, Try.f39]
    rw [exec_loop]
    simp only [go_sem, simprocAttr, hd]
    exact ⟨_, frP (by kernel_rfl)⟩
  | succ n ih =>
    intro i; intros; rename_i hi
    have hiC : i < T.tab.C := by omega
    have hd : decide ((i : Int) < (T.tab.C : Int)) = true := by simp; omega
    have h0i : (0 : Int) ≤ (i : Int) := by omega
    obtain ⟨r1, r2⟩ := TabV.colAt hT hiC
    have g1 := intsV_get (f := f) hiC
    cases hp : (T.tab.col i).has (f i) with
    | false =>
      simp only [go_sem, simprocAttr, Try.f39, boxT]
      rw [exec_loop]
      simp only [go_sem, simprocAttr, hd, h0i, Int.toNat_natCast, r1, r2, g1, allN, hp]
      exact ⟨_, frP (by kernel_rfl)⟩
    | true =>
      have ih' := ih (i + 1)
      simp only [go_sem, simprocAttr, Try.f39, boxT] at ih' ⊢
      rw [exec_loop]
      simp only [go_sem, simprocAttr, hd, h0i, Int.toNat_natCast, r1, r2, g1, allN, hp, wrap_succ (show i < 2 ^ 63 - 1 by omega)]
      exact ih' _ _ _ _ _ _ _ _ _ _ _ _ _ _ _ _ _ _ _ _ _ _ _ _ _ _ _ _ _ _ _ _ _ _ _ _ _ _ _ _ _ _ _ _ _ _ _ _ _ _ _ _ _ _ _ _ _ _ _ _ _ _ _ _ _ _ _ _ _ _ _ _ _ _ _ _ _ _ _ _ _ _ _ _ _ _ _ _ _ (by omega)

def alwB (t : Tab) (m : List (List Int)) : Bool := dimsB t m && fitsB t (matOf m)

def alw' (t : Tab) (m : List (List Int)) : Bool := decide (m.length = t.R) && (allN (rowGd t m) 0 t.R && allN (fun k => (t.col k).has (sumN t.R fun i => matOf m i k)) 0 t.C)

theorem alw_eq (t : Tab) (m : List (List Int)) : alwB t m = alw' t m := by
  rw [Bool.eq_iff_iff]
  unfold alwB alw' dimsB fitsB
  simp only [Bool.and_eq_true, decide_eq_true_eq, allN_iff, List.all_eq_true, rowGd, cellsGd]
  constructor
  · rintro ⟨⟨h1, h2⟩, h3, h4, h5⟩
    refine ⟨h1, fun j a b => ⟨?_, h3 j a b, h4 j a b⟩, h5⟩
    exact h2 _ (getD_mem (by omega) [])
  · rintro ⟨h1, h2, h3⟩
    refine ⟨⟨h1, fun l hl => ?_⟩, fun j a b => (h2 j a b).2.1, fun j a b => (h2 j a b).2.2, h3⟩
    obtain ⟨i, hi, e⟩ := List.getElem_of_mem hl
    have := (h2 i (by omega) (by omega)).1
    rw [List.getD_eq_getElem?_getD, List.getElem?_eq_getElem hi] at this
    simpa [e] using this

theorem allowed_call {T : TabV} {M : MatV} (hT : T.Wf) (hO : T.tab.Ok) (hM : M.Wf) (ro : Nat) (H : Heap) (nx : Nat) : callT env 39 [T.v, M.v] ro H nx = some (.ret (.bool (alwB T.tab M.m)), .ups []) := by
  have hC8 := hO.C8
  have hR8 := hO.R8
  have : ∃ H', runT env 39 [T.v, M.v] [] 0 = some (.ret (.bool (alwB T.tab M.m)), H') := by
    rw [alw_eq]
    unfold alw'
    have hll := hM.len
    have lr : T.rows.l.length = T.tab.R := rfl
    have lc : T.cols.l.length = T.tab.C := rfl
    have lm : M.m.length = M.rows.length := by simp [MatV.m]
    have el : decide ((M.rows.length : Int) = (T.tab.R : Int)) = decide (M.rows.length = T.tab.R) := decide_eq_decide.2 (by omega)
    rw [lm, run_unfold fn39 rfl]
    cases h1 : decide (M.rows.length = T.tab.R) with
    | false =>
      simp only [go_sem, simprocAttr, Try.f39, MatV.v, List.length_map, lr, el, h1, unwind, modeEx, resultsOf, one]
      exact ⟨_, rfl⟩
    | true =>
      have h1' := of_decide_eq_true h1
      have d1 : decide ((T.tab.R : Int) = (T.tab.R : Int)) = true := decide_eq_true rfl
      have c0 : (0 : Int) ≤ (T.tab.C : Int) := by omega
      have m1 : T.tab.C * 9 ≤ maxBytes := by unfold maxBytes; omega
      have e0 : intsV T.tab.C (cS (matOf M.m) 0 0) = List.replicate T.tab.C (AVal.int .i64 0) := by
        rw [intsV_rep]
        exact intsV_congr fun j hj => by unfold cS; rw [if_neg (by omega)]; rfl
      obtain ⟨ex, st, hx, hp⟩ := al_outer hT hO hM h1' T.tab.R 0 _ _ _ _ _ _ _ _ _ _ _ _ _ _ _ _ _ _ _ _ _ _ _ _ _ _ _ _ _ _ _ _ _ _ _ _ _ _ _ _ _ _ _ _ _ _ _ _ _ _ _ _ _ _ _ _ _ _ _ _ _ _ _ _ _ _ _ _ _ _ _ _ _ _ _ _ _ _ _ _ _ _ _ _ _ _ _ _ (by omega) (fun i' hi' => by omega)
      simp only [go_sem, simprocAttr, Try.f39, Int.ofNat_zero, Int.natCast_zero, alH, boxT, e0] at hx
      simp only [go_sem, simprocAttr, Try.f39, MatV.v, List.length_map, lr, lc, h1', d1, Int.toNat_natCast, c0, m1]
      rw [hx]
      cases hr : allN (rowGd T.tab M.m) 0 T.tab.R with
      | false =>
        rw [hr, if_neg (by simp)] at hp
        obtain ⟨rfl, H2, jp, rfl⟩ := hp
        simp only [go_sem, simprocAttr, unwind, modeEx, resultsOf, one]
        exact ⟨_, rfl⟩
      | true =>
        rw [hr, if_pos rfl] at hp
        obtain ⟨rfl, hB, jp, rfl⟩ := hp
        obtain ⟨ex2, st2, hx2, hp2⟩ := al_cols hT hO (cS (matOf M.m) T.tab.R 0) T.tab.C 0 _ _ _ _ _ _ _ _ _ _ _ _ _ _ _ _ _ _ _ _ _ _ _ _ _ _ _ _ _ _ _ _ _ _ _ _ _ _ _ _ _ _ _ _ _ _ _ _ _ _ _ _ _ _ _ _ _ _ _ _ _ _ _ _ _ _ _ _ _ _ _ _ _ _ _ _ _ _ _ _ _ _ _ _ _ _ _ _ _ (by omega)
        have e2 : allN (fun i => (T.tab.col i).has (cS (matOf M.m) T.tab.R 0 i)) 0 T.tab.C = allN (fun k => (T.tab.col k).has (sumN T.tab.R fun i => matOf M.m i k)) 0 T.tab.C := allN_congr fun j _ _ => by unfold cS; rw [if_neg (by omega)]
        rw [e2] at hp2
        simp only [go_sem, simprocAttr, Try.f39, Int.ofNat_zero, Int.natCast_zero, boxT] at hx2
        simp only [go_sem, simprocAttr, alH, boxT]
        rw [hx2]
        cases h3 : allN (fun k => (T.tab.col k).has (sumN T.tab.R fun i => matOf M.m i k)) 0 T.tab.C with
        | false =>
          rw [h3, if_neg (by simp)] at hp2
          obtain ⟨rfl, H2, jq, rfl⟩ := hp2
          simp only [go_sem, simprocAttr, unwind, modeEx, resultsOf, one]
          exact ⟨_, rfl⟩
        | true =>
          rw [h3, if_pos rfl] at hp2
          obtain ⟨rfl, H2, jq, rfl⟩ := hp2
          simp only [go_sem, simprocAttr, unwind, modeEx, resultsOf, one]
          exact ⟨_, rfl⟩
  obtain ⟨H', h⟩ := this
  exact call_pure rfl rfl rfl (by simp [underL, TabV.under, MatV.under]) h rfl ro H nx
end Go.Proofs.Ytgfejpngfikjiaa.Tidy

namespace Go.Proofs.Ytgfejpngfikjiaa.Tidy
open Go

def apartW (bf : Array Nat) : List Foot → Bool
  | [] => true
  | a :: l => (l.all fun b => (a.writes.isEmpty && b.writes.isEmpty) || (bf.getD b.i 0).testBit a.i) && apartW bf l
theorem apart_of_W {bf : Array Nat} : ∀ {l : List Foot}, apartW bf l = true → apart bf l = true
  | [], _ => rfl
  | a :: l, h => by
    simp only [apartW, Bool.and_eq_true, List.all_eq_true] at h
    simp only [apart, Bool.and_eq_true, List.all_eq_true]
    refine ⟨fun b hb => ?_, apart_of_W h.2⟩
    have := h.1 b hb
    rw [Bool.or_eq_true] at this ⊢
    rcases this with h1 | h1
    · left
      simp only [Bool.and_eq_true, List.isEmpty_iff] at h1
      simp [clash, meets, h1.1, h1.2]
    · exact .inr h1

abbrev RowD := Nat × List AVal

def rowT (sz : Nat) : Nat → List RowD → Heap
  | _, [] => []
  | p, r :: rs => .cells r.1 sz true r.2 :: .cells 0 1 false [.ref p r.1 0 r.2.length false] :: rowT sz (p + 2) rs
def rowR : Nat → List RowD → List AVal
  | _, [] => []
  | p, r :: rs => .ref p r.1 0 r.2.length false :: rowR (p + 2) rs

theorem rowT_length (sz : Nat) : ∀ (rs : List RowD) (p : Nat), (rowT sz p rs).length = 2 * rs.length
  | [], _ => rfl
  | r :: rs, p => by simp only [rowT, List.length_cons, rowT_length sz rs]; omega
theorem rowR_length : ∀ (rs : List RowD) (p : Nat), (rowR p rs).length = rs.length
  | [], _ => rfl
  | r :: rs, p => by simp only [rowR, List.length_cons, rowR_length rs]
theorem rowT_snoc (sz : Nat) (r : RowD) : ∀ (rs : List RowD) (p : Nat), rowT sz p (rs ++ [r]) = rowT sz p rs ++ [.cells r.1 sz true r.2, .cells 0 1 false [.ref (p + 2 * rs.length) r.1 0 r.2.length false]]
  | [], p => rfl
  | x :: rs, p => by
    simp only [List.cons_append, rowT, rowT_snoc sz r rs, List.length_cons]
    rw [show p + 2 + 2 * rs.length = p + 2 * (rs.length + 1) by omega]
theorem rowR_snoc (r : RowD) : ∀ (rs : List RowD) (p : Nat), rowR p (rs ++ [r]) = rowR p rs ++ [.ref (p + 2 * rs.length) r.1 0 r.2.length false]
  | [], p => rfl
  | x :: rs, p => by
    simp only [List.cons_append, rowR, rowR_snoc r rs, List.length_cons]
    rw [show p + 2 + 2 * rs.length = p + 2 * (rs.length + 1) by omega]
theorem rowT_get (sz : Nat) : ∀ (rs : List RowD) (p i : Nat) (r : RowD), rs[i]? = some r → (rowT sz p rs)[2 * i]? = some (.cells r.1 sz true r.2)
  | [], _, i, r, h => by simp at h
  | x :: rs, p, 0, r, h => by simp at h; subst h; rfl
  | x :: rs, p, i + 1, r, h => by
    simp only [List.getElem?_cons_succ] at h
    have := rowT_get sz rs (p + 2) i r h
    rw [show 2 * (i + 1) = 2 * i + 1 + 1 by omega]
    simpa [rowT] using this
theorem rowR_get : ∀ (rs : List RowD) (p i : Nat) (r : RowD), rs[i]? = some r → (rowR p rs)[i]? = some (.ref (p + 2 * i) r.1 0 r.2.length false)
  | [], _, i, r, h => by simp at h
  | x :: rs, p, 0, r, h => by simp at h; subst h; rfl
  | x :: rs, p, i + 1, r, h => by
    simp only [List.getElem?_cons_succ] at h
    have := rowR_get rs (p + 2) i r h
    rw [show p + 2 * (i + 1) = p + 2 + 2 * i by omega]
    simpa [rowR] using this

def accR (g p : Nat) (rs : List RowD) : Blk := if rs = [] then .cells 0 0 false [] else .cells g 1 false (rowR p rs)
def gR (g : Nat) (rs : List RowD) : Nat := if rs = [] then 0 else g
theorem accR_nil (g p : Nat) : accR g p [] = .cells 0 0 false [] := rfl
theorem gR_nil (g : Nat) : gR g [] = 0 := rfl

theorem append_row {t e n m : Nat} {z : AVal} {te : TI} (ht : env.ti t = some ⟨.slice e, n, m, z⟩) (he : env.ti e = some te) (hz : te.sz = 1 ∧ te.bytes = 24 ∧ te.zero.cellsOf.length = 1 ∧ te.zero.isTuple = false) (hfl : flatTy env 8 e = false)
    {H : Heap} {q j g p : Nat} {rs : List RowD} {r : RowD} {cl : Bool} (hH : H[q]? = some (accR g p rs)) (hj : H[j]? = some (.cells 0 1 false [.ref (p + 2 * rs.length) r.1 0 r.2.length false])) (hb : rs.length < 2 ^ 20) (nx : Nat) {ro : Nat} (hro : ro ≤ q) :
    ∃ g', appendOp env ro nx t (.ref q (gR g rs) 0 rs.length false) (.ref j 0 0 1 cl) H = some (.ref q (gR g' (rs ++ [r])) 0 (rs ++ [r]).length false, [(q, accR g' p (rs ++ [r]))]) := by
  have hne : ∀ l : List RowD, l ++ [r] ≠ [] := by simp
  obtain ⟨z1, z2, z3, z4⟩ := hz
  have hel : elems H (.ref j 0 0 1 cl) = some (1, [.ref (p + 2 * rs.length) r.1 0 r.2.length false]) := by simp [elems, hj]
  by_cases h : rs = []
  · subst h
    refine ⟨1, ?_⟩
    simp only [List.length_nil] at hel
    simp only [accR, gR, if_true, List.nil_append] at hH ⊢
    simp [appendOp, ht, he, hel, z1, z2, z3, z4, hH, hfl, hro, rowR, maxBytes]
  · have hgr := append_ref (E := env) (ro := ro) (nx := nx) (t := t) (e := e) (n := n) (m := m) (z := z) (te := te) (H := H) (id := q) (g := g) (len := rs.length) (x := .ref j 0 0 1 cl) (nsz := 1) (new := [.ref (p + 2 * rs.length) r.1 0 r.2.length false]) (fl := false) (bs := rowR p rs) ht he hel ⟨by omega, by omega, z4⟩ z1.symm (by simp)
      (by rw [hH, accR, if_neg h, z1]) (rowR_length rs p) (List.length_pos_iff.2 h) hro (by rw [z2]; simp only [List.length_singleton, maxBytes]; omega) (fun h => by cases h)
    refine ⟨g + 1, ?_⟩
    simp only [gR, if_neg h, if_neg (hne rs), accR]
    rw [hgr, z1, rowR_snoc]
    simp

def rwH (A B : Heap) (g sz : Nat) (rs : List RowD) : Heap := A ++ (accR g (A.length + 1 + B.length) rs :: (B ++ rowT sz (A.length + 1 + B.length) rs))

section
variable {A B : Heap} {g sz : Nat} {rs : List RowD}
theorem rwH_len : (rwH A B g sz rs).length = A.length + 1 + B.length + 2 * rs.length := by
  simp only [rwH, List.length_append, List.length_cons, rowT_length]; omega
theorem rwH_acc (Z : Heap) : (rwH A B g sz rs ++ Z)[A.length]? = some (accR g (A.length + 1 + B.length) rs) := by
  simp [rwH]
theorem rwH_A (Z : Heap) {i : Nat} (h : i < A.length) : (rwH A B g sz rs ++ Z)[i]? = A[i]? := by
  unfold rwH
  rw [List.append_assoc, List.getElem?_append_left h]
theorem rwH_B (Z : Heap) {i : Nat} (h : i < B.length) : (rwH A B g sz rs ++ Z)[A.length + 1 + i]? = B[i]? := by
  unfold rwH
  rw [List.append_assoc, List.getElem?_append_right (by omega), show A.length + 1 + i - A.length = i + 1 by omega, List.cons_append, List.getElem?_cons_succ, List.append_assoc, List.getElem?_append_left h]
theorem rwH_row (Z : Heap) {i : Nat} {r : RowD} (h : rs[i]? = some r) : (rwH A B g sz rs ++ Z)[A.length + 1 + B.length + 2 * i]? = some (.cells r.1 sz true r.2) := by
  have hi : i < rs.length := (List.getElem?_eq_some_iff.1 h).1
  have hl := rowT_length sz rs (A.length + 1 + B.length)
  unfold rwH
  rw [List.append_assoc, List.getElem?_append_right (by omega), show A.length + 1 + B.length + 2 * i - A.length = B.length + 2 * i + 1 by omega, List.cons_append, List.getElem?_cons_succ, List.append_assoc, List.getElem?_append_right (by omega), show B.length + 2 * i - B.length = 2 * i by omega, List.getElem?_append_left (by omega)]
  exact rowT_get sz rs _ i r h
theorem rwH_push {r : RowD} (g' : Nat) : ((rwH A B g sz rs ++ [Blk.cells r.1 sz true r.2]) ++ [Blk.cells 0 1 false [.ref (A.length + 1 + B.length + 2 * rs.length) r.1 0 r.2.length false]]).set A.length (accR g' (A.length + 1 + B.length) (rs ++ [r])) = rwH A B g' sz (rs ++ [r]) := by
  unfold rwH
  rw [List.append_assoc, List.append_assoc, List.set_append_right _ _ (by omega), Nat.sub_self, List.cons_append, List.set_cons_zero, rowT_snoc]
  simp
theorem rwH_trunc {r : RowD} {m : Nat} (hm : m = A.length + 1 + B.length + 2 * rs.length) (T : List AVal) (ro : Nat) (V : List Nat) : trunc m ⟨T, rwH A B g sz (rs ++ [r]), [], ro, V⟩ = ⟨T, rwH A B g sz (rs ++ [r]), [], ro, V⟩ := by
  have hr : rs ++ [r] ≠ [] := by simp
  unfold trunc
  have h1 : ¬ (rwH A B g sz (rs ++ [r])).length ≤ m := by rw [rwH_len, List.length_append, List.length_singleton]; omega
  have h2 : ((rwH A B g sz (rs ++ [r])).take m).all (underB m) = false := by
    cases h : ((rwH A B g sz (rs ++ [r])).take m).all (underB m) with
    | false => rfl
    | true =>
      have h3 : ((rwH A B g sz (rs ++ [r])).take m)[A.length]? = some (.cells g 1 false (rowR (A.length + 1 + B.length) (rs ++ [r]))) := by
        rw [List.getElem?_take, if_pos (by omega)]
        have := rwH_acc (A := A) (B := B) (g := g) (sz := sz) (rs := rs ++ [r]) []
        rw [List.append_nil] at this
        rw [this, accR, if_neg hr]
      have h4 := List.all_eq_true.1 h _ (List.mem_of_getElem? h3)
      simp only [underB, Bool.false_or] at h4
      have h5 : (rowR (A.length + 1 + B.length) (rs ++ [r]))[rs.length]? = some (.ref (A.length + 1 + B.length + 2 * rs.length) r.1 0 r.2.length false) := rowR_get _ _ _ _ (by simp)
      have h6 := underL_mem h4 _ (List.mem_of_getElem? h5)
      simp only [AVal.under, decide_eq_true_eq] at h6
      omega
  simp only [h1, if_false, h2, Bool.false_and, Bool.false_eq_true]
end

theorem trunc_keep {m : Nat} {T : List AVal} {H : Heap} {df : List (Nat × List AVal)} {ro : Nat} {V : List Nat} {i g sz : Nat} {es : List AVal} {p g' o n : Nat} {cl : Bool} (hi : i < m) (hb : H[i]? = some (.cells g sz false es)) (hr : AVal.ref p g' o n cl ∈ es) (hp : m ≤ p) : trunc m ⟨T, H, df, ro, V⟩ = ⟨T, H, df, ro, V⟩ := by
  unfold trunc
  by_cases h1 : H.length ≤ m
  · simp only [h1, if_true]
  · have h2 : (H.take m).all (underB m) = false := by
      cases h : (H.take m).all (underB m) with
      | false => rfl
      | true =>
        have h3 : (H.take m)[i]? = some (.cells g sz false es) := by rw [List.getElem?_take, if_pos hi, hb]
        have h4 := List.all_eq_true.1 h _ (List.mem_of_getElem? h3)
        simp only [underB, Bool.false_or] at h4
        have h5 := underL_mem h4 _ hr
        simp only [AVal.under, decide_eq_true_eq] at h5
        omega
    simp only [h1, if_false, h2, Bool.false_and, Bool.false_eq_true]

theorem mapO_rows {H : Heap} {ok : Nat → Bool} {sz n : Nat} : ∀ (rs : List RowD) (p : Nat), (∀ i r, rs[i]? = some r → H[p + 2 * i]? = some (.cells r.1 sz true r.2)) → (∀ j, p ≤ j → ok j = true) → mapO (toLit ok H (n + 1)) (rowR p rs) = some (rs.map fun r => .lit false sz r.2)
  | [], _, _, _ => rfl
  | r :: rs, p, h, hok => by
    have h0 := h 0 r rfl
    have ih := mapO_rows (H := H) (ok := ok) (sz := sz) (n := n) rs (p + 2) (fun i x hx => by
      have := h (i + 1) x (by simpa using hx)
      rw [show p + 2 + 2 * i = p + 2 * (i + 1) by omega]; exact this) fun j hj => hok j (by omega)
    simp only [Nat.mul_zero, Nat.add_zero] at h0
    have ht : (r.2.drop 0).take r.2.length = r.2 := by simp
    simp only [rowR, mapO, ih, List.map_cons]
    simp [toLit, noRef, AVal.under, h0, hok p (Nat.le_refl _)]

theorem set_snoc {X : Heap} {nx : Nat} (hX : X.length = nx) (b b' : Blk) : (X ++ [b]).set nx b' = X ++ [b'] := by
  subst hX
  rw [List.set_append_right _ _ (by omega), Nat.sub_self]; rfl
theorem get_snoc {X : Heap} {nx : Nat} (hX : X.length = nx) (b : Blk) : (X ++ [b])[nx]? = some b := by
  subst hX; simp
theorem len_snoc {X : Heap} {nx : Nat} (hX : X.length = nx) (b : Blk) : (X ++ [b]).length = nx + 1 := by simp [hX]
theorem low_snoc {X : Heap} {nx i : Nat} (hX : X.length = nx) (b : Blk) (hi : i < nx) : (X ++ [b])[i]? = X[i]? := by
  rw [List.getElem?_append_left (by omega)]

def rowsLit (sz : Nat) (rs : List RowD) : AVal := .lit false (if rs = [] then 0 else 1) (rs.map fun r => .lit false sz r.2)

theorem toLit_rows {A B Z : Heap} {ok : Nat → Bool} {g sz n : Nat} {rs : List RowD} (h1 : ok A.length = true) (h2 : ∀ j, A.length + 1 + B.length ≤ j → ok j = true) : toLit ok (rwH A B g sz rs ++ Z) (n + 2) (.ref A.length (gR g rs) 0 rs.length false) = some (rowsLit sz rs) := by
  have ha := rwH_acc (A := A) (B := B) (g := g) (sz := sz) (rs := rs) Z
  by_cases h : rs = []
  · subst h
    rw [accR_nil] at ha
    simp [toLit, noRef, AVal.under, ha, h1, gR, mapO, rowsLit]
  · rw [accR, if_neg h] at ha
    have hm := mapO_rows (H := rwH A B g sz rs ++ Z) (ok := ok) (sz := sz) (n := n) rs (A.length + 1 + B.length) (fun i r hr => rwH_row Z hr) h2
    have ht : (rowR (A.length + 1 + B.length) rs).take rs.length = rowR (A.length + 1 + B.length) rs := List.take_of_length_le (by rw [rowR_length]; exact Nat.le_refl _)
    unfold toLit
    simp only [noRef, AVal.under, Nat.not_lt_zero, decide_false, Bool.false_eq_true, if_false, ha, h1, gR, if_neg h, decide_true, Nat.zero_add, rowR_length, Nat.le_refl, if_true, List.drop_zero, ht, hm, rowsLit, Bool.and_true]
    rfl
end Go.Proofs.Ytgfejpngfikjiaa.Tidy

namespace Go.Proofs.Ytgfejpngfikjiaa.Tidy
open Go Go.IntWalk
set_option maxRecDepth 10000
set_option linter.unusedSimpArgs false
set_option maxHeartbeats 2000000

def fillV (C : Nat) (φ : Nat → Int) (k : Nat) : List AVal := intsV C fun i => if i < k then φ i else 0

theorem fillV_zero (C : Nat) (φ : Nat → Int) : List.replicate C (AVal.int .i64 0) = fillV C φ 0 := by
  rw [intsV_rep]
  exact intsV_congr fun i _ => by simp

theorem fillV_full (C : Nat) (φ : Nat → Int) : fillV C φ C = intsV C φ := intsV_congr fun i hi => if_pos hi

theorem fillV_set {C : Nat} (φ : Nat → Int) {k : Nat} : (fillV C φ k).set k (.int .i64 (φ k)) = fillV C φ (k + 1) := by
  unfold fillV
  refine intsV_set fun i _ => ?_
  by_cases h : i = k
  · subst h; rw [if_pos rfl, if_pos (by omega)]
  · rw [if_neg h]
    by_cases h2 : i < k
    · rw [if_pos h2, if_pos (by omega)]
    · rw [if_neg h2, if_neg (by omega)]
theorem fillV_length (C : Nat) (φ : Nat → Int) (k : Nat) : (fillV C φ k).length = C := intsV_length _ _
theorem fillV_get {C k i : Nat} (φ : Nat → Int) (h : i < C) : (fillV C φ k)[i]? = some (.int .i64 (if i < k then φ i else 0)) := intsV_get h

theorem looks_net {H : Heap} {R C g n gn : Nat} {G : Net} {f : Nat → Int} (h : NetAt H 0 1 R C g n (arcB gn G f)) : looks H fuel0 [0] [] = some [0, 1] := by
  have h1 := h.net
  have h2 := h.arcs
  simp only [netB, arcB] at h1 h2
  unfold fuel0
  simp [looks, h1, h2, refsL, AVal.refs]

theorem mat_inner {t : Tab} {gn : Nat} {f : Nat → Int} {X : Heap} {nx : Nat} (hX : X.length = nx) (h0 : X[0]? = some (netB t.R t.C 1 gn t.net.n)) (h1 : X[1]? = some (arcB gn t.net f)) (h2 : 2 ≤ nx) (hC8 : t.C ≤ 8) {i : Nat} (hi : i < t.R) (hR8 : t.R ≤ 8) (v3 v10 v11 : AVal) : ∀ (n k : Nat) (j1 j2 j6 j7 j8 j9 j12 j13 j14 j15 j16 j17 j18 j19 j22 j23 j24 j25 j26 j27 j28 j29 j30 j31 j32 j33 j34 j35 j36 j37 j38 j39 j40 j41 j42 j43 j44 : AVal), k + n = t.C →
    Goes (execT env (Try.f106.at [1, 1, 0, 1, 0, 0, 1, 1, 0, 0, 1, 1, 0, 1, 0]) ⟨[.ptr 0 0 0 0, j1, j2, v3, .int .i64 i, .ref nx 0 0 t.C false, j6, j7, j8, j9, v10, v11, j12, j13, j14, j15, j16, j17, j18, j19, .int .i64 t.C, .int .i64 k, j22, j23, j24, j25, j26, j27, j28, j29, j30, j31, j32, j33, j34, j35, j36, j37, j38, j39, j40, j41, j42, j43, j44], X ++ [.cells 0 1 true (fillV t.C (t.mat f i) k)], [], 2, [3, 41]⟩) fun ex st =>
      ex = .exit 2 ∧ FrP 45 [(0, .ptr 0 0 0 0), (3, v3), (5, .ref nx 0 0 t.C false), (10, v10), (11, v11)] (X ++ [.cells 0 1 true (intsV t.C (t.mat f i))]) [] 2 [3, 41] st := by
  intro n
  induction n with
  | zero =>
    intro k; intros; rename_i hk
    have hd : decide ((k : Int) < (t.C : Int)) = false := by simp; omega
    have : k = t.C := by omega
    subst this
    simp only [go_sem, simprocAttr, Try.f106]
    rw [exec_loop]
    simp only [go_sem, simprocAttr, hd, fillV_full]
    exact frP (by kernel_rfl)
  | succ n ih =>
    intro k; intros; rename_i hk
    have hkC : k < t.C := by omega
    have hd : decide ((k : Int) < (t.C : Int)) = true := by simp; omega
    have k0 : (0 : Int) ≤ (k : Int) := by omega
    have hlt := cell_lt hi hkC
    have hj : i * t.C + k < t.net.n := by show _ < t.R * t.C + t.R + t.C; omega
    have hA : NetAt (X ++ [Blk.cells 0 1 true (fillV t.C (t.mat f i) k)]) 0 1 t.R t.C gn t.net.n (arcB gn t.net f) := ⟨by rw [low_snoc hX _ (by omega), h0], by rw [low_snoc hX _ (by omega), h1], by decide, flat_arcB _ _ _⟩
    have cc := cellArc_call hA (i := i) (k := k) (by omega) hC8 (by omega) 2 (nx + 1)
    have hN := hA.net
    have hB := hA.arcs
    have hlk := looks_net hA
    have hS := get_snoc hX (Blk.cells 0 1 true (fillV t.C (t.mat f i) k))
    have hL := len_snoc hX (Blk.cells 0 1 true (fillV t.C (t.mat f i) k))
    have ha := arcsV_get (f := f) hj
    have hg : (fillV t.C (t.mat f i) k)[k]? = some (.int .i64 0) := by rw [fillV_get _ hkC, if_neg (Nat.lt_irrefl k)]
    have z0 : decide (0 < nx + 1) = true := decide_eq_true (by omega)
    have z1 : decide (1 < nx + 1) = true := decide_eq_true (by omega)
    have z2 : decide (nx < nx + 1) = true := decide_eq_true (by omega)
    have hdj : decide (((i * t.C + k : Nat) : Int) < (t.net.n : Int)) = true := by simp only [decide_eq_true_eq]; omega
    have j0 : (0 : Int) ≤ ((i * t.C + k : Nat) : Int) := by omega
    have hst : ∀ b', (X ++ [Blk.cells 0 1 true (fillV t.C (t.mat f i) k)]).set nx b' = X ++ [b'] := fun b' => set_snoc hX _ b'
    have hfs : (fillV t.C (t.mat f i) k).set k (.int .i64 (f (i * t.C + k))) = fillV t.C (t.mat f i) (k + 1) := fillV_set (t.mat f i)
    have ro2 : decide (2 ≤ nx) = true := decide_eq_true h2
    have lt1 : (nx < nx + 1) = True := eq_true (by omega)
    have htr : ∀ T, trunc (nx + 1) ⟨T, X ++ [Blk.cells 0 1 true (fillV t.C (t.mat f i) (k + 1))], [], 2, [3, 41]⟩ = ⟨T, X ++ [Blk.cells 0 1 true (fillV t.C (t.mat f i) (k + 1))], [], 2, [3, 41]⟩ := fun T => by
      unfold trunc
      rw [if_pos (by rw [len_snoc hX]; exact Nat.le_refl _)]
    have ih' := ih (k + 1)
    simp only [netB, arcB] at cc hN hB
    simp only [go_sem, simprocAttr, Try.f106] at ih' ⊢
    rw [exec_loop]
    simp only [go_sem, simprocAttr, hd, k0, Int.toNat_natCast, cc, hN, hB, hS, hL, ha, hg, hdj, j0, hst, hfs, ro2, lt1, z0, z1, z2, hlk, fillV_length, arcsV_length, h2]
    rw [apart_ok]
    · simp only [go_sem, simprocAttr, htr, hL, wrap_succ (show k < 2 ^ 63 - 1 by omega)]
      exact ih' _ _ _ _ _ _ _ _ _ _ _ _ _ _ _ _ _ _ _ _ _ _ _ _ _ _ _ _ _ _ _ _ _ _ _ _ _ (by omega)
    · exact apart_of_W (by kernel_rfl)

def matD (t : Tab) (f : Nat → Int) (n : Nat) : List RowD := (List.range n).map fun i => (0, intsV t.C (t.mat f i))
theorem matD_succ (t : Tab) (f : Nat → Int) (n : Nat) : matD t f (n + 1) = matD t f n ++ [(0, intsV t.C (t.mat f n))] := by simp [matD, List.range_succ]
theorem matD_length (t : Tab) (f : Nat → Int) (n : Nat) : (matD t f n).length = n := by simp [matD]

def mtH (t : Tab) (gn : Nat) (f : Nat → Int) (g n : Nat) : Heap := rwH [netB t.R t.C 1 gn t.net.n, arcB gn t.net f] [] g 1 (matD t f n)

theorem mat_outer {t : Tab} {gn : Nat} {f : Nat → Int} (hC8 : t.C ≤ 8) (hR8 : t.R ≤ 8) : ∀ (n i g : Nat) (j1 j2 j4 j5 j6 j7 j8 j9 j12 j13 j14 j15 j16 j17 j18 j19 j20 j21 j22 j23 j24 j25 j26 j27 j28 j29 j30 j31 j32 j33 j34 j35 j36 j37 j38 j39 j40 j41 j42 j43 j44 : AVal), i + n = t.R →
    Goes (execT env (Try.f106.at [1, 1, 0, 1, 0]) ⟨[.ptr 0 0 0 0, j1, j2, .ref 2 (gR g (matD t f i)) 0 (matD t f i).length false, j4, j5, j6, j7, j8, j9, .int .i64 t.R, .int .i64 i, j12, j13, j14, j15, j16, j17, j18, j19, j20, j21, j22, j23, j24, j25, j26, j27, j28, j29, j30, j31, j32, j33, j34, j35, j36, j37, j38, j39, j40, j41, j42, j43, j44], mtH t gn f g i, [], 2, [3, 41]⟩) fun ex st =>
      ex = .exit 0 ∧ ∃ (g : Nat), FrP 45 [(3, .ref 2 (gR g (matD t f t.R)) 0 (matD t f t.R).length false)] (mtH t gn f g t.R) [] 2 [3, 41] st := by
  intro n
  induction n with
  | zero =>
    intro i g; intros; rename_i hi
    have hd : decide ((i : Int) < (t.R : Int)) = false := by simp; omega
    have : i = t.R := by omega
    subst this
    simp only [go_sem, simprocAttr, Try.f106]
    rw [exec_loop]
    simp only [go_sem, simprocAttr, hd]
    exact ⟨g, frP (by kernel_rfl)⟩
  | succ n ih =>
    intro i g; intros; rename_i hi
    have hiR : i < t.R := by omega
    have hd : decide ((i : Int) < (t.R : Int)) = true := by simp; omega
    have c0 : (0 : Int) ≤ (t.C : Int) := by omega
    have m1 : t.C * 9 ≤ maxBytes := by unfold maxBytes; omega
    have hX : (mtH t gn f g i).length = 3 + 2 * i := by unfold mtH; rw [rwH_len, matD_length]; rfl
    have h0 : ∀ Z : Heap, (mtH t gn f g i ++ Z)[0]? = some (netB t.R t.C 1 gn t.net.n) := fun Z => rwH_A Z (A := [netB t.R t.C 1 gn t.net.n, arcB gn t.net f]) (i := 0) (Nat.zero_lt_succ 1)
    have h1 : ∀ Z : Heap, (mtH t gn f g i ++ Z)[1]? = some (arcB gn t.net f) := fun Z => rwH_A Z (A := [netB t.R t.C 1 gn t.net.n, arcB gn t.net f]) (i := 1) (Nat.lt_succ_self 1)
    have h0' : (mtH t gn f g i)[0]? = some (netB t.R t.C 1 gn t.net.n) := by have := h0 []; rwa [List.append_nil] at this
    have h1' : (mtH t gn f g i)[1]? = some (arcB gn t.net f) := by have := h1 []; rwa [List.append_nil] at this
    obtain ⟨ex, st, hx, hp⟩ := mat_inner (t := t) (gn := gn) (f := f) hX h0' h1' (by omega) hC8 hiR hR8 (.ref 2 (gR g (matD t f i)) 0 (matD t f i).length false) (.int .i64 t.R) (.int .i64 i) t.C 0 _ _ _ _ _ _ _ _ _ _ _ _ _ _ _ _ _ _ _ _ _ _ _ _ _ _ _ _ _ _ _ _ _ _ _ _ _ (by omega)
    obtain ⟨rfl, jp, rfl⟩ := hp
    have hL := len_snoc hX (Blk.cells 0 1 true (intsV t.C (t.mat f i)))
    have hrl : ((0, intsV t.C (t.mat f i)) : RowD).2.length = t.C := intsV_length _ _
    have hacc : ∀ Z : Heap, (mtH t gn f g i ++ Z)[2]? = some (accR g 3 (matD t f i)) := fun Z => rwH_acc Z
    have hpos : ∀ b, ((mtH t gn f g i ++ [Blk.cells 0 1 true (intsV t.C (t.mat f i))]) ++ [b])[3 + 2 * i + 1]? = some b := fun b => get_snoc hL b
    obtain ⟨g', ap⟩ := append_row (t := 46) (H := (mtH t gn f g i ++ [Blk.cells 0 1 true (intsV t.C (t.mat f i))]) ++ [Blk.cells 0 1 false [AVal.ref (3 + 2 * i) 0 0 t.C false]]) (q := 2) (j := 3 + 2 * i + 1) (g := g) (p := 3) (rs := matD t f i) (r := (0, intsV t.C (t.mat f i))) (cl := false) (ro := 2) ti46 ti51 ⟨rfl, rfl, rfl, rfl⟩ rfl
      (by rw [List.append_assoc]; exact hacc _) (by rw [hpos, matD_length, hrl]) (by rw [matD_length]; omega) (3 + 2 * i + 2) (Nat.le_refl _)
    rw [← matD_succ] at ap
    have hpush := rwH_push (A := [netB t.R t.C 1 gn t.net.n, arcB gn t.net f]) (B := []) (g := g) (sz := 1) (rs := matD t f i) (r := (0, intsV t.C (t.mat f i))) g'
    rw [← matD_succ] at hpush
    have hpush : ((mtH t gn f g i ++ [Blk.cells 0 1 true (intsV t.C (t.mat f i))]) ++ [Blk.cells 0 1 false [AVal.ref (3 + 2 * i) 0 0 t.C false]]).set 2 (accR g' 3 (matD t f (i + 1))) = mtH t gn f g' (i + 1) := by
      rw [matD_length, hrl] at hpush
      exact hpush
    have htr := fun T => rwH_trunc (A := [netB t.R t.C 1 gn t.net.n, arcB gn t.net f]) (B := []) (g := g') (sz := 1) (rs := matD t f i) (r := (0, intsV t.C (t.mat f i))) (m := 3 + 2 * i) (by rw [matD_length]; rfl) T 2 [3, 41]
    rw [← matD_succ] at htr
    have htr : ∀ T, trunc (3 + 2 * i) ⟨T, mtH t gn f g' (i + 1), [], 2, [3, 41]⟩ = ⟨T, mtH t gn f g' (i + 1), [], 2, [3, 41]⟩ := htr
    have z1 : decide (2 < 3 + 2 * i + 1 + 1) = true := decide_eq_true (by omega)
    have z2 : (2 < 3 + 2 * i + 1 + 1) = True := eq_true (by omega)
    have hL2 : ∀ b, ((mtH t gn f g i ++ [Blk.cells 0 1 true (intsV t.C (t.mat f i))]) ++ [b]).length = 3 + 2 * i + 1 + 1 := fun b => len_snoc hL b
    have ih' := ih (i + 1) g'
    simp only [go_sem, simprocAttr, Try.f106, Int.ofNat_zero, Int.natCast_zero] at ih' hx ⊢
    rw [exec_loop]
    simp only [go_sem, simprocAttr, hd, h0', netB, c0, m1, Int.toNat_natCast, fillV_zero t.C (t.mat f i), hX]
    rw [hx]
    simp only [go_sem, simprocAttr, hL, hL2, ap, hpush, htr, z1, z2, wrap_succ (show i < 2 ^ 63 - 1 by omega)]
    exact ih' _ _ _ _ _ _ _ _ _ _ _ _ _ _ _ _ _ _ _ _ _ _ _ _ _ _ _ _ _ _ _ _ _ _ _ _ _ _ _ _ _ (by omega)

set_option maxRecDepth 10000
set_option maxHeartbeats 2000000

def matM (t : Tab) (x : Nat → Nat → Int) : MatV := ⟨false, 1, vecA t.R fun i => ⟨false, 1, vecA t.C (x i)⟩⟩

theorem matM_lit {t : Tab} (hR : 1 ≤ t.R) (f : Nat → Int) : rowsLit 1 (matD t f t.R) = (matM t (t.mat f)).v := by
  have hne : matD t f t.R ≠ [] := fun h => by
    have := matD_length t f t.R
    rw [h] at this; simp at this; omega
  unfold rowsLit
  rw [if_neg hne]
  unfold matM MatV.v matD
  simp only [List.map_map, vecA]
  congr 1
  refine List.map_congr_left fun i _ => ?_
  show AVal.lit false 1 (intsV t.C (t.mat f i)) = _
  rw [intsV_eq]; rfl

theorem matM_m (t : Tab) (x : Nat → Nat → Int) : (matM t x).m = vecA t.R fun i => vecA t.C (x i) := by
  unfold MatV.m matM
  rw [vecA_map]

theorem matM_of {t : Tab} {x : Nat → Nat → Int} {i k : Nat} (hi : i < t.R) (hk : k < t.C) : matOf (matM t x).m i k = x i k := by
  rw [matM_m]
  unfold matOf
  have h1 : (vecA t.R fun i => vecA t.C (x i)).getD i [] = vecA t.C (x i) := getD_some (vecA_get _ hi)
  rw [h1]
  exact getD_some (vecA_get _ hk)

theorem matM_dims (t : Tab) (x : Nat → Nat → Int) : dimsB t (matM t x).m = true := by
  rw [matM_m]
  unfold dimsB
  simp [vecA]

theorem fits_congr {t : Tab} {x y : Nat → Nat → Int} (h : ∀ i k, i < t.R → k < t.C → x i k = y i k) (hx : Fits t x) : Fits t y where
  cell i k hi hk := by rw [← h i k hi hk]; exact hx.cell i k hi hk
  row i hi := by
    have := hx.row i hi
    rwa [sumN_congr fun k hk => h i k hi hk] at this
  col k hk := by
    have := hx.col k hk
    rwa [sumN_congr fun i hi => h i k hi hk] at this

theorem matM_fits {t : Tab} {x : Nat → Nat → Int} (h : Fits t x) : fitsB t (matOf (matM t x).m) = true :=
  fitsB_iff.2 (fits_congr (fun i k hi hk => (matM_of hi hk).symm) h)

theorem matM_wf {t : Tab} (hO : t.Ok) {x : Nat → Nat → Int} (h : Fits t x) : (matM t x).Wf := by
  have hR8 := hO.R8
  have hC8 := hO.C8
  have hm : ∀ s ∈ (matM t x).rows, ∃ i, i < t.R ∧ s = ⟨false, 1, vecA t.C (x i)⟩ := by
    intro s hs
    unfold matM vecA at hs
    obtain ⟨i, hi, rfl⟩ := List.mem_map.1 hs
    exact ⟨i, List.mem_range.1 hi, rfl⟩
  refine ⟨.inr rfl, fun s hs => ?_, ?_, fun s hs => ?_, fun s hs y hy => ?_⟩
  · obtain ⟨i, _, rfl⟩ := hm s hs; exact .inr rfl
  · unfold matM; simp only [vecA_length]; omega
  · obtain ⟨i, _, rfl⟩ := hm s hs
    simp only [vecA_length]; omega
  · obtain ⟨i, hi, rfl⟩ := hm s hs
    simp only [vecA, List.mem_map, List.mem_range] at hy
    obtain ⟨k, hk, rfl⟩ := hy
    have h1 := h.cell i k hi hk
    have h2 := hO.cell_ok hi hk
    omega

theorem matrix_call {H : Heap} {p a gn : Nat} {t : Tab} {f : Nat → Int} (h : NetAt H p a t.R t.C gn t.net.n (arcB gn t.net f)) (hO : t.Ok) (ro nx : Nat) : callT env 106 [.ptr p 0 0 0] ro H nx = some (.ret (matM t (t.mat f)).v, .ups []) := by
  have hR1 := hO.R1
  obtain ⟨ex, st, hx, hp⟩ := mat_outer (t := t) (gn := gn) (f := f) hO.C8 hO.R8 t.R 0 0 _ _ _ _ _ _ _ _ _ _ _ _ _ _ _ _ _ _ _ _ _ _ _ _ _ _ _ _ _ _ _ _ _ _ _ _ _ _ _ _ _ (by omega)
  obtain ⟨rfl, g, jp, rfl⟩ := hp
  refine call_netro (H' := mtH t gn f g t.R) (v := .ref 2 (gR g (matD t f t.R)) 0 (matD t f t.R).length false) rfl rfl rfl rfl h (lend_ptr rfl rfl) rfl ?_ ?_ rfl
  · have e0 : matD t f 0 = [] := rfl
    have e1 : mtH t gn f 0 0 = [netB t.R t.C 1 gn t.net.n, arcB gn t.net f, .cells 0 0 false []] := rfl
    simp only [go_sem, simprocAttr, Try.f106, e0, e1, gR_nil, List.length_nil, Int.natCast_zero, Int.ofNat_zero, netB, arcB] at hx
    rw [run_unfold fn106 rfl]
    simp only [go_sem, simprocAttr, Try.f106, netB, arcB]
    rw [hx]
    simp only [go_sem, simprocAttr, unwind, modeEx, resultsOf, one]
  · have h1 := toLit_rows (A := [netB t.R t.C 1 gn t.net.n, arcB gn t.net f]) (B := []) (Z := []) (ok := fun j => decide (2 ≤ j) && !([] : List Nat).contains j) (g := g) (sz := 1) (n := 6) (rs := matD t f t.R) rfl (fun j hj => by
      have : 2 ≤ j := by simp at hj; omega
      simp [this])
    rw [List.append_nil] at h1
    rw [← matM_lit hR1, ← h1]
    rfl

def MatAns (t : Tab) (v : AVal) : Prop := (t.ok = false ∧ v = .tuple [.lit true 0 [], .bool false, .int .i64 60]) ∨ (t.Ok ∧ canB t = false ∧ v = .tuple [.lit true 0 [], .bool false, .int .i64 0]) ∨
  (t.Ok ∧ canB t = true ∧ ∃ x, Fits t x ∧ v = .tuple [(matM t x).v, .bool true, .int .i64 0])

theorem MatAns.pure {t : Tab} {v : AVal} (h : MatAns t v) : noRef v = true := by
  rcases h with ⟨_, rfl⟩ | ⟨_, _, rfl⟩ | ⟨_, _, x, _, rfl⟩ <;> rfl

theorem Matrix_call {T : TabV} (hT : T.Wf) : ∃ w, MatAns T.tab w ∧ ∀ ro H nx, callT env 44 [T.v] ro H nx = some (.ret w, .ups []) := by
  have : ∃ w H', MatAns T.tab w ∧ runT env 44 [T.v] [] 0 = some (.ret w, H') := by
    rcases settled_call hT 0 [boxT T] 1 with ⟨hok, us, hc, X, rfl⟩ | ⟨hO, hcan, us, hc, X, rfl⟩ | ⟨hO, hcan, f, g, _, hin, hci, hc⟩
    · refine ⟨.tuple [.lit true 0 [], .bool false, .int .i64 60], ?_⟩
      refine Exists.imp (fun H' h => ⟨.inl ⟨hok, rfl⟩, h⟩) ?_
      have hp := putU_end X [boxT T]
      simp only [boxT, List.length_cons, List.length_nil, Nat.zero_add, Nat.reduceAdd, List.cons_append, List.nil_append] at hc hp
      rw [run_unfold fn44 rfl]
      simp only [go_sem, simprocAttr, Try.f44, hc, hp, unwind, modeEx, resultsOf, one]
      exact ⟨_, rfl⟩
    · refine ⟨.tuple [.lit true 0 [], .bool false, .int .i64 0], ?_⟩
      refine Exists.imp (fun H' h => ⟨.inr (.inl ⟨hO, hcan, rfl⟩), h⟩) ?_
      have hp := putU_end X [boxT T]
      simp only [boxT, List.length_cons, List.length_nil, Nat.zero_add, Nat.reduceAdd, List.cons_append, List.nil_append] at hc hp
      rw [run_unfold fn44 rfl]
      simp only [go_sem, simprocAttr, Try.f44, hc, hp, unwind, modeEx, resultsOf, one]
      exact ⟨_, rfl⟩
    · refine ⟨.tuple [(matM T.tab (T.tab.mat f)).v, .bool true, .int .i64 0], ?_⟩
      refine Exists.imp (fun H' h => ⟨.inr (.inr ⟨hO, hcan, _, fits_of_flow hin hci, rfl⟩), h⟩) ?_
      have hA : NetAt (boxT T :: setX T 1 g f) 4 3 T.tab.R T.tab.C g T.tab.net.n (arcB g T.tab.net f) := ⟨rfl, rfl, by decide, flat_arcB _ _ _⟩
      have mc := matrix_call hA hO 0 6
      simp only [setX, boxT, netB, arcB, cellP88] at hc mc
      rw [run_unfold fn44 rfl]
      simp only [go_sem, simprocAttr, Try.f44, hc, numbered, mc, unwind, modeEx, resultsOf, one]
      exact ⟨_, rfl⟩
  obtain ⟨w, H', hw, h⟩ := this
  exact ⟨w, hw, fun ro H nx => call_pure rfl rfl rfl tv_pure h hw.pure ro H nx⟩

set_option maxRecDepth 10000
set_option maxHeartbeats 2000000

theorem alw_can {t : Tab} {m : List (List Int)} (h : alwB t m = true) : t.Can := by
  unfold alwB at h
  rw [Bool.and_eq_true] at h
  exact ⟨_, fitsB_iff.1 h.2⟩

theorem cmS_alw {t : Tab} (hok : t.ok = true) (m : List (List Int)) : decide (cmS t m = 0) = alwB t m := by
  unfold cmS alwB
  rw [if_pos hok]
  cases dimsB t m <;> cases fitsB t (matOf m) <;> rfl

theorem matM_alw {t : Tab} {x : Nat → Nat → Int} (h : Fits t x) : alwB t (matM t x).m = true := by
  unfold alwB
  rw [matM_dims, matM_fits h]; rfl

theorem hoffman_law (a0 a1 a2 : List AVal) (h0 : FitT env 8 25 a0) (h1 : FitT env 8 46 a1) (h2 : FitT env 8 28 a2) : ∃ H', runT env 8 [pack ⟨.struct [(22, 0), (22, 1), (23, 2)], 3, 72, .agg [.lit true 0 [], .lit true 0 [], .lit true 0 []]⟩ a0, pack ⟨.slice 51, 1, 24, .lit true 0 []⟩ a1, pack ⟨.struct [(26, 0), (26, 1)], 2, 48, .agg [.lit true 0 [], .lit true 0 []]⟩ a2] [] 0 = some (.ret (.bool true), H') := by
  obtain ⟨T, hT, e0⟩ := fit_tab (m := 3) h0
  obtain ⟨M, hM, rfl⟩ := fit_mat h1
  obtain ⟨c, hc, e2⟩ := fit_cut h2
  show ∃ H', runT env 8 [.agg a0, M.v, .agg a2] [] 0 = some (.ret (.bool true), H')
  rw [e0, e2]
  have wk := work_call T hT
  have cm := cm_call hT hM
  have cg := checkGap_call hT hc
  rw [run_unfold fn8 rfl]
  cases hw : workB T.tab with
  | false =>
    simp only [go_sem, simprocAttr, Try.f8, wk, hw, unwind, modeEx, resultsOf, one]
    exact ⟨_, rfl⟩
  | true =>
    have hO := (work_ok hw).1
    have hok := Tab.ok_iff.2 hO
    have al := allowed_call hT hO hM
    have e1 := cmS_alw hok M.m
    have e3 : decide (cgS T.tab c = 0) = true → canB T.tab = true → False := fun h hcan => by
      rw [cgS_gap hok, Bool.and_eq_true] at h
      have := gap_none (canB_true.1 hcan) (fun i => c.l1.getD i false) fun k => c.l2.getD k false
      rw [this] at h
      exact absurd h.2 (by simp)
    have e4 : alwB T.tab M.m = true → canB T.tab = true := fun h => canB_true.2 (alw_can h)
    obtain ⟨w, hmat, mc⟩ := Matrix_call hT
    obtain ⟨v, hgap, gc⟩ := Gap_call hT
    have pc := poss_call hT
    unfold possV at pc
    rw [hok, ckS_ok hok, Bool.true_and] at pc
    rcases hmat with ⟨h, _⟩ | ⟨_, hcan, rfl⟩ | ⟨_, hcan, x, hx, rfl⟩
    · rw [hok] at h; cases h
    · rcases hgap with ⟨h, _⟩ | ⟨_, h, _⟩ | ⟨_, _, l1, l2, k1, k2, k3, rfl⟩
      · rw [hok] at h; cases h
      · rw [hcan] at h; cases h
      · have ha : alwB T.tab M.m = false := by
          cases h : alwB T.tab M.m with
          | false => rfl
          | true => have := e4 h; rw [hcan] at this; cases this
        have hwf : (cutA l1 l2).Wf := ⟨.inr rfl, .inr rfl, by have := hO.R8; simp only [cutA]; omega, by have := hO.C8; simp only [cutA]; omega⟩
        have cg2 := checkGap_call hT hwf
        have e5 : decide (cgS T.tab (cutA l1 l2) = 0) = true := by
          rw [cgS_gap hok]
          simp only [cutA, fitC, k1, k2, k3, decide_true, Bool.and_self]
        rw [← cutA_v] at gc
        rw [hcan] at pc
        rw [ha] at al e1
        cases hg : decide (cgS T.tab c = 0) <;>
          (simp only [go_sem, simprocAttr, Try.f8, wk, hw, cm, cg, al, e1, hg, mc, gc, pc, cg2, e5, unwind, modeEx, resultsOf, one]
           exact ⟨_, rfl⟩)
    · rcases hgap with ⟨h, _⟩ | ⟨_, _, rfl⟩ | ⟨_, h, _⟩
      · rw [hok] at h; cases h
      · have hg : decide (cgS T.tab c = 0) = false := by
          cases h : decide (cgS T.tab c = 0) with
          | false => rfl
          | true => exact (e3 h hcan).elim
        have al2 := allowed_call hT hO (matM_wf hO hx)
        have cm2 := cm_call hT (matM_wf hO hx)
        have e5 : decide (cmS T.tab (matM T.tab x).m = 0) = true := by rw [cmS_alw hok, matM_alw hx]
        rw [matM_alw hx] at al2
        rw [hcan] at pc
        cases ha : alwB T.tab M.m <;> rw [ha] at al e1 <;>
          (simp only [go_sem, simprocAttr, Try.f8, wk, hw, cm, cg, al, e1, hg, mc, gc, pc, al2, cm2, e5, unwind, modeEx, resultsOf, one]
           exact ⟨_, rfl⟩)
      · rw [hcan] at h; cases h
end Go.Proofs.Ytgfejpngfikjiaa.Tidy
