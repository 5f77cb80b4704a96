/-
 What the functions that SharesMerged reaches compute; the law, run.
-/
import Derived.Test.YtgfejpngfikjiaaWb
import Derived.Test.YtgfejpngfikjiaaCb
import Derived.Test.YtgfejpngfikjiaaWa
import Derived.Test.YtgfejpngfikjiaaCe
set_option linter.all false
namespace Go.Proofs.Ytgfejpngfikjiaa.Tidy
open Go Go.IntWalk
set_option maxRecDepth 10000
set_option linter.unusedSimpArgs false
set_option maxHeartbeats 4000000
theorem zJG (cl : Bool) (l : List Spn) (n : Int) (hl : l.length < 2 ^ 63) : ∃ H', runT env 97 [.lit cl 2 (l.map spV), .int .i64 n] [] 0 = some (.ret (.bool (decide ((l.length : Int) = n) && l.all Spn.ok)), H') := by
 have cc := z6U (cl := cl) (sz := 2) (l := l) (.inr rfl) hl
 rw [run_unfold fn97 rfl]
 cases h1 : decide ((l.length : Int) = n) with
 | false =>
   simp only [go_sem, simprocAttr, Try.f97, List.length_map, h1, unwind, modeEx, resultsOf, one, Bool.false_and]
   exact ⟨_, rfl⟩
 | true =>
   cases h2 : l.all Spn.ok <;> rw [h2] at cc <;>
    (simp only [go_sem, simprocAttr, Try.f97, List.length_map, h1, cc, unwind, modeEx, resultsOf, one, Bool.true_and]
     exact ⟨_, rfl⟩)
theorem zGr {H : Heap} {p n : Nat} {l : List Spn} (hH : H[p]? = some (.cells 0 2 true (l.map spV))) (hn : l.length = n) (hl : l.length < 2 ^ 63) (m : Int) (nx : Nat) : callT env 97 [.ref p 0 0 n false, .int .i64 m] 0 H nx = some (.ret (.bool (decide ((l.length : Int) = m) && l.all Spn.ok)), .ups []) := by
 subst hn
 obtain ⟨H', hr⟩ := zJG false l m hl
 have htk : (l.map spV).take l.length = l.map spV := List.take_of_length_le (by rw [List.length_map]; exact Nat.le_refl _)
 have hle : lend H (env.hint 97).lits [.ref p 0 0 l.length false, .int .i64 m] 0 = some ([.lit false 2 (l.map spV), .int .i64 m], [p]) := by
  have : (env.hint 97).lits = [0] := rfl
  rw [this]
  have e7 : toLit (fun _ => true) H 8 (.ref p 0 0 l.length false) = some (.lit false 2 (l.map spV)) := by
   simp [toLit, noRef, AVal.under, hH, htk]
  have hre : reach H fuel0 [p] [] = some [p] := by
   unfold fuel0
   simp [reach, hH]
  unfold lend
  rw [lend_noRef H [0] [.int .i64 m] 1 rfl]
  simp only [noRef, AVal.under, AVal.refs, e7, hre]
  rfl
 obtain ⟨us, mc, hus⟩ := z21 (f := 97) rfl rfl rfl rfl hle rfl hr (handBack_noRef _ _ _ _ _ rfl) rfl nx
 have hus := hus rfl
 subst hus
 exact mc
def z0a (t : Tab) (a b : Nat) : Tab := ⟨(t.rows.eraseIdx (max a b)).eraseIdx (min a b) ++ [z0G (t.row a) (t.row b)], t.cols, (t.cells.eraseIdx (max a b)).eraseIdx (min a b) ++ [z0T t a b t.C]⟩
def z42 (t : Tab) (a b : Nat) : List Spn := z0T t a b t.C ++ [z0G (t.row a) (t.row b)]
set_option maxRecDepth 10000
set_option maxHeartbeats 4000000
theorem z5c (a b : Int) : maxL .i64 a [.int .i64 b] = some (max a b) := by
 simp only [maxL, if_true]; congr 1; omega
theorem z6t (a b : Int) : minL .i64 a [.int .i64 b] = some (min a b) := by
 simp only [minL, if_true]; congr 1; omega
set_option maxRecDepth 10000
set_option maxHeartbeats 4000000
section
variable {T : TabV} {x : Spn}
end
theorem z3k (x y : Spn) (ro : Nat) (H : Heap) (nx : Nat) : callT env 43 [spV x, spV y] ro H nx = some (.ret (.bool (decide (y.lo ≤ x.lo) && decide (x.hi ≤ y.hi))), .ups []) := by
 have : ∃ H', runT env 43 [spV x, spV y] [] 0 = some (.ret (.bool (decide (y.lo ≤ x.lo) && decide (x.hi ≤ y.hi))), H') := by
  rw [run_unfold fn43 rfl]
  cases h1 : decide (y.lo ≤ x.lo) <;> cases h2 : decide (x.hi ≤ y.hi) <;>
   (simp only [go_sem, simprocAttr, Try.f43, h1, h2, unwind, modeEx, resultsOf, one, Bool.and_true, Bool.and_false]
    exact ⟨_, rfl⟩)
 obtain ⟨H', h⟩ := this
 exact call_pure rfl rfl rfl rfl h rfl ro H nx
set_option maxRecDepth 10000
set_option maxHeartbeats 2000000
def zDh (t : Tab) (x : Nat → Nat → Int) (i : Nat) : Bool := allN (fun k => (t.cell i k).has (x i k)) 0 t.C
def z8D (t : Tab) (m : List (List Int)) (i : Nat) : Bool := decide ((m.getD i []).length = t.C) && (zDh t (z03 m) i && (t.row i).has (sumN t.C (z03 m i)))
def alH (T : TabV) (M : MatV) (i k : Nat) : Heap := [boxT T, .cells 0 1 true (intsV T.tab.C (cS (z03 M.m) i k))]
def zHE (t : Tab) (x : Nat → Nat → Int) (i : Nat) : Prop := ∀ i', i' < i → ∀ k, k < t.C → 0 ≤ x i' k ∧ x i' k ≤ 2 ^ 30
theorem zJo {T : TabV} {M : MatV} (hT : T.Wf) (hO : T.tab.Ok) (hM : M.Wf) {i : Nat} (hi : i < T.tab.R) {b : SlI} (hb : M.rows[i]? = some b) (hw : b.l.length = T.tab.C) (hB : zHE T.tab (z03 M.m) i) : ∀ (n k : Nat) (j0 j1 j3 j4 j8 j10 j11 j12 j13 j14 j15 j16 j17 j18 j19 j20 j21 j22 j23 j27 j28 j29 j30 j31 j32 j33 j34 j35 j36 j40 j41 j42 j43 j44 j45 j46 j47 j48 j49 j50 j51 j52 j53 j54 j55 j56 j57 j58 j59 j60 j61 j62 j63 j64 j65 j66 j67 j68 j69 j70 j71 j72 j73 j74 j75 j76 j77 j78 j79 j80 j81 j82 j83 j84 j85 j86 j87 j88 j89 j90 j91 j92 j93 : AVal), k + n = T.tab.C → (∀ j, j < k → 0 ≤ z03 M.m i j ∧ z03 M.m i j ≤ 2 ^ 30) →
    Goes (execT env (Try.f39.at [1, 1, 1, 1, 0, 1, 0, 0, 1, 1, 0, 0, 1, 1, 1, 0, 1, 0]) ⟨[j0, j1, .ptr 0 0 0 0, j3, j4, .func 101 [] [], .ref 1 0 0 T.tab.C false, .int .i64 i, j8, .int .i64 (sumN k (z03 M.m i)), j10, j11, j12, j13, j14, j15, j16, j17, j18, j19, j20, j21, j22, j23, .lit M.cl M.sz (M.rows.map SlI.v), .int .i64 T.tab.R, .int .i64 i, j27, j28, j29, j30, j31, j32, j33, j34, j35, j36, .lit b.cl b.sz (b.l.map (AVal.int .i64)), .int .i64 T.tab.C, .int .i64 k, j40, j41, j42, j43, j44, j45, j46, j47, j48, j49, j50, j51, j52, j53, j54, j55, j56, j57, j58, j59, j60, j61, j62, j63, j64, j65, j66, j67, j68, j69, j70, j71, j72, j73, j74, j75, j76, j77, j78, j79, j80, j81, j82, j83, j84, j85, j86, j87, j88, j89, j90, j91, j92, j93], alH T M i k, [], 0, []⟩) fun ex st =>
     if allN (fun k => (T.tab.cell i k).has (z03 M.m i k)) k n then ex = .exit 2 ∧ (∀ j, j < T.tab.C → 0 ≤ z03 M.m i j ∧ z03 M.m i j ≤ 2 ^ 30) ∧ FrP 94 [(2, .ptr 0 0 0 0), (5, .func 101 [] []), (6, .ref 1 0 0 T.tab.C false), (7, .int .i64 i), (9, .int .i64 (sumN T.tab.C (z03 M.m i))), (24, .lit M.cl M.sz (M.rows.map SlI.v)), (25, .int .i64 T.tab.R), (26, .int .i64 i)] (alH T M i T.tab.C) [] 0 [] st
     else ex = .ret ∧ ∃ (H : Heap), FrP 94 [(4, .bool false)] H [] 0 [] st := by
 have hR8 := hO.R8
 have hC8 := hO.C8
 intro n
 induction n with
 | zero =>
   intro k; intros; rename_i hk hj
   have hd : decide ((k : Int) < (T.tab.C : Int)) = false := by simp; omega
   have : k = T.tab.C := by omega
   subst this
   simp only [go_sem, simprocAttr, Try.f39]
   rw [exec_loop]
   simp only [go_sem, simprocAttr, hd]
   exact ⟨hj, frP (by kernel_rfl)⟩
 | succ n ih =>
   intro k; intros; rename_i hk hj
   have hkC : k < T.tab.C := by omega
   have hd : decide ((k : Int) < (T.tab.C : Int)) = true := by simp; omega
   have h0 : (0 : Int) ≤ (k : Int) := by omega
   have h0i : (0 : Int) ≤ (i : Int) := by omega
   obtain ⟨c, hcm, hc1, hc2, hc3, _, _⟩ := TabV.at hT hO hi hkC
   obtain ⟨x, hx, _⟩ := z0Q (show k < b.l.length by omega)
   have hz := z1j (hM.each b (List.mem_of_getElem? hb)) hx
   have hx' : (b.l.map (AVal.int .i64))[k]? = some (.int .i64 x) := by simp [hx]
   have hm := z3d hb hx
   cases hp : (T.tab.cell i k).has (z03 M.m i k) with
   | false =>
     have hp' := hp
     rw [hm] at hp'
     simp only [go_sem, simprocAttr, Try.f39, alH, boxT]
     rw [exec_loop]
     simp only [go_sem, simprocAttr, hd, h0, h0i, Int.toNat_natCast, hc1, hc2, hc3, hx', hz, hp', allN, hp]
     exact ⟨_, frP (by kernel_rfl)⟩
   | true =>
     have hp' := hp
     rw [hm] at hp'
     have hxb := hO.cell_ok hi hkC
     have hxh := Spn.has_iff.1 hp
     have b1 := z2S (n := k) (f := z03 M.m i) (B := 2 ^ 30) hj
     have b2 := z2S (n := i) (f := fun i => z03 M.m i k) (B := 2 ^ 30) fun j hj => hB j hj k hkC
     have g2 : (intsV T.tab.C (cS (z03 M.m) i k))[k]? = some (.int .i64 (sumN i fun i => z03 M.m i k)) := by rw [z19 hkC]; simp [cS]
     have w1 : IntKind.i64.wrap (sumN k (z03 M.m i) + x) = sumN (k + 1) (z03 M.m i) := by rw [i64_in _ (by omega)]; simp only [sumN, hm]
     have w2 : IntKind.i64.wrap (sumN i (fun i => z03 M.m i k) + x) = sumN i (fun i => z03 M.m i k) + x := i64_in _ (by omega)
     have s2 : (intsV T.tab.C (cS (z03 M.m) i k)).set k (.int .i64 (sumN i (fun i => z03 M.m i k) + x)) = intsV T.tab.C (cS (z03 M.m) i (k + 1)) := z35 fun j hj => by
      unfold cS
      by_cases e : j = k
      · subst e; rw [if_pos (by omega), if_pos rfl]; simp only [sumN]; rw [hm]
      · rw [if_neg e]
        by_cases e2 : j < k
        · rw [if_pos e2, if_pos (by omega)]
        · rw [if_neg e2, if_neg (by omega)]
     have ih' := ih (k + 1)
     simp only [go_sem, simprocAttr, Try.f39, hz, alH, boxT] at ih' ⊢
     rw [exec_loop]
     simp only [go_sem, simprocAttr, hd, h0, h0i, Int.toNat_natCast, hc1, hc2, hc3, hx', hz, hp', allN, hp, g2, w1, w2, s2, z00 (show k < 2 ^ 63 - 1 by omega)]
     refine ih' _ _ _ _ _ _ _ _ _ _ _ _ _ _ _ _ _ _ _ _ _ _ _ _ _ _ _ _ _ _ _ _ _ _ _ _ _ _ _ _ _ _ _ _ _ _ _ _ _ _ _ _ _ _ _ _ _ _ _ _ _ _ _ _ _ _ _ _ _ _ _ _ _ _ _ _ _ _ _ _ _ _ _ (by omega) fun j hj' => ?_
     by_cases e : j = k
     · subst e; omega
     · exact hj j (by omega)
theorem zJp {T : TabV} {M : MatV} (hT : T.Wf) (hO : T.tab.Ok) (hM : M.Wf) (hl : M.rows.length = T.tab.R) : ∀ (n i : Nat) (j0 j1 j3 j4 j7 j8 j9 j10 j11 j12 j13 j14 j15 j16 j17 j18 j19 j20 j21 j22 j23 j27 j28 j29 j30 j31 j32 j33 j34 j35 j36 j37 j38 j39 j40 j41 j42 j43 j44 j45 j46 j47 j48 j49 j50 j51 j52 j53 j54 j55 j56 j57 j58 j59 j60 j61 j62 j63 j64 j65 j66 j67 j68 j69 j70 j71 j72 j73 j74 j75 j76 j77 j78 j79 j80 j81 j82 j83 j84 j85 j86 j87 j88 j89 j90 j91 j92 j93 : AVal), i + n = T.tab.R → zHE T.tab (z03 M.m) i →
    Goes (execT env (Try.f39.at [1, 1, 1, 1, 0, 1, 0]) ⟨[j0, j1, .ptr 0 0 0 0, j3, j4, .func 101 [] [], .ref 1 0 0 T.tab.C false, j7, j8, j9, j10, j11, j12, j13, j14, j15, j16, j17, j18, j19, j20, j21, j22, j23, .lit M.cl M.sz (M.rows.map SlI.v), .int .i64 T.tab.R, .int .i64 i, j27, j28, j29, j30, j31, j32, j33, j34, j35, j36, j37, j38, j39, j40, j41, j42, j43, j44, j45, j46, j47, j48, j49, j50, j51, j52, j53, j54, j55, j56, j57, j58, j59, j60, j61, j62, j63, j64, j65, j66, j67, j68, j69, j70, j71, j72, j73, j74, j75, j76, j77, j78, j79, j80, j81, j82, j83, j84, j85, j86, j87, j88, j89, j90, j91, j92, j93], alH T M i 0, [], 0, []⟩) fun ex st =>
     if allN (z8D T.tab M.m) i n then ex = .exit 0 ∧ zHE T.tab (z03 M.m) T.tab.R ∧ FrP 94 [(2, .ptr 0 0 0 0), (5, .func 101 [] []), (6, .ref 1 0 0 T.tab.C false)] (alH T M T.tab.R 0) [] 0 [] st
     else ex = .ret ∧ ∃ (H : Heap), FrP 94 [(4, .bool false)] H [] 0 [] st := by
 have hR8 := hO.R8
 have hC8 := hO.C8
 intro n
 induction n with
 | zero =>
   intro i; intros; rename_i hi hB
   have hd : decide ((i : Int) < (T.tab.R : Int)) = false := by simp; omega
   have : i = T.tab.R := by omega
   subst this
   simp only [go_sem, simprocAttr, Try.f39]
   rw [exec_loop]
   simp only [go_sem, simprocAttr, hd]
   exact ⟨hB, frP (by kernel_rfl)⟩
 | succ n ih =>
   intro i; intros; rename_i hi hB
   have hiR : i < T.tab.R := by omega
   have hd : decide ((i : Int) < (T.tab.R : Int)) = true := by simp; omega
   have h0i : (0 : Int) ≤ (i : Int) := by omega
   obtain ⟨b, hb, _⟩ := z0Q (show i < M.rows.length by omega)
   have hz := z1j hM.sz hb
   have hbm : b ∈ M.rows := List.mem_of_getElem? hb
   have hb' : (M.rows.map SlI.v)[i]? = some (.lit b.cl b.sz (b.l.map (AVal.int .i64))) := by simp [hb, SlI.v]
   have hbl : (M.m.getD i []).length = b.l.length := by simp [MatV.m, hb]
   have hbb := hM.le b hbm
   have lc : T.cols.l.length = T.tab.C := rfl
   have el : decide ((b.l.length : Int) = (T.tab.C : Int)) = decide (b.l.length = T.tab.C) := decide_eq_decide.2 (by omega)
   obtain ⟨r1, r2⟩ := TabV.rowAt hT hiR
   cases hw : decide (b.l.length = T.tab.C) with
   | false =>
     have hg : z8D T.tab M.m i = false := by unfold z8D; rw [hbl, hw]; rfl
     simp only [go_sem, simprocAttr, Try.f39, alH, boxT]
     rw [exec_loop]
     simp only [go_sem, simprocAttr, hd, h0i, Int.toNat_natCast, hb', hz, List.length_map, lc, el, hw, allN, hg]
     exact ⟨_, frP (by kernel_rfl)⟩
   | true =>
     have hwl := of_decide_eq_true hw
     obtain ⟨ex, st, hx, hp⟩ := zJo hT hO hM hiR hb hwl hB T.tab.C 0 _ _ _ _ _ _ _ _ _ _ _ _ _ _ _ _ _ _ _ _ _ _ _ _ _ _ _ _ _ _ _ _ _ _ _ _ _ _ _ _ _ _ _ _ _ _ _ _ _ _ _ _ _ _ _ _ _ _ _ _ _ _ _ _ _ _ _ _ _ _ _ _ _ _ _ _ _ _ _ _ _ _ _ (by omega) (fun j hj => by omega)
     have hs0 : sumN 0 (z03 M.m i) = 0 := rfl
     have dcc : decide ((T.tab.C : Int) = (T.tab.C : Int)) = true := decide_eq_true rfl
     simp only [go_sem, simprocAttr, Try.f39, hz, Int.ofNat_zero, Int.natCast_zero, hs0, alH, boxT] at hx
     cases hr : zDh T.tab (z03 M.m) i with
     | false =>
       have hr' : allN (fun k => (T.tab.cell i k).has (z03 M.m i k)) 0 T.tab.C = false := hr
       have hg : z8D T.tab M.m i = false := by unfold z8D; rw [hbl, hw, hr]; rfl
       rw [hr', if_neg (by simp)] at hp
       obtain ⟨rfl, H, jp, rfl⟩ := hp
       simp only [go_sem, simprocAttr, Try.f39, hz, alH, boxT]
       rw [exec_loop]
       simp only [go_sem, simprocAttr, hd, h0i, Int.toNat_natCast, hb', hz, List.length_map, lc, hwl, dcc]
       rw [hx]
       simp only [go_sem, simprocAttr, allN, hg]
       exact ⟨_, frP (by kernel_rfl)⟩
     | true =>
       have hr' : allN (fun k => (T.tab.cell i k).has (z03 M.m i k)) 0 T.tab.C = true := hr
       rw [hr', if_pos rfl] at hp
       obtain ⟨rfl, hnow, jp, rfl⟩ := hp
       cases hs : (T.tab.row i).has (sumN T.tab.C (z03 M.m i)) with
       | false =>
         have hg : z8D T.tab M.m i = false := by unfold z8D; rw [hbl, hw, hr, hs]; rfl
         simp only [go_sem, simprocAttr, Try.f39, hz, alH, boxT]
         rw [exec_loop]
         simp only [go_sem, simprocAttr, hd, h0i, Int.toNat_natCast, hb', hz, List.length_map, lc, hwl, dcc]
         rw [hx]
         simp only [go_sem, simprocAttr, alH, boxT, allN, hg, h0i, Int.toNat_natCast, r1, r2, hs]
         exact ⟨_, frP (by kernel_rfl)⟩
       | true =>
         have hg : z8D T.tab M.m i = true := by unfold z8D; rw [hbl, hw, hr, hs]; rfl
         have q2 : intsV T.tab.C (cS (z03 M.m) i T.tab.C) = intsV T.tab.C (cS (z03 M.m) (i + 1) 0) := by
          refine z18 fun j hj => ?_
          unfold cS
          rw [if_pos hj, if_neg (by omega)]
         have ih' := ih (i + 1)
         simp only [go_sem, simprocAttr, Try.f39, hz, alH, boxT] at ih' ⊢
         rw [exec_loop]
         simp only [go_sem, simprocAttr, hd, h0i, Int.toNat_natCast, hb', hz, List.length_map, lc, hwl, dcc]
         rw [hx]
         simp only [go_sem, simprocAttr, hz, alH, boxT, allN, hg, h0i, Int.toNat_natCast, r1, r2, hs, q2, z00 (show i < 2 ^ 63 - 1 by omega)]
         refine ih' _ _ _ _ _ _ _ _ _ _ _ _ _ _ _ _ _ _ _ _ _ _ _ _ _ _ _ _ _ _ _ _ _ _ _ _ _ _ _ _ _ _ _ _ _ _ _ _ _ _ _ _ _ _ _ _ _ _ _ _ _ _ _ _ _ _ _ _ _ _ _ _ _ _ _ _ _ _ _ _ _ _ _ _ _ _ _ _ (by omega) fun i' hi' k hk => ?_
         by_cases e : i' = i
         · subst e; exact hnow k hk
         · exact hB i' (by omega) k hk
theorem zMY {T : TabV} (hT : T.Wf) (hO : T.tab.Ok) (f : Nat → Int) : ∀ (n i : Nat) (j0 j1 j3 j4 j6 j7 j8 j9 j10 j11 j12 j13 j14 j15 j16 j17 j18 j19 j20 j21 j22 j23 j24 j25 j26 j27 j28 j29 j30 j31 j32 j33 j34 j35 j36 j37 j38 j39 j40 j41 j42 j43 j44 j45 j46 j47 j48 j49 j50 j51 j52 j53 j54 j55 j56 j57 j58 j59 j60 j61 j62 j63 j64 j65 j66 j67 j68 j69 j70 j71 j72 j73 j74 j75 j76 j80 j81 j82 j83 j84 j85 j86 j87 j88 j89 j90 j91 j92 j93 : AVal), i + n = T.tab.C →
    Goes (execT env (Try.f39.at [1, 1, 1, 1, 1, 0, 1, 0]) ⟨[j0, j1, .ptr 0 0 0 0, j3, j4, .func 101 [] [], j6, j7, j8, j9, j10, j11, j12, j13, j14, j15, j16, j17, j18, j19, j20, j21, j22, j23, j24, j25, j26, j27, j28, j29, j30, j31, j32, j33, j34, j35, j36, j37, j38, j39, j40, j41, j42, j43, j44, j45, j46, j47, j48, j49, j50, j51, j52, j53, j54, j55, j56, j57, j58, j59, j60, j61, j62, j63, j64, j65, j66, j67, j68, j69, j70, j71, j72, j73, j74, j75, j76, .ref 1 0 0 T.tab.C false, .int .i64 T.tab.C, .int .i64 i, j80, j81, j82, j83, j84, j85, j86, j87, j88, j89, j90, j91, j92, j93], [boxT T, .cells 0 1 true (intsV T.tab.C f)], [], 0, []⟩) fun ex st =>
     if allN (fun i => (T.tab.col i).has (f i)) i n then ex = .exit 4 ∧ ∃ (H : Heap), FrP 94 [] H [] 0 [] st
     else ex = .ret ∧ ∃ (H : Heap), FrP 94 [(4, .bool false)] H [] 0 [] st := by
 have hC8 := hO.C8
 intro n
 induction n with
 | zero =>
   intro i; intros; rename_i hi
   have hd : decide ((i : Int) < (T.tab.C : Int)) = false := by simp; omega
   simp only [go_sem, simprocAttr, Try.f39]
   rw [exec_loop]
   simp only [go_sem, simprocAttr, hd]
   exact ⟨_, frP (by kernel_rfl)⟩
 | succ n ih =>
   intro i; intros; rename_i hi
   have hiC : i < T.tab.C := by omega
   have hd : decide ((i : Int) < (T.tab.C : Int)) = true := by simp; omega
   have h0i : (0 : Int) ≤ (i : Int) := by omega
   obtain ⟨r1, r2⟩ := TabV.colAt hT hiC
   have g1 := z19 (f := f) hiC
   cases hp : (T.tab.col i).has (f i) with
   | false =>
     simp only [go_sem, simprocAttr, Try.f39, boxT]
     rw [exec_loop]
     simp only [go_sem, simprocAttr, hd, h0i, Int.toNat_natCast, r1, r2, g1, allN, hp]
     exact ⟨_, frP (by kernel_rfl)⟩
   | true =>
     have ih' := ih (i + 1)
     simp only [go_sem, simprocAttr, Try.f39, boxT] at ih' ⊢
     rw [exec_loop]
     simp only [go_sem, simprocAttr, hd, h0i, Int.toNat_natCast, r1, r2, g1, allN, hp, z00 (show i < 2 ^ 63 - 1 by omega)]
     exact ih' _ _ _ _ _ _ _ _ _ _ _ _ _ _ _ _ _ _ _ _ _ _ _ _ _ _ _ _ _ _ _ _ _ _ _ _ _ _ _ _ _ _ _ _ _ _ _ _ _ _ _ _ _ _ _ _ _ _ _ _ _ _ _ _ _ _ _ _ _ _ _ _ _ _ _ _ _ _ _ _ _ _ _ _ _ _ _ _ _ (by omega)
def alwB (t : Tab) (m : List (List Int)) : Bool := z2C t m && z6e t (z03 m)
def alw' (t : Tab) (m : List (List Int)) : Bool := decide (m.length = t.R) && (allN (z8D t m) 0 t.R && allN (fun k => (t.col k).has (sumN t.R fun i => z03 m i k)) 0 t.C)
theorem zPC (t : Tab) (m : List (List Int)) : alwB t m = alw' t m := by
 rw [Bool.eq_iff_iff]
 unfold alwB alw' z2C z6e
 simp only [Bool.and_eq_true, decide_eq_true_eq, z3n, List.all_eq_true, z8D, zDh]
 constructor
 · rintro ⟨⟨h1, h2⟩, h3, h4, h5⟩
   refine ⟨h1, fun j a b => ⟨?_, h3 j a b, h4 j a b⟩, h5⟩
   exact h2 _ (z1D (by omega) [])
 · rintro ⟨h1, h2, h3⟩
   refine ⟨⟨h1, fun l hl => ?_⟩, fun j a b => (h2 j a b).2.1, fun j a b => (h2 j a b).2.2, h3⟩
   obtain ⟨i, hi, e⟩ := List.getElem_of_mem hl
   have := (h2 i (by omega) (by omega)).1
   rw [List.getD_eq_getElem?_getD, List.getElem?_eq_getElem hi] at this
   simpa [e] using this
theorem z1F {T : TabV} {M : MatV} (hT : T.Wf) (hO : T.tab.Ok) (hM : M.Wf) (ro : Nat) (H : Heap) (nx : Nat) : callT env 39 [T.v, M.v] ro H nx = some (.ret (.bool (alwB T.tab M.m)), .ups []) := by
 have hC8 := hO.C8
 have hR8 := hO.R8
 have : ∃ H', runT env 39 [T.v, M.v] [] 0 = some (.ret (.bool (alwB T.tab M.m)), H') := by
  rw [zPC]
  unfold alw'
  have hll := hM.len
  have lr : T.rows.l.length = T.tab.R := rfl
  have lc : T.cols.l.length = T.tab.C := rfl
  have lm : M.m.length = M.rows.length := by simp [MatV.m]
  have el : decide ((M.rows.length : Int) = (T.tab.R : Int)) = decide (M.rows.length = T.tab.R) := decide_eq_decide.2 (by omega)
  rw [lm, run_unfold fn39 rfl]
  cases h1 : decide (M.rows.length = T.tab.R) with
  | false =>
    simp only [go_sem, simprocAttr, Try.f39, MatV.v, List.length_map, lr, el, h1, unwind, modeEx, resultsOf, one]
    exact ⟨_, rfl⟩
  | true =>
    have h1' := of_decide_eq_true h1
    have d1 : decide ((T.tab.R : Int) = (T.tab.R : Int)) = true := decide_eq_true rfl
    have c0 : (0 : Int) ≤ (T.tab.C : Int) := by omega
    have m1 : T.tab.C * 9 ≤ z04 := by unfold z04; omega
    have e0 : intsV T.tab.C (cS (z03 M.m) 0 0) = List.replicate T.tab.C (AVal.int .i64 0) := by
     rw [z59]
     exact z18 fun j hj => by unfold cS; rw [if_neg (by omega)]; rfl
    obtain ⟨ex, st, hx, hp⟩ := zJp hT hO hM h1' T.tab.R 0 _ _ _ _ _ _ _ _ _ _ _ _ _ _ _ _ _ _ _ _ _ _ _ _ _ _ _ _ _ _ _ _ _ _ _ _ _ _ _ _ _ _ _ _ _ _ _ _ _ _ _ _ _ _ _ _ _ _ _ _ _ _ _ _ _ _ _ _ _ _ _ _ _ _ _ _ _ _ _ _ _ _ _ _ _ _ _ _ (by omega) (fun i' hi' => by omega)
    simp only [go_sem, simprocAttr, Try.f39, Int.ofNat_zero, Int.natCast_zero, alH, boxT, e0] at hx
    simp only [go_sem, simprocAttr, Try.f39, MatV.v, List.length_map, lr, lc, h1', d1, Int.toNat_natCast, c0, m1]
    rw [hx]
    cases hr : allN (z8D T.tab M.m) 0 T.tab.R with
    | false =>
      rw [hr, if_neg (by simp)] at hp
      obtain ⟨rfl, H2, jp, rfl⟩ := hp
      simp only [go_sem, simprocAttr, unwind, modeEx, resultsOf, one]
      exact ⟨_, rfl⟩
    | true =>
      rw [hr, if_pos rfl] at hp
      obtain ⟨rfl, hB, jp, rfl⟩ := hp
      obtain ⟨ex2, st2, hx2, hp2⟩ := zMY hT hO (cS (z03 M.m) T.tab.R 0) T.tab.C 0 _ _ _ _ _ _ _ _ _ _ _ _ _ _ _ _ _ _ _ _ _ _ _ _ _ _ _ _ _ _ _ _ _ _ _ _ _ _ _ _ _ _ _ _ _ _ _ _ _ _ _ _ _ _ _ _ _ _ _ _ _ _ _ _ _ _ _ _ _ _ _ _ _ _ _ _ _ _ _ _ _ _ _ _ _ _ _ _ _ (by omega)
      have e2 : allN (fun i => (T.tab.col i).has (cS (z03 M.m) T.tab.R 0 i)) 0 T.tab.C = allN (fun k => (T.tab.col k).has (sumN T.tab.R fun i => z03 M.m i k)) 0 T.tab.C := zFw fun j _ _ => by unfold cS; rw [if_neg (by omega)]
      rw [e2] at hp2
      simp only [go_sem, simprocAttr, Try.f39, Int.ofNat_zero, Int.natCast_zero, boxT] at hx2
      simp only [go_sem, simprocAttr, alH, boxT]
      rw [hx2]
      cases h3 : allN (fun k => (T.tab.col k).has (sumN T.tab.R fun i => z03 M.m i k)) 0 T.tab.C with
      | false =>
        rw [h3, if_neg (by simp)] at hp2
        obtain ⟨rfl, H2, jq, rfl⟩ := hp2
        simp only [go_sem, simprocAttr, unwind, modeEx, resultsOf, one]
        exact ⟨_, rfl⟩
      | true =>
        rw [h3, if_pos rfl] at hp2
        obtain ⟨rfl, H2, jq, rfl⟩ := hp2
        simp only [go_sem, simprocAttr, unwind, modeEx, resultsOf, one]
        exact ⟨_, rfl⟩
 obtain ⟨H', h⟩ := this
 exact call_pure rfl rfl rfl (by simp [underL, TabV.under, MatV.under]) h rfl ro H nx
set_option maxRecDepth 10000
set_option maxHeartbeats 4000000
def z5K (j i : Nat) : Nat := if i < j then i else i + 1
def z8G (a b i : Nat) : Nat := z5K (max a b) (z5K (min a b) i)
theorem zDI (f : Nat → Int) {j : Nat} : ∀ {n : Nat}, j < n + 1 → sumN n (fun i => f (z5K j i)) = sumN (n + 1) f - f j := by
 intro n
 induction n with
 | zero =>
   intro hj
   have : j = 0 := by omega
   subst this
   show (0 : Int) = 0 + f 0 - f 0
   omega
 | succ n ih =>
   intro hj
   by_cases h : j < n + 1
   · have e : sumN (n + 1) (fun i => f (z5K j i)) = sumN n (fun i => f (z5K j i)) + f (z5K j n) := rfl
     have e2 : sumN (n + 1 + 1) f = sumN (n + 1) f + f (n + 1) := rfl
     rw [e, ih h, e2, show z5K j n = n + 1 by unfold z5K; rw [if_neg (by omega)]]
     omega
   · have hj' : j = n + 1 := by omega
     subst hj'
     have e2 : sumN (n + 1 + 1) f = sumN (n + 1) f + f (n + 1) := rfl
     rw [e2, z02 (f := fun i => f (z5K (n + 1) i)) (g := f) (fun i hi => by simp only [z5K]; rw [if_pos hi])]
     omega
theorem zFm {a b n i : Nat} (hi : i < n) : z8G a b i < n + 2 := by
 unfold z8G z5K
 split <;> split <;> omega
theorem zAo (f : Nat → Int) {a b n : Nat} (hab : a ≠ b) (ha : a < n + 2) (hb : b < n + 2) : sumN (n + 1) (fun i => if i < n then f (z8G a b i) else f a + f b) = sumN (n + 2) f := by
 have e : sumN (n + 1) (fun i => if i < n then f (z8G a b i) else f a + f b) = sumN n (fun i => if i < n then f (z8G a b i) else f a + f b) + (f a + f b) := by
  show _ + (if n < n then _ else _) = _
  rw [if_neg (Nat.lt_irrefl _)]
 rw [e, z02 (g := fun i => (fun j => f (z5K (max a b) j)) (z5K (min a b) i)) (fun i hi => by simp only [if_pos hi]; rfl)]
 rw [zDI (fun j => f (z5K (max a b) j)) (j := min a b) (n := n) (by omega), zDI f (j := max a b) (n := n + 1) (by omega)]
 have : z5K (max a b) (min a b) = min a b := by unfold z5K; rw [if_pos (by omega)]
 have e2 : sumN (n + 1 + 1) f = sumN (n + 2) f := rfl
 simp only [this, e2]
 rcases Nat.lt_or_ge a b with h | h
 · rw [Nat.max_eq_right (by omega), Nat.min_eq_left (by omega)]; omega
 · rw [Nat.max_eq_left (by omega), Nat.min_eq_right (by omega)]; omega
theorem z7V {α : Type} (l : List α) (x d : α) {a b n i : Nat} (hl : l.length = n + 2) (hab : a ≠ b) (ha : a < n + 2) (hb : b < n + 2) (hi : i < n + 1) : ((l.eraseIdx (max a b)).eraseIdx (min a b) ++ [x]).getD i d = if i < n then l.getD (z8G a b i) d else x := by
 have h1 : (l.eraseIdx (max a b)).length = n + 1 := by rw [List.length_eraseIdx]; split <;> omega
 have h2 : ((l.eraseIdx (max a b)).eraseIdx (min a b)).length = n := by rw [List.length_eraseIdx]; split <;> omega
 rw [List.getD_eq_getElem?_getD]
 by_cases h : i < n
 · rw [if_pos h, List.getElem?_append_left (by omega), List.getElem?_eraseIdx, List.getD_eq_getElem?_getD]
   unfold z8G z5K
   congr 1
   split
   · rw [List.getElem?_eraseIdx]; split <;> rfl
   · rw [List.getElem?_eraseIdx]; split <;> rfl
 · have : i = n := by omega
   subst this
   rw [if_neg h, List.getElem?_append_right (by omega), h2, Nat.sub_self]; rfl
theorem z4J {t : Tab} {a b n : Nat} (hR : t.R = n + 2) (hab : a ≠ b) (ha : a < t.R) (hb : b < t.R) : (z0a t a b).R = n + 1 := by
 have hl : t.rows.length = n + 2 := hR
 show ((t.rows.eraseIdx (max a b)).eraseIdx (min a b) ++ [_]).length = _
 have h1 : (t.rows.eraseIdx (max a b)).length = n + 1 := by rw [List.length_eraseIdx]; split <;> omega
 rw [List.length_append, List.length_eraseIdx, h1, List.length_singleton]
 split <;> omega
theorem z5C (t : Tab) (a b : Nat) : (z0a t a b).C = t.C := rfl
theorem zE8 {t : Tab} {a b n i : Nat} (hR : t.R = n + 2) (hab : a ≠ b) (ha : a < t.R) (hb : b < t.R) (hi : i < n + 1) : (z0a t a b).row i = if i < n then t.row (z8G a b i) else z0G (t.row a) (t.row b) :=
 z7V t.rows _ sp0 hR hab (by omega) (by omega) hi
theorem zCd {t : Tab} (hO : t.Ok) {a b n i k : Nat} (hR : t.R = n + 2) (hab : a ≠ b) (ha : a < t.R) (hb : b < t.R) (hi : i < n + 1) (hk : k < t.C) : (z0a t a b).cell i k = if i < n then t.cell (z8G a b i) k else z0G (t.cell a k) (t.cell b k) := by
 have h := z7V t.cells (z0T t a b t.C) [] (by rw [hO.len, hR]) hab (by omega) (by omega) hi
 show (((t.cells.eraseIdx (max a b)).eraseIdx (min a b) ++ [z0T t a b t.C]).getD i []).getD k sp0 = _
 rw [h]
 by_cases h : i < n
 · rw [if_pos h, if_pos h]; rfl
 · rw [if_neg h, if_neg h]
   unfold z0T
   rw [List.getD_eq_getElem?_getD, List.getElem?_map, List.getElem?_range hk]; rfl
def mrgF (a b n : Nat) (s : Nat → Nat → Int) (i k : Nat) : Int := if i < n then s (z8G a b i) k else s a k + s b k
theorem zFV {t : Tab} (hO : t.Ok) {a b n : Nat} (hR : t.R = n + 2) (hab : a ≠ b) (ha : a < t.R) (hb : b < t.R) {s : Nat → Nat → Int} (h : Fits t s) : Fits (z0a t a b) (mrgF a b n s) := by
 have mR := z4J hR hab ha hb
 refine ⟨fun i k hi hk => ?_, fun i hi => ?_, fun k hk => ?_⟩
 · rw [mR] at hi
   rw [z5C] at hk
   rw [zCd hO hR hab ha hb hi hk]
   unfold mrgF
   by_cases hn : i < n
   · rw [if_pos hn, if_pos hn]; exact h.cell _ _ (by rw [hR]; exact zFm hn) hk
   · rw [if_neg hn, if_neg hn]
     have h1 := h.cell a k ha hk
     have h2 := h.cell b k hb hk
     simp only [z0G]
     omega
 · rw [mR] at hi
   rw [z5C, zE8 hR hab ha hb hi]
   by_cases hn : i < n
   · rw [if_pos hn, z02 (g := s (z8G a b i)) fun k hk => by unfold mrgF; rw [if_pos hn]]
     exact h.row _ (by rw [hR]; exact zFm hn)
   · rw [if_neg hn, z02 (g := fun k => s a k + s b k) fun k hk => by unfold mrgF; rw [if_neg hn], z3y]
     have h1 := h.row a ha
     have h2 := h.row b hb
     simp only [z0G]
     have e1 : (sumN t.C fun k => s a k) = sumN t.C (s a) := rfl
     have e2 : (sumN t.C fun k => s b k) = sumN t.C (s b) := rfl
     omega
 · rw [mR]
   have := h.col k hk
   rw [hR] at this
   rw [show (fun i => mrgF a b n s i k) = fun i => if i < n then (fun j => s j k) (z8G a b i) else (fun j => s j k) a + (fun j => s j k) b from rfl, zAo (fun j => s j k) hab (by omega) (by omega)]
   exact this
theorem zIo {t : Tab} {a b n : Nat} (hR : t.R = n + 2) (hab : a ≠ b) (ha : a < t.R) (hb : b < t.R) (s : Nat → Nat → Int) : blkM (z0a t a b) (fun _ => true) (fun _ => true) (mrgF a b n s) = blkM t (fun _ => true) (fun _ => true) s := by
 rw [zF1, zF1, z4J hR hab ha hb, z5C, hR, ← zAo (fun i => sumN t.C (s i)) hab (by omega) (by omega)]
 refine z02 fun i hi => ?_
 by_cases hn : i < n
 · rw [if_pos hn]; exact z02 fun k hk => by unfold mrgF; rw [if_pos hn]
 · rw [if_neg hn, ← z3y]; exact z02 fun k hk => by unfold mrgF; rw [if_neg hn]
theorem zJy {t : Tab} {a b c : Nat} (hab : a ≠ b) (ha : a < t.R) (hb : b < t.R) (hc : c < t.C) (s : Nat → Nat → Int) : blkM t (fun i => decide (i = a) || decide (i = b)) (fun k => decide (k = c)) s = s a c + s b c := by
 rw [zAE t _ (fun i => decide (i = a)), ← z4B ha hc s, ← z4B hb hc s]
 congr 1
 · exact z0w (fun i _ => by by_cases h : i = a <;> simp [h]) (fun _ _ => rfl) s
 · exact z0w (fun i _ => by by_cases h : i = a <;> simp [h, hab]) (fun _ _ => rfl) s
theorem EndsP.img {t u : Tab} {μ ν : (Nat → Nat → Int) → Int} {x y : Spn} (hx : EndsP t μ x) (hy : EndsP u ν y) (e : ∀ s, Fits t s → ∃ s', Fits u s' ∧ ν s' = μ s) : y.lo ≤ x.lo ∧ x.hi ≤ y.hi := by
 obtain ⟨⟨s1, f1, e1⟩, ⟨s2, f2, e2⟩, _⟩ := hx
 obtain ⟨s1', g1, h1⟩ := e s1 f1
 obtain ⟨s2', g2, h2⟩ := e s2 f2
 have b1 := hy.2.2 s1' g1
 have b2 := hy.2.2 s2' g2
 omega
def idxs (a b n : Nat) : List Nat := (List.range n).filter fun i => !decide (i = a) && !decide (i = b)
theorem zKT : ∀ n, n ≤ 8 → ∀ a, a < n → ∀ b, b < n → a ≠ b → ((List.range n).eraseIdx (max a b)).eraseIdx (min a b) = idxs a b n := by decide +kernel
theorem zDx {a b n : Nat} (h1 : ¬ n = a) (h2 : ¬ n = b) : idxs a b (n + 1) = idxs a b n ++ [n] := by
 unfold idxs
 rw [List.range_succ, List.filter_append]
 simp [h1, h2]
theorem zBO {a b n : Nat} (h : n = a ∨ n = b) : idxs a b (n + 1) = idxs a b n := by
 unfold idxs
 rw [List.range_succ, List.filter_append]
 rcases h with rfl | rfl <;> simp
theorem zBN {a b n i : Nat} (h : i ∈ idxs a b n) : i < n := by
 unfold idxs at h
 exact List.mem_range.1 (List.mem_filter.1 h).1
theorem z6j (a b n : Nat) : (idxs a b n).length ≤ n := by
 unfold idxs
 exact Nat.le_trans (List.length_filter_le _ _) (by rw [List.length_range]; exact Nat.le_refl _)
theorem zGZ {α : Type} (l : List α) (d : α) : l = (List.range l.length).map fun i => l.getD i d := by
 apply List.ext_getElem?
 intro i
 by_cases h : i < l.length
 · rw [List.getElem?_map, List.getElem?_range h, Option.map_some, List.getD_eq_getElem?_getD, List.getElem?_eq_getElem h]; rfl
 · rw [List.getElem?_eq_none (by omega), List.getElem?_eq_none (by simp; omega)]
theorem zCK {α β : Type} (f : α → β) (l : List α) (k : Nat) : (l.map f).eraseIdx k = (l.eraseIdx k).map f := by
 rw [List.eraseIdx_eq_take_drop_succ, List.eraseIdx_eq_take_drop_succ, ← List.map_take, ← List.map_drop, ← List.map_append]
theorem z63 {α : Type} (l : List α) (d : α) {a b : Nat} (h8 : l.length ≤ 8) (ha : a < l.length) (hb : b < l.length) (hab : a ≠ b) : (l.eraseIdx (max a b)).eraseIdx (min a b) = (idxs a b l.length).map fun i => l.getD i d := by
 rw [← zKT _ h8 a ha b hb hab, ← zCK, ← zCK, ← zGZ]
def mrgM (m : List (List Int)) (a b C : Nat) : List (List Int) := (idxs a b m.length).map (fun i => m.getD i []) ++ [(List.range C).map fun k => z03 m a k + z03 m b k]
theorem zNU {t : Tab} (hO : t.Ok) {a b : Nat} (hab : a ≠ b) (ha : a < t.R) (hb : b < t.R) {m : List (List Int)} (h : alwB t m = true) : z2C (z0a t a b) (mrgM m a b t.C) = true ∧ z6e (z0a t a b) (z03 (mrgM m a b t.C)) = true := by
 unfold alwB at h
 rw [Bool.and_eq_true] at h
 have hf := z1T.1 h.2
 have hd := h.1
 unfold z2C at hd
 rw [Bool.and_eq_true] at hd
 have hl : m.length = t.R := of_decide_eq_true hd.1
 have hw : ∀ l ∈ m, l.length = t.C := fun l hl' => of_decide_eq_true (List.all_eq_true.1 hd.2 l hl')
 obtain ⟨n, hR⟩ : ∃ n, t.R = n + 2 := ⟨t.R - 2, by omega⟩
 have h8 := hO.R8
 have e : mrgM m a b t.C = (m.eraseIdx (max a b)).eraseIdx (min a b) ++ [(List.range t.C).map fun k => z03 m a k + z03 m b k] := by
  unfold mrgM
  rw [z63 m [] (by omega) (by omega) (by omega) hab]
 have mR := z4J hR hab ha hb
 have lm : (mrgM m a b t.C).length = n + 1 := by
  rw [e]
  have h1 : (m.eraseIdx (max a b)).length = n + 1 := by rw [List.length_eraseIdx]; split <;> omega
  rw [List.length_append, List.length_eraseIdx, h1, List.length_singleton]
  split <;> omega
 refine ⟨?_, ?_⟩
 · unfold z2C
   rw [lm, mR, decide_eq_true rfl, Bool.true_and, List.all_eq_true]
   intro l hl'
   rw [z5C]
   refine decide_eq_true ?_
   unfold mrgM at hl'
   rw [List.mem_append] at hl'
   rcases hl' with hl' | hl'
   · obtain ⟨i, hi, rfl⟩ := List.mem_map.1 hl'
     have hi := zBN hi
     rw [List.getD_eq_getElem?_getD, List.getElem?_eq_getElem hi]
     exact hw _ (List.getElem_mem hi)
   · rw [List.mem_singleton.1 hl', List.length_map, List.length_range]
 · have hm : ∀ i k, i < n + 1 → k < t.C → z03 (mrgM m a b t.C) i k = mrgF a b n (z03 m) i k := fun i k hi hk => by
     have h := z7V m ((List.range t.C).map fun k => z03 m a k + z03 m b k) [] (by omega) hab (by omega) (by omega) hi
     show ((mrgM m a b t.C).getD i []).getD k 0 = _
     rw [e, h]
     unfold mrgF
     by_cases hn : i < n
     · rw [if_pos hn, if_pos hn]; try rfl
     · rw [if_neg hn, if_neg hn, List.getD_eq_getElem?_getD, List.getElem?_map, List.getElem?_range hk, Option.map_some, Option.getD_some]
   have h0 := zFV hO hR hab ha hb hf
   rw [z1T]
   refine ⟨fun i k hi hk => ?_, fun i hi => ?_, fun k hk => ?_⟩
   · rw [hm i k (by omega) hk]; exact h0.cell i k hi hk
   · rw [z5C, z02 (g := mrgF a b n (z03 m) i) fun k hk => hm i k (by omega) hk]; exact h0.row i hi
   · rw [z02 (f := fun i => z03 (mrgM m a b t.C) i k) (g := fun i => mrgF a b n (z03 m) i k) fun i hi => hm i k (by omega) hk]; exact h0.col k hk
theorem z5d {t : Tab} (hO : t.Ok) {a b : Nat} (hab : a ≠ b) (ha : a < t.R) (hb : b < t.R) (h : (z42 t a b).all Spn.ok = true) : (z0a t a b).Ok := by
 obtain ⟨n, hR⟩ : ∃ n, t.R = n + 2 := ⟨t.R - 2, by omega⟩
 have mR := z4J hR hab ha hb
 have h8 := hO.R8
 have hl := hO.len
 unfold z42 at h
 rw [List.all_append, Bool.and_eq_true] at h
 have h1 := List.all_eq_true.1 h.1
 have h2 := List.all_eq_true.1 h.2
 refine ⟨by omega, by omega, hO.C1, hO.C8, ?_, fun l hl' => ?_, fun x hx => ?_, hO.col, fun l hl' x hx => ?_⟩
 · rw [mR]
   show ((t.cells.eraseIdx (max a b)).eraseIdx (min a b) ++ [_]).length = _
   have h1 : (t.cells.eraseIdx (max a b)).length = n + 1 := by rw [List.length_eraseIdx]; split <;> omega
   rw [List.length_append, List.length_eraseIdx, h1, List.length_singleton]
   split <;> omega
 · have hl' : l ∈ (t.cells.eraseIdx (max a b)).eraseIdx (min a b) ++ [z0T t a b t.C] := hl'
   rw [List.mem_append] at hl'
   rcases hl' with hl' | hl'
   · exact hO.wid l (List.mem_of_mem_eraseIdx (List.mem_of_mem_eraseIdx hl'))
   · rw [List.mem_singleton.1 hl', z2F]; rfl
 · have hx : x ∈ (t.rows.eraseIdx (max a b)).eraseIdx (min a b) ++ [z0G (t.row a) (t.row b)] := hx
   rw [List.mem_append] at hx
   rcases hx with hx | hx
   · exact hO.row x (List.mem_of_mem_eraseIdx (List.mem_of_mem_eraseIdx hx))
   · exact h2 x hx
 · have hl' : l ∈ (t.cells.eraseIdx (max a b)).eraseIdx (min a b) ++ [z0T t a b t.C] := hl'
   rw [List.mem_append] at hl'
   rcases hl' with hl' | hl'
   · exact hO.cel l (List.mem_of_mem_eraseIdx (List.mem_of_mem_eraseIdx hl')) x hx
   · rw [List.mem_singleton.1 hl'] at hx; exact h1 x hx
set_option maxRecDepth 10000
set_option maxHeartbeats 4000000
set_option maxRecDepth 10000
set_option maxHeartbeats 4000000
set_option maxRecDepth 10000
set_option maxHeartbeats 4000000
structure TbG (H : Heap) (a b q ga gb g : Nat) (ps : Nat → Nat) (gr : Nat) (t : Tab) : Prop where
 rows : H[a]? = some (.cells ga 2 true (t.rows.map spV))
 cols : H[b]? = some (.cells gb 2 true (t.cols.map spV))
 acc : H[q]? = some (.cells g 1 false (vecA t.R fun i => .ref (ps i) gr 0 t.C false))
 row : ∀ i, i < t.R → H[ps i]? = some (.cells gr 2 true (rowA t i))
 ab : a ≠ b
 aq : a ≠ q
 bq : b ≠ q
theorem TbG.toLit {H : Heap} {a b q ga gb g gr : Nat} {ps : Nat → Nat} {t : Tab} (h : TbG H a b q ga gb g ps gr t) (hl : t.cells.length = t.R) (hw : ∀ l ∈ t.cells, l.length = t.C) (n : Nat) : Tidy.toLit (fun _ => true) H (n + 3) (memT t a b q ga gb g) = some (canon t).v := by
 have t1 : (t.rows.map spV).take t.R = t.rows.map spV := List.take_of_length_le (by rw [List.length_map]; exact Nat.le_refl _)
 have t2 : (t.cols.map spV).take t.C = t.cols.map spV := List.take_of_length_le (by rw [List.length_map]; exact Nat.le_refl _)
 have t3 : (vecA t.R fun i => AVal.ref (ps i) gr 0 t.C false).take t.R = vecA t.R fun i => AVal.ref (ps i) gr 0 t.C false := List.take_of_length_le (by rw [z0C]; exact Nat.le_refl _)
 have lr : t.rows.length = t.R := rfl
 have lc : t.cols.length = t.C := rfl
 have hm : mapO (Tidy.toLit (fun _ => true) H (n + 1)) (vecA t.R fun i => AVal.ref (ps i) gr 0 t.C false) = some (vecA t.R fun i => AVal.lit false 2 (rowA t i)) := by
  have gen : ∀ l : List Nat, (∀ i ∈ l, i < t.R) → mapO (Tidy.toLit (fun _ => true) H (n + 1)) (l.map fun i => AVal.ref (ps i) gr 0 t.C false) = some (l.map fun i => AVal.lit false 2 (rowA t i)) := by
   intro l
   induction l with
   | nil => intro _; rfl
   | cons i l ih =>
     intro hl'
     have hi := hl' i (by simp)
     have hr := h.row i hi
     have hrl := z0V hl hw hi
     have htk : (rowA t i).take t.C = rowA t i := List.take_of_length_le (by omega)
     simp only [List.map_cons, mapO, ih fun j hj => hl' j (by simp [hj])]
     simp [Tidy.toLit, noRef, AVal.under, hr, hrl, htk]
  exact gen _ fun i hi => List.mem_range.1 hi
 have ec : (canon t).v = .agg [.lit false 2 (t.rows.map spV), .lit false 2 (t.cols.map spV), .lit false 1 (vecA t.R fun i => AVal.lit false 2 (rowA t i))] := by
  rw [zBh hl]
  unfold canon TabV.v
  simp only [List.map_map]
  rfl
 have ea : Tidy.toLit (fun _ => true) H (n + 2) (.ref a ga 0 t.R false) = some (.lit false 2 (t.rows.map spV)) := by
  simp [Tidy.toLit, noRef, AVal.under, h.rows, t1, lr]
 have eb : Tidy.toLit (fun _ => true) H (n + 2) (.ref b gb 0 t.C false) = some (.lit false 2 (t.cols.map spV)) := by
  simp [Tidy.toLit, noRef, AVal.under, h.cols, t2, lc]
 have eq : Tidy.toLit (fun _ => true) H (n + 2) (.ref q g 0 t.R false) = some (.lit false 1 (vecA t.R fun i => AVal.lit false 2 (rowA t i))) := by
  unfold Tidy.toLit
  simp only [noRef, AVal.under, Nat.not_lt_zero, decide_false, Bool.false_eq_true, if_false, h.acc, decide_true, Nat.zero_add, z0C, Nat.le_refl, Bool.and_true, if_true, List.drop_zero, t3, hm]
  rfl
 rw [ec]
 unfold Tidy.toLit
 simp only [memT, noRef, AVal.under, underL, Nat.not_lt_zero, decide_false, Bool.false_and, Bool.false_eq_true, if_false, mapO, ea, eb, eq]
 rfl
theorem TbG.lend {H : Heap} {a b q ga gb g gr : Nat} {ps : Nat → Nat} {t : Tab} (h : TbG H a b q ga gb g ps gr t) (hR : t.R ≤ 8) (hl : t.cells.length = t.R) (hw : ∀ l ∈ t.cells, l.length = t.C) {lits : List Nat} (h0 : lits.contains 0 = true) {args : List AVal} (ha : underL 0 args = true) : ∃ ids, Tidy.lend H lits (memT t a b q ga gb g :: args) 0 = some ((canon t).v :: args, ids) := by
 have hlit := h.toLit hl hw 5
 have hre : ∃ l, reach H fuel0 (memT t a b q ga gb g).refs [] = some l := by
  have hrefs : (memT t a b q ga gb g).refs = [a, b, q] := rfl
  rw [hrefs]
  have hab : b ≠ a := Ne.symm h.ab
  have haq : q ≠ a := Ne.symm h.aq
  have hbq : q ≠ b := Ne.symm h.bq
  have hrl : refsL (vecA t.R fun i => AVal.ref (ps i) gr 0 t.C false) = vecA t.R ps := by
   unfold vecA
   induction (List.range t.R) with
   | nil => rfl
   | cons i l ih => simp [refsL, AVal.refs, ih]
  obtain ⟨l, hl⟩ := z3N (H := H) (vecA t.R ps) [a, b, q] 61 (fun id hid => by
   unfold vecA at hid
   obtain ⟨i, hi, rfl⟩ := List.mem_map.1 hid
   exact ⟨_, _, _, h.row i (List.mem_range.1 hi)⟩) (by rw [z0C]; omega)
  refine ⟨l, ?_⟩
  unfold fuel0
  simp [reach, h.rows, h.cols, h.acc, hab, haq, hbq, hrl, hl]
 obtain ⟨l, hre⟩ := hre
 have hnr : noRef (memT t a b q ga gb g) = false := rfl
 refine ⟨l ++ [], ?_⟩
 unfold Tidy.lend
 rw [lend_noRef H lits args 1 ha]
 simp only [h0, hnr, Bool.not_false, Bool.and_self, if_true, hlit, hre]
def accF (l : List AVal) : Blk := if l = [] then .cells 0 0 false [] else .cells l.length 1 false l
set_option maxRecDepth 10000
set_option maxHeartbeats 4000000
theorem zC5 {H : Heap} {q n : Nat} {es : List AVal} {x r : AVal} (hx : z15 H x = some (1, [r])) (hH : H[q]? = some (accF es)) (hn : es.length = n) (hr : r.cellsOf = [r]) (ht : r.isTuple = false) (hb : n < 2 ^ 20) (nx : Nat) :
    z0H env 0 nx 46 (.ref q n 0 n false) x H = some (.ref q (n + 1) 0 (n + 1) false, [(q, accF (es ++ [r]))]) := by
 subst hn
 have hne : es ++ [r] ≠ [] := by simp
 have hln : (es ++ [r]).length = es.length + 1 := by simp
 by_cases h : es = []
 · subst h
   have hH' : H[q]? = some (.cells 0 0 false []) := hH
   have hfl : z0t env 8 51 = false := rfl
   have hm : 25 ≤ z04 := by decide
   simp [z0H, ti46, ti51, hx, hH', hfl, z1Y, accF, hr, ht, hm]
   exact ⟨rfl, rfl⟩
 · have hgr := append_ref (E := env) (ro := 0) (nx := nx) (H := H) (id := q) (g := es.length) (len := es.length) (x := x) (nsz := 1) (new := [r]) (fl := false) (bs := es) ti46 ti51 hx ⟨by decide, rfl, rfl⟩ rfl (by simp)
     (by rw [hH, accF, if_neg h]) rfl (List.length_pos_iff.2 h) (Nat.zero_le _) (by show (es.length + 1) * 25 ≤ 2 ^ 45; omega) (fun h => by cases h)
   rw [hgr, accF, if_neg hne, hln]
   rfl
def z9w : SlI := ⟨false, 1, []⟩
def z1y (M : MatV) (a b n : Nat) : List AVal := (idxs a b n).map fun j => (M.rows.getD j z9w).v
theorem zNR {M : MatV} {a b : Nat} {v4 : AVal} {X0 X1 : Blk} (h8 : M.rows.length ≤ 8) : ∀ (n i : Nat) (j0 j6 j7 j8 j9 j10 j12 j14 j15 j16 j17 j18 j19 j20 j21 j22 j23 j24 j25 j26 j27 j28 j29 j30 j31 j32 j33 j34 j35 j36 j37 j38 j39 j40 j41 j42 j43 j44 j45 j46 j47 j48 j49 j50 j51 j52 j53 j54 j55 j56 j57 j58 j59 j60 j61 j62 j63 j64 j65 j66 j67 j68 j69 j70 j71 j72 j73 j74 j75 j76 j77 j78 j79 j80 j81 j82 j83 j84 j85 j86 j87 j88 j89 j90 j91 j92 j93 j94 j95 j99 j100 j101 j102 j103 j104 j105 j106 j107 j108 j109 j110 j111 j112 j113 j114 j115 j116 j117 j118 j119 j120 j121 j122 j123 j124 j125 j126 j127 j128 j129 j130 j131 j132 j133 j134 j135 j136 j137 j138 j139 j140 j141 j142 j143 j144 j145 j146 j147 j148 j149 j150 j151 j152 j153 j154 j155 j156 j157 j158 j159 j160 j161 j162 j163 j164 j165 j166 j167 j168 j169 j170 j171 j172 j173 j174 j175 j176 j177 j178 j179 j180 j181 j182 j183 j184 j185 j186 j187 j188 j189 j190 j191 j192 j193 j194 j195 j196 j197 j198 j199 j200 j201 j202 j203 j204 j205 j206 j207 j208 j209 j210 j211 j212 j213 j214 j215 j216 j217 j218 j219 j220 j221 j222 j223 j224 j225 j226 j227 j228 j229 j230 j231 j232 : AVal), i + n = M.rows.length →
    Goes (execT env (Try.f6.at [1, 1, 1, 1, 1, 1, 0, 1, 0, 1, 0, 1, 0]) ⟨[j0, .lit M.cl 1 (M.rows.map SlI.v), .int .i64 a, .int .i64 b, v4, .ptr 0 0 0 0, j6, j7, j8, j9, j10, .ptr 1 0 0 0, j12, .ref 2 (idxs a b i).length 0 (idxs a b i).length false, j14, j15, j16, j17, j18, j19, j20, j21, j22, j23, j24, j25, j26, j27, j28, j29, j30, j31, j32, j33, j34, j35, j36, j37, j38, j39, j40, j41, j42, j43, j44, j45, j46, j47, j48, j49, j50, j51, j52, j53, j54, j55, j56, j57, j58, j59, j60, j61, j62, j63, j64, j65, j66, j67, j68, j69, j70, j71, j72, j73, j74, j75, j76, j77, j78, j79, j80, j81, j82, j83, j84, j85, j86, j87, j88, j89, j90, j91, j92, j93, j94, j95, .lit M.cl 1 (M.rows.map SlI.v), .int .i64 M.rows.length, .int .i64 i, j99, j100, j101, j102, j103, j104, j105, j106, j107, j108, j109, j110, j111, j112, j113, j114, j115, j116, j117, j118, j119, j120, j121, j122, j123, j124, j125, j126, j127, j128, j129, j130, j131, j132, j133, j134, j135, j136, j137, j138, j139, j140, j141, j142, j143, j144, j145, j146, j147, j148, j149, j150, j151, j152, j153, j154, j155, j156, j157, j158, j159, j160, j161, j162, j163, j164, j165, j166, j167, j168, j169, j170, j171, j172, j173, j174, j175, j176, j177, j178, j179, j180, j181, j182, j183, j184, j185, j186, j187, j188, j189, j190, j191, j192, j193, j194, j195, j196, j197, j198, j199, j200, j201, j202, j203, j204, j205, j206, j207, j208, j209, j210, j211, j212, j213, j214, j215, j216, j217, j218, j219, j220, j221, j222, j223, j224, j225, j226, j227, j228, j229, j230, j231, j232], [X0, X1, accF (z1y M a b i)], [], 0, [13, 147]⟩) fun ex st =>
     ex = .exit 0 ∧ FrP 233 [(1, .lit M.cl 1 (M.rows.map SlI.v)), (2, .int .i64 a), (3, .int .i64 b), (4, v4), (5, .ptr 0 0 0 0), (11, .ptr 1 0 0 0), (13, .ref 2 (idxs a b M.rows.length).length 0 (idxs a b M.rows.length).length false)] [X0, X1, accF (z1y M a b M.rows.length)] [] 0 [13, 147] st := by
 intro n
 induction n with
 | zero =>
   intro i; intros; rename_i hi
   have hd : decide ((i : Int) < (M.rows.length : Int)) = false := by simp; omega
   have hi' : i = M.rows.length := by omega
   rw [hi'] at hd ⊢
   simp (config := { maxSteps := 2000000 }) only [go_sem, simprocAttr, Try.f6]
   rw [exec_loop]
   simp (config := { maxSteps := 2000000 }) only [go_sem, simprocAttr, hd]
   exact frP (by kernel_rfl)
 | succ n ih =>
   intro i; intros; rename_i hi
   have hiR : i < M.rows.length := by omega
   have hd : decide ((i : Int) < (M.rows.length : Int)) = true := by simp; omega
   have i0 : (0 : Int) ≤ (i : Int) := by omega
   have wi : IntKind.i64.wrap ((i : Int) + 1) = ((i + 1 : Nat) : Int) := z00 (by omega)
   have hg : (M.rows.map SlI.v)[i]? = some (M.rows.getD i z9w).v := by
    rw [List.getElem?_map, List.getD_eq_getElem?_getD, List.getElem?_eq_getElem hiR]; rfl
   have hcl : (M.rows.getD i z9w).v.cellsOf[0]? = some (M.rows.getD i z9w).v := rfl
   have ih' := ih (i + 1)
   by_cases hk : i = a ∨ i = b
   · have ek : z1y M a b (i + 1) = z1y M a b i := by unfold z1y; rw [zBO hk]
     rw [ek, zBO hk] at ih'
     have d1 : decide ((i : Int) = (a : Int)) = decide (i = a) := by simp only [decide_eq_decide]; omega
     have d2 : decide ((i : Int) = (b : Int)) = decide (i = b) := by simp only [decide_eq_decide]; omega
     simp (config := { maxSteps := 2000000 }) only [go_sem, simprocAttr, Try.f6] at ih' ⊢
     rw [exec_loop]
     by_cases ea : i = a
     · have d1 : decide ((i : Int) = (a : Int)) = true := by rw [d1]; exact decide_eq_true ea
       simp (config := { maxSteps := 2000000 }) only [go_sem, simprocAttr, hd, i0, Int.toNat_natCast, hg, hcl, d1, wi]
       exact ih' _ _ _ _ _ _ _ _ _ _ _ _ _ _ _ _ _ _ _ _ _ _ _ _ _ _ _ _ _ _ _ _ _ _ _ _ _ _ _ _ _ _ _ _ _ _ _ _ _ _ _ _ _ _ _ _ _ _ _ _ _ _ _ _ _ _ _ _ _ _ _ _ _ _ _ _ _ _ _ _ _ _ _ _ _ _ _ _ _ _ _ _ _ _ _ _ _ _ _ _ _ _ _ _ _ _ _ _ _ _ _ _ _ _ _ _ _ _ _ _ _ _ _ _ _ _ _ _ _ _ _ _ _ _ _ _ _ _ _ _ _ _ _ _ _ _ _ _ _ _ _ _ _ _ _ _ _ _ _ _ _ _ _ _ _ _ _ _ _ _ _ _ _ _ _ _ _ _ _ _ _ _ _ _ _ _ _ _ _ _ _ _ _ _ _ _ _ _ _ _ _ _ _ _ _ _ _ _ _ _ _ _ _ _ _ _ _ _ _ _ _ _ _ (by omega)
     · have d1 : decide ((i : Int) = (a : Int)) = false := by rw [d1]; exact decide_eq_false ea
       have d2 : decide ((i : Int) = (b : Int)) = true := by rw [d2]; exact decide_eq_true (hk.resolve_left ea)
       simp (config := { maxSteps := 2000000 }) only [go_sem, simprocAttr, hd, i0, Int.toNat_natCast, hg, hcl, d1, d2, wi]
       exact ih' _ _ _ _ _ _ _ _ _ _ _ _ _ _ _ _ _ _ _ _ _ _ _ _ _ _ _ _ _ _ _ _ _ _ _ _ _ _ _ _ _ _ _ _ _ _ _ _ _ _ _ _ _ _ _ _ _ _ _ _ _ _ _ _ _ _ _ _ _ _ _ _ _ _ _ _ _ _ _ _ _ _ _ _ _ _ _ _ _ _ _ _ _ _ _ _ _ _ _ _ _ _ _ _ _ _ _ _ _ _ _ _ _ _ _ _ _ _ _ _ _ _ _ _ _ _ _ _ _ _ _ _ _ _ _ _ _ _ _ _ _ _ _ _ _ _ _ _ _ _ _ _ _ _ _ _ _ _ _ _ _ _ _ _ _ _ _ _ _ _ _ _ _ _ _ _ _ _ _ _ _ _ _ _ _ _ _ _ _ _ _ _ _ _ _ _ _ _ _ _ _ _ _ _ _ _ _ _ _ _ _ _ _ _ _ _ _ _ _ _ _ _ _ (by omega)
   · have ea : ¬ i = a := fun e => hk (.inl e)
     have eb : ¬ i = b := fun e => hk (.inr e)
     have d1 : decide ((i : Int) = (a : Int)) = false := by rw [decide_eq_false_iff_not]; omega
     have d2 : decide ((i : Int) = (b : Int)) = false := by rw [decide_eq_false_iff_not]; omega
     have ek : z1y M a b (i + 1) = z1y M a b i ++ [(M.rows.getD i z9w).v] := by unfold z1y; rw [zDx ea eb, List.map_append]; rfl
     have el : (idxs a b (i + 1)).length = (idxs a b i).length + 1 := by rw [zDx ea eb, List.length_append]; rfl
     have ln := z6j a b i
     have ap := zC5 (H := [X0, X1, accF (z1y M a b i)]) (q := 2) (n := (idxs a b i).length) (es := z1y M a b i) (x := .lit true 1 [(M.rows.getD i z9w).v]) (r := (M.rows.getD i z9w).v) rfl rfl (by unfold z1y; rw [List.length_map]) rfl rfl (by omega) 3
     rw [← ek] at ap
     have hif : (decide ((M.rows.getD i z9w).v.cellsOf.length = 1) && !(M.rows.getD i z9w).v.isTuple) = true := rfl
     rw [el] at ih'
     simp (config := { maxSteps := 2000000 }) only [go_sem, simprocAttr, Try.f6] at ih' ⊢
     rw [exec_loop]
     simp (config := { maxSteps := 2000000 }) only [go_sem, simprocAttr, hd, i0, Int.toNat_natCast, hg, hcl, d1, d2, hif, ap, wi]
     exact ih' _ _ _ _ _ _ _ _ _ _ _ _ _ _ _ _ _ _ _ _ _ _ _ _ _ _ _ _ _ _ _ _ _ _ _ _ _ _ _ _ _ _ _ _ _ _ _ _ _ _ _ _ _ _ _ _ _ _ _ _ _ _ _ _ _ _ _ _ _ _ _ _ _ _ _ _ _ _ _ _ _ _ _ _ _ _ _ _ _ _ _ _ _ _ _ _ _ _ _ _ _ _ _ _ _ _ _ _ _ _ _ _ _ _ _ _ _ _ _ _ _ _ _ _ _ _ _ _ _ _ _ _ _ _ _ _ _ _ _ _ _ _ _ _ _ _ _ _ _ _ _ _ _ _ _ _ _ _ _ _ _ _ _ _ _ _ _ _ _ _ _ _ _ _ _ _ _ _ _ _ _ _ _ _ _ _ _ _ _ _ _ _ _ _ _ _ _ _ _ _ _ _ _ _ _ _ _ _ _ _ _ _ _ _ _ _ _ _ _ _ _ _ _ (by omega)
def meS (m : List (List Int)) (a b k j : Nat) : Int := if j < k then z03 m a j + z03 m b j else 0
theorem zNS {T : TabV} {M : MatV} (hO : T.tab.Ok) (hM : M.Wf) (hD : DimsOk T M) (hf : Fits T.tab (z03 M.m)) {a b : Nat} (ha : a < T.tab.R) (hb : b < T.tab.R) {v4 v13 : AVal} {X0 X1 X2 : Blk} : ∀ (n k : Nat) (j0 j6 j7 j8 j9 j10 j12 j14 j15 j17 j18 j19 j20 j21 j22 j23 j24 j25 j26 j27 j28 j29 j30 j31 j32 j33 j34 j35 j36 j37 j38 j39 j40 j41 j42 j43 j44 j45 j46 j47 j48 j49 j50 j51 j52 j53 j54 j55 j56 j57 j58 j59 j60 j61 j62 j63 j64 j65 j66 j67 j68 j69 j70 j71 j72 j73 j74 j75 j76 j77 j78 j79 j80 j81 j82 j83 j84 j85 j86 j87 j88 j89 j90 j91 j92 j93 j94 j95 j96 j97 j98 j99 j100 j101 j102 j103 j104 j105 j106 j107 j108 j109 j110 j111 j112 j113 j114 j115 j116 j117 j118 j119 j123 j124 j125 j126 j127 j128 j129 j130 j131 j132 j133 j134 j135 j136 j137 j138 j139 j140 j141 j142 j143 j144 j145 j146 j147 j148 j149 j150 j151 j152 j153 j154 j155 j156 j157 j158 j159 j160 j161 j162 j163 j164 j165 j166 j167 j168 j169 j170 j171 j172 j173 j174 j175 j176 j177 j178 j179 j180 j181 j182 j183 j184 j185 j186 j187 j188 j189 j190 j191 j192 j193 j194 j195 j196 j197 j198 j199 j200 j201 j202 j203 j204 j205 j206 j207 j208 j209 j210 j211 j212 j213 j214 j215 j216 j217 j218 j219 j220 j221 j222 j223 j224 j225 j226 j227 j228 j229 j230 j231 j232 : AVal), k + n = T.tab.C →
    Goes (execT env (Try.f6.at [1, 1, 1, 1, 1, 1, 0, 1, 0, 1, 1, 1, 0, 1, 0]) ⟨[j0, .lit M.cl 1 (M.rows.map SlI.v), .int .i64 a, .int .i64 b, v4, .ptr 0 0 0 0, j6, j7, j8, j9, j10, .ptr 1 0 0 0, j12, v13, j14, j15, .ref 3 0 0 T.tab.C false, j17, j18, j19, j20, j21, j22, j23, j24, j25, j26, j27, j28, j29, j30, j31, j32, j33, j34, j35, j36, j37, j38, j39, j40, j41, j42, j43, j44, j45, j46, j47, j48, j49, j50, j51, j52, j53, j54, j55, j56, j57, j58, j59, j60, j61, j62, j63, j64, j65, j66, j67, j68, j69, j70, j71, j72, j73, j74, j75, j76, j77, j78, j79, j80, j81, j82, j83, j84, j85, j86, j87, j88, j89, j90, j91, j92, j93, j94, j95, j96, j97, j98, j99, j100, j101, j102, j103, j104, j105, j106, j107, j108, j109, j110, j111, j112, j113, j114, j115, j116, j117, j118, j119, .ref 3 0 0 T.tab.C false, .int .i64 T.tab.C, .int .i64 k, j123, j124, j125, j126, j127, j128, j129, j130, j131, j132, j133, j134, j135, j136, j137, j138, j139, j140, j141, j142, j143, j144, j145, j146, j147, j148, j149, j150, j151, j152, j153, j154, j155, j156, j157, j158, j159, j160, j161, j162, j163, j164, j165, j166, j167, j168, j169, j170, j171, j172, j173, j174, j175, j176, j177, j178, j179, j180, j181, j182, j183, j184, j185, j186, j187, j188, j189, j190, j191, j192, j193, j194, j195, j196, j197, j198, j199, j200, j201, j202, j203, j204, j205, j206, j207, j208, j209, j210, j211, j212, j213, j214, j215, j216, j217, j218, j219, j220, j221, j222, j223, j224, j225, j226, j227, j228, j229, j230, j231, j232], [X0, X1, X2, .cells 0 1 true (intsV T.tab.C (meS M.m a b k))], [], 0, [13, 147]⟩) fun ex st =>
     ex = .exit 2 ∧ FrP 233 [(1, .lit M.cl 1 (M.rows.map SlI.v)), (2, .int .i64 a), (3, .int .i64 b), (4, v4), (5, .ptr 0 0 0 0), (11, .ptr 1 0 0 0), (13, v13), (16, .ref 3 0 0 T.tab.C false)] [X0, X1, X2, .cells 0 1 true (intsV T.tab.C (meS M.m a b T.tab.C))] [] 0 [13, 147] st := by
 have hR8 := hO.R8
 have hC8 := hO.C8
 intro n
 induction n with
 | zero =>
   intro k; intros; rename_i hk
   have hd : decide ((k : Int) < (T.tab.C : Int)) = false := by simp; omega
   have hk' : k = T.tab.C := by omega
   subst hk'
   simp (config := { maxSteps := 2000000 }) only [go_sem, simprocAttr, Try.f6]
   rw [exec_loop]
   simp (config := { maxSteps := 2000000 }) only [go_sem, simprocAttr, hd]
   exact frP (by kernel_rfl)
 | succ n ih =>
   intro k; intros; rename_i hk
   have hkC : k < T.tab.C := by omega
   have hd : decide ((k : Int) < (T.tab.C : Int)) = true := by simp; omega
   have k0 : (0 : Int) ≤ (k : Int) := by omega
   have a0 : (0 : Int) ≤ (a : Int) := by omega
   have b0 : (0 : Int) ≤ (b : Int) := by omega
   obtain ⟨ba, _, _, m1, m2, _, m3, m4⟩ := MatV.at hM hD ha hkC
   obtain ⟨bb, _, _, n1, n2, _, n3, n4⟩ := MatV.at hM hD hb hkC
   have bda := hf.cell a k ha hkC
   have bdb := hf.cell b k hb hkC
   have oka := hO.cell_ok ha hkC
   have okb := hO.cell_ok hb hkC
   have ws : IntKind.i64.wrap (z03 M.m a k + z03 M.m b k) = z03 M.m a k + z03 M.m b k := i64_in _ (by omega)
   have hg : (intsV T.tab.C (meS M.m a b k))[k]? = some (.int .i64 (meS M.m a b k k)) := z19 hkC
   have hs : (intsV T.tab.C (meS M.m a b k)).set k (.int .i64 (z03 M.m a k + z03 M.m b k)) = intsV T.tab.C (meS M.m a b (k + 1)) := z35 fun i hi => by
    unfold meS
    by_cases e : i = k
    · subst e; rw [if_pos (by omega), if_pos rfl]
    · rw [if_neg e]
      by_cases e2 : i < k
      · rw [if_pos (by omega), if_pos e2]
      · rw [if_neg (by omega), if_neg e2]
   have ih' := ih (k + 1)
   simp (config := { maxSteps := 2000000 }) only [go_sem, simprocAttr, Try.f6] at ih' ⊢
   rw [exec_loop]
   simp (config := { maxSteps := 2000000 }) only [go_sem, simprocAttr, hd, a0, b0, k0, Int.toNat_natCast, m1, m2, m3, m4, n1, n2, n3, n4, List.length_map, hkC, ws, hg, hs]
   rw [apart_ok (z0L (by kernel_rfl))]
   simp (config := { maxSteps := 2000000 }) only [go_sem, simprocAttr, z00 (show k < 2 ^ 63 - 1 by omega)]
   exact ih' _ _ _ _ _ _ _ _ _ _ _ _ _ _ _ _ _ _ _ _ _ _ _ _ _ _ _ _ _ _ _ _ _ _ _ _ _ _ _ _ _ _ _ _ _ _ _ _ _ _ _ _ _ _ _ _ _ _ _ _ _ _ _ _ _ _ _ _ _ _ _ _ _ _ _ _ _ _ _ _ _ _ _ _ _ _ _ _ _ _ _ _ _ _ _ _ _ _ _ _ _ _ _ _ _ _ _ _ _ _ _ _ _ _ _ _ _ _ _ _ _ _ _ _ _ _ _ _ _ _ _ _ _ _ _ _ _ _ _ _ _ _ _ _ _ _ _ _ _ _ _ _ _ _ _ _ _ _ _ _ _ _ _ _ _ _ _ _ _ _ _ _ _ _ _ _ _ _ _ _ _ _ _ _ _ _ _ _ _ _ _ _ _ _ _ _ _ _ _ _ _ _ _ _ _ _ _ _ _ _ _ _ _ _ _ _ _ _ _ _ _ _ (by omega)
def meM (M : MatV) (a b C : Nat) : MatV := ⟨false, 1, ((idxs a b M.rows.length).map fun j => M.rows.getD j z9w) ++ [⟨false, 1, vecA C (meS M.m a b C)⟩]⟩
theorem zSM (M : MatV) (a b C : Nat) : (meM M a b C).m = mrgM M.m a b C := by
 have hl : M.m.length = M.rows.length := by simp [MatV.m]
 unfold meM mrgM MatV.m
 rw [List.map_append, List.map_map, List.length_map]
 congr 1
 · refine List.map_congr_left fun j hj => ?_
   have := zBN hj
   rw [Function.comp, List.getD_eq_getElem?_getD, List.getD_eq_getElem?_getD, List.getElem?_map, List.getElem?_eq_getElem this]; rfl
 · show [vecA C _] = _
   congr 1
   unfold vecA
   refine List.map_congr_left fun k hk => ?_
   unfold meS
   rw [if_pos (List.mem_range.1 hk)]
theorem zQ0 {T : TabV} {M : MatV} (hO : T.tab.Ok) (hM : M.Wf) (hD : DimsOk T M) (hf : Fits T.tab (z03 M.m)) {a b : Nat} (ha : a < T.tab.R) (hb : b < T.tab.R) : (meM M a b T.tab.C).Wf := by
 have hR8 := hO.R8
 have hC8 := hO.C8
 have hl := hD.len
 have li := z6j a b M.rows.length
 have cases_ : ∀ s ∈ (meM M a b T.tab.C).rows, s ∈ M.rows ∨ s = ⟨false, 1, vecA T.tab.C (meS M.m a b T.tab.C)⟩ := fun s hs => by
  unfold meM at hs
  rw [List.mem_append] at hs
  rcases hs with hs | hs
  · obtain ⟨j, hj, rfl⟩ := List.mem_map.1 hs
    have := zBN hj
    left
    rw [List.getD_eq_getElem?_getD, List.getElem?_eq_getElem this]
    exact List.getElem_mem this
  · exact .inr (List.mem_singleton.1 hs)
 refine ⟨.inr rfl, fun s hs => ?_, ?_, fun s hs => ?_, fun s hs x hx => ?_⟩
 · rcases cases_ s hs with h | rfl
   · exact hM.each s h
   · exact .inr rfl
 · show (_ ++ [_]).length < _
   rw [List.length_append, List.length_map, List.length_singleton]
   omega
 · rcases cases_ s hs with h | rfl
   · exact hM.le s h
   · show (vecA _ _).length < _
     rw [z0C]; omega
 · rcases cases_ s hs with h | rfl
   · exact hM.int s h x hx
   · have hx : x ∈ vecA T.tab.C (meS M.m a b T.tab.C) := hx
     unfold vecA at hx
     obtain ⟨k, hk, rfl⟩ := List.mem_map.1 hx
     have hk := List.mem_range.1 hk
     have bda := hf.cell a k ha hk
     have bdb := hf.cell b k hb hk
     have oka := hO.cell_ok ha hk
     have okb := hO.cell_ok hb hk
     unfold meS
     rw [if_pos hk]
     omega
theorem zCc {f : AVal → Option AVal} {r r' : AVal} (hr : f r = some r') : ∀ l : List AVal, (∀ x ∈ l, f x = some x) → mapO f (l ++ [r]) = some (l ++ [r'])
 | [], _ => by simp only [List.nil_append, mapO, hr]
 | x :: l, h => by
   simp only [List.cons_append, mapO, h x (by simp), zCc hr l fun y hy => h y (by simp [hy])]
theorem zSN {T W : TabV} {M : MatV} (hW : W.Wf) (hO : T.tab.Ok) (hM : M.Wf) (hD : DimsOk T M) (hf : Fits T.tab (z03 M.m)) {a b : Nat} (ha : a < T.tab.R) (hb : b < T.tab.R) {H : Heap} {n : Nat} (h2 : H[2]? = some (.cells n 1 false (z1y M a b M.rows.length ++ [.ref 3 0 0 T.tab.C false]))) (h3 : H[3]? = some (.cells 0 1 true (intsV T.tab.C (meS M.m a b T.tab.C)))) (hn : (z1y M a b M.rows.length).length + 1 = n) (nx : Nat) :
    callT env 40 [W.v, .ref 2 n 0 n false] 0 H nx = some (.ret (.int .i64 (cmS W.tab (mrgM M.m a b T.tab.C))), .ups []) := by
 obtain ⟨X, hr⟩ := zHs hW (zQ0 hO hM hD hf ha hb)
 rw [zSM] at hr
 have kp : ∀ x ∈ z1y M a b M.rows.length, noRef x = true := fun x hx => by
  unfold z1y at hx
  obtain ⟨j, _, rfl⟩ := List.mem_map.1 hx
  exact SlI.under _ _
 have e3 : toLit (fun _ => true) H 7 (.ref 3 0 0 T.tab.C false) = some (.lit false 1 (intsV T.tab.C (meS M.m a b T.tab.C))) := by
  simp [toLit, noRef, AVal.under, h3, z0R, z7a]
 have em := zCc (f := toLit (fun _ => true) H 7) e3 (z1y M a b M.rows.length) fun x hx => by
  unfold toLit
  rw [if_pos (kp x hx)]
 have hlen : (z1y M a b M.rows.length ++ [AVal.ref 3 0 0 T.tab.C false]).length = n := by rw [List.length_append]; exact hn
 have etk : (z1y M a b M.rows.length ++ [AVal.ref 3 0 0 T.tab.C false]).take n = z1y M a b M.rows.length ++ [AVal.ref 3 0 0 T.tab.C false] := List.take_of_length_le (by omega)
 have e2 : toLit (fun _ => true) H 8 (.ref 2 n 0 n false) = some (meM M a b T.tab.C).v := by
  have ev : (meM M a b T.tab.C).v = .lit false 1 (z1y M a b M.rows.length ++ [.lit false 1 (intsV T.tab.C (meS M.m a b T.tab.C))]) := by
   unfold meM MatV.v z1y
   rw [List.map_append, List.map_map, z4c]; rfl
  rw [ev]
  unfold toLit
  simp only [noRef, AVal.under, Nat.not_lt_zero, decide_false, Bool.false_eq_true, if_false, h2, decide_true, Nat.zero_add, hlen, Nat.le_refl, Bool.and_true, if_true, List.drop_zero, etk, em]
  rfl
 have hrl : refsL (z1y M a b M.rows.length ++ [AVal.ref 3 0 0 T.tab.C false]) = [3] := by
  have : ∀ l : List AVal, (∀ x ∈ l, noRef x = true) → refsL (l ++ [AVal.ref 3 0 0 T.tab.C false]) = [3] := by
   intro l
   induction l with
   | nil => intro _; rfl
   | cons x l ih =>
     intro h
     have hx := (refs_noRef).1 x (h x (by simp))
     simp only [List.cons_append, refsL, hx, List.nil_append, ih fun y hy => h y (by simp [hy])]
  exact this _ kp
 have hre : ∃ l, reach H fuel0 [2] [] = some l := by
  obtain ⟨l, hl⟩ := z3N (H := H) [3] [2] 63 (fun id hid => by
   rw [List.mem_singleton.1 hid]
   exact ⟨_, _, _, h3⟩) (by decide)
  refine ⟨l, ?_⟩
  unfold fuel0
  simp [reach, h2, hrl, hl]
 obtain ⟨l, hre⟩ := hre
 have hle : lend H (env.hint 40).lits [W.v, .ref 2 n 0 n false] 0 = some ([W.v, (meM M a b T.tab.C).v], l) := by
  have h40 : (env.hint 40).lits = [0, 1] := rfl
  have hw : noRef W.v = true := rfl
  have hnr : noRef (.ref 2 n 0 n false) = false := rfl
  have hrf : (AVal.ref 2 n 0 n false).refs = [2] := rfl
  rw [h40]
  unfold lend
  unfold lend
  unfold lend
  simp [hw, hnr, e2, hrf, hre]
 obtain ⟨us, mc, hus⟩ := z21 (f := 40) rfl rfl rfl rfl hle (by simp only [underL, TabV.under, MatV.under, Bool.and_self]) hr (handBack_noRef _ _ _ _ _ rfl) rfl nx
 have hus := hus rfl
 subst hus
 exact mc
set_option maxRecDepth 10000
set_option maxHeartbeats 4000000
theorem sl15 {H : Heap} {p n : Nat} {es : List AVal} (hH : H[p]? = some (.cells n 2 true es)) : z0Z env H 22 (.ref p n 0 n false) none (some (.int .i64 n)) (some (.int .i64 n)) = some (.ref p n 0 n true) := by
 simp only [z0Z, ti22, ti39, hH, z4w]
 simp [z0U]
theorem ap15 {H : Heap} {p n : Nat} {l : List Spn} {x : Spn} (hH : H[p]? = some (.cells n 2 true (l.map spV))) (hn : l.length = n) (hb : n < 2 ^ 30) (nx : Nat) : z0H env 0 nx 22 (.ref p n 0 n true) (.lit true 2 [spV x]) H = some (.ref nx 0 0 (n + 1) false, [(nx, .cells 0 2 true ((l ++ [x]).map spV))]) := by
 have hel : z15 H (.ref p n 0 n true) = some (2, l.map spV) := by
  have htk : (l.map spV).take n = l.map spV := List.take_of_length_le (by rw [List.length_map]; omega)
  simp [z15, hH, htk, hn]
 have hfl : z0t env 8 39 = true := rfl
 have hnr : (l.map spV).all noRef = true := z29 _
 have hm : (n + 1) * 17 ≤ z04 := by unfold z04; omega
 have hx : noRef (spV x) = true := rfl
 have e1 : z15 H (.lit true 2 [spV x]) = some (2, [spV x]) := rfl
 have hz : (AVal.agg [.int .i64 0, .int .i64 0]).cellsOf.length = 2 ∧ (AVal.agg [.int .i64 0, .int .i64 0]).isTuple = false := ⟨rfl, rfl⟩
 simp [z0H, ti22, ti39, hel, e1, hfl, hx, hm, hn, z1Y, hz]
 exact List.all_eq_true.1 hnr |> fun h => by simpa using h
theorem zFA {H : Heap} {L : List Spn} {rest : List AVal} {p n i : Nat} (hH : H[p]? = some (.cells 0 2 true (L.map spV ++ rest))) (hn : L.length = n) (hi : i < n) (hb : n < 2 ^ 30) (hr : rest.all noRef = true) (nx : Nat) :
    callT env 98 [.ref p 0 0 n false, .int .i64 i, .int .i64 (i + 1 : Nat)] 0 H nx = some (.ret (.ref p 0 0 (n - 1) false), .ups [(p, .cells 0 2 true ((L.eraseIdx i).map spV ++ spV ⟨0, 0⟩ :: rest))]) := by
 subst hn
 have h := zGC hH hi (by rw [List.length_append, List.length_map]; omega) hb (by rw [List.all_append, hr, Bool.and_true]; exact z29 _) nx
 rw [zI1 spV (spV ⟨0, 0⟩) L rest hi] at h
 exact h
theorem zMa {H : Heap} {L : List Spn} {z : AVal} {rest : List AVal} {p n : Nat} {x : Spn} (hH : H[p]? = some (.cells 0 2 true (L.map spV ++ z :: rest))) (hn : L.length = n) (hb : n < 2 ^ 30) (nx : Nat) :
    z0H env 0 nx 22 (.ref p 0 0 n false) (.lit true 2 [spV x]) H = some (.ref p 0 0 (n + 1) false, [(p, .cells 0 2 true ((L ++ [x]).map spV ++ rest))]) := by
 subst hn
 have hel : z15 H (.lit true 2 [spV x]) = some (2, [spV x]) := rfl
 have hx : noRef (spV x) = true := rfl
 have hm : (L.length + 1) * 17 ≤ z04 := by unfold z04; omega
 have hp : putList (L.map spV ++ z :: rest) L.length [spV x] = (L ++ [x]).map spV ++ rest := by
  rw [z6G _ _ _ (by simp)]
  rw [List.take_left' (by simp), List.length_singleton, ← List.drop_drop, List.drop_left' (by simp)]
  simp
 have hz : (AVal.agg [.int .i64 0, .int .i64 0]).cellsOf.length = 2 ∧ (AVal.agg [.int .i64 0, .int .i64 0]).isTuple = false := ⟨rfl, rfl⟩
 simp [z0H, ti22, ti39, hel, hH, hx, hm, hz, hp]
theorem zPu {l : List Nat} {p : Nat} (h : p ∈ l) : ∃ k, idx l p = some k ∧ k < l.length ∧ l[k]? = some p := by
 unfold idx
 cases hf : l.findIdx? (· == p) with
 | none =>
   rw [List.findIdx?_eq_none_iff] at hf
   have := hf p h
   simp at this
 | some k =>
   obtain ⟨hk, hp, _⟩ := List.findIdx?_eq_some_iff_getElem.1 hf
   refine ⟨k, rfl, hk, ?_⟩
   rw [List.getElem?_eq_getElem hk]
   simpa using hp
theorem zI2 {H : Heap} {L : List Nat} {ps : Nat → Nat} {rw' : Nat → List AVal} {m : Nat} {rest : List AVal} {q g n i C : Nat} (hH : H[q]? = some (.cells g 1 false (L.map (fun i => AVal.ref (ps i) 0 0 C false) ++ rest))) (hrow : ∀ j ∈ L, H[ps j]? = some (.cells 0 2 true (rw' j))) (hnd : (L.map ps).Nodup) (hq : ∀ j ∈ L, ps j ≠ q) (hm : rest = List.replicate m (.lit true 0 [])) (hn : L.length = n) (hi : i < n) (hb : n ≤ 8) (nx : Nat) :
    callT env 99 [.ref q g 0 n false, .int .i64 i, .int .i64 (i + 1 : Nat)] 0 H nx = some (.ret (.ref q g 0 (n - 1) false), .ups ((q, .cells g 1 false ((L.eraseIdx i).map (fun i => AVal.ref (ps i) 0 0 C false) ++ .lit true 0 [] :: rest)) :: (L.map ps).zip (L.map fun j => .cells 0 2 true (rw' j)))) := by
 subst hn
 have hrl : refsL (L.map (fun i => AVal.ref (ps i) 0 0 C false) ++ rest) = L.map ps := by
  have e1 : ∀ L : List Nat, refsL (L.map (fun i => AVal.ref (ps i) 0 0 C false) ++ rest) = L.map ps ++ refsL rest := by
   intro L
   induction L with
   | nil => rfl
   | cons x L ih => simp [refsL, AVal.refs, ih]
  have e2 : ∀ m, refsL (List.replicate m (AVal.lit true 0 [])) = [] := fun m => by
   induction m with
   | zero => rfl
   | succ m ih =>
     rw [List.replicate_succ]
     show (AVal.lit true 0 []).refs ++ refsL (List.replicate m (AVal.lit true 0 [])) = []
     rw [ih]; rfl
  rw [e1, hm, e2, List.append_nil]
 have hre : reach H fuel0 [q] [] = some (q :: L.map ps) := by
  have h := zCu (H := H) (L.map ps) [q] 63 (fun id hid => by
   obtain ⟨j, hj, rfl⟩ := List.mem_map.1 hid
   exact ⟨_, _, _, hrow j hj⟩) hnd (fun id hid => by
   obtain ⟨j, hj, rfl⟩ := List.mem_map.1 hid
   simpa using hq j hj) (by rw [List.length_map]; omega)
  unfold fuel0
  simp only [reach, List.contains_nil, Bool.false_eq_true, if_false, hH, List.nil_append, hrl]
  exact h
 have hg : getAll H (L.map ps) = some (L.map fun j => Blk.cells 0 2 true (rw' j)) := by
  have : ∀ L : List Nat, (∀ j ∈ L, H[ps j]? = some (.cells 0 2 true (rw' j))) → getAll H (L.map ps) = some (L.map fun j => Blk.cells 0 2 true (rw' j)) := by
   intro L
   induction L with
   | nil => intro _; rfl
   | cons x L ih =>
     intro h
     simp only [List.map_cons, getAll, h x (by simp), ih fun j hj => h j (by simp [hj])]
  exact this L hrow
 have h := zGD (nx := nx) hH hre hg (fun b hb => by
  obtain ⟨j, _, rfl⟩ := List.mem_map.1 hb
  exact ⟨_, _, _, rfl⟩) (by simp) (fun x hx => by
  rw [List.mem_append] at hx
  rcases hx with hx | hx
  · obtain ⟨j, hj, rfl⟩ := List.mem_map.1 hx
    obtain ⟨k, k1, k2, k3⟩   := zPu (l := q :: L.map ps) (p := ps j) (List.mem_cons_of_mem _ (List.mem_map.2 ⟨j, hj, rfl⟩))
    simp only [AVal.ren, k1]
    have : backF nx (q :: L.map ps) [] k = some (ps j) := by unfold backF; rw [if_pos k2, k3]
    rw [this]
  · rw [hm] at hx
    rw [List.eq_of_mem_replicate hx]
    rfl) hi (by rw [List.length_append, List.length_map]; omega) (by omega)
 rw [zI1 (fun i => AVal.ref (ps i) 0 0 C false) (.lit true 0 []) L rest hi] at h
 exact h
theorem zPF {H : Heap} {es : List AVal} {z r : AVal} {rest : List AVal} {q g n w : Nat} (hH : H[q]? = some (.cells g 1 false (es ++ z :: rest))) (hn : es.length = n) (hw : H[w]? = some (.cells 0 1 false [r])) (hb : n < 2 ^ 20) (nx : Nat) :
    z0H env 0 nx 23 (.ref q g 0 n false) (.ref w 0 0 1 false) H = some (.ref q g 0 (n + 1) false, [(q, .cells g 1 false (es ++ r :: rest))]) := by
 subst hn
 have hel : z15 H (.ref w 0 0 1 false) = some (1, [r]) := by
  simp only [z15, hw]
  rfl
 have hm : (es.length + 1) * 25 ≤ z04 := by unfold z04; omega
 have hp : putList (es ++ z :: rest) es.length [r] = es ++ r :: rest := by
  rw [z6G _ _ _ (by simp)]
  rw [List.take_left' rfl, List.length_singleton, ← List.drop_drop, List.drop_left' rfl]
  simp
 have hz : (AVal.lit true 0 []).cellsOf.length = 1 ∧ (AVal.lit true 0 []).isTuple = false := ⟨rfl, rfl⟩
 simp [z0H, ti23, ti22, hel, hH, hm, hz, hp]
theorem zED {H : Heap} : ∀ {us : List (Nat × Blk)}, (∀ u ∈ us, H[u.1]? = some u.2) → putU H us = H
 | [], _ => rfl
 | (i, b) :: us, h => by
   have h0 := h (i, b) (by simp)
   have hi : i < H.length := (List.getElem?_eq_some_iff.1 h0).1
   have e : H.set i b = H := by
    apply List.ext_getElem?
    intro j
    by_cases hj : i = j
    · subst hj; rw [List.getElem?_set_self hi, h0]
    · rw [List.getElem?_set_ne hj]
   simp only [putU, hi, if_true, e]
   exact zED fun u hu => h u (by simp [hu])
theorem zIT {H : Heap} {t : Tab} {p1 g1 p2 g2 q g n : Nat} {es r1 r3 : List AVal} (h1 : H[p1]? = some (.cells g1 2 true (t.rows.map spV ++ r1))) (h2 : H[p2]? = some (.cells g2 2 true (t.cols.map spV))) (h3 : H[q]? = some (.cells g 1 false (es ++ r3)))
    (hes : mapO (toLit (fun j => decide (0 ≤ j) && !([] : List Nat).contains j) H 7) es = some (t.cells.map fun l => .lit false 2 (l.map spV))) (hl : es.length = t.R) :
    handBack H 0 [] (n + 1 + 1) (.agg [.ref p1 g1 0 t.R false, .ref p2 g2 0 t.C false, .ref q g 0 t.R false]) = some (canon t).v := by
 have t1 : (t.rows.map spV ++ r1).take t.R = t.rows.map spV := List.take_left' (by rw [List.length_map])
 have t2 : (t.cols.map spV).take t.C = t.cols.map spV := List.take_of_length_le (by rw [List.length_map]; exact Nat.le_refl _)
 have t3 : (es ++ r3).take t.R = es := List.take_left' hl
 have l3 : t.R ≤ (es ++ r3).length := by rw [List.length_append]; omega
 have lr : t.rows.length = t.R := rfl
 have lc : t.cols.length = t.C := rfl
 have e1 : toLit (fun j => decide (0 ≤ j) && !([] : List Nat).contains j) H 8 (.ref p1 g1 0 t.R false) = some (.lit false 2 (t.rows.map spV)) := by
  simp [toLit, noRef, AVal.under, h1, t1, lr]
 have e2 : toLit (fun j => decide (0 ≤ j) && !([] : List Nat).contains j) H 8 (.ref p2 g2 0 t.C false) = some (.lit false 2 (t.cols.map spV)) := by
  simp [toLit, noRef, AVal.under, h2, t2, lc]
 have e3 : toLit (fun j => decide (0 ≤ j) && !([] : List Nat).contains j) H 8 (.ref q g 0 t.R false) = some (.lit false 1 (t.cells.map fun l => .lit false 2 (l.map spV))) := by
  unfold toLit
  simp only [noRef, AVal.under, Nat.not_lt_zero, decide_false, Bool.false_eq_true, if_false, h3, decide_true, Nat.zero_add, l3, Bool.and_true, if_true, List.drop_zero, t3]
  rw [hes]
  simp
 have ec : (canon t).v = .agg [.lit false 2 (t.rows.map spV), .lit false 2 (t.cols.map spV), .lit false 1 (t.cells.map fun l => .lit false 2 (l.map spV))] := by
  unfold canon TabV.v
  simp only [List.map_map]
  rfl
 have hk : ∀ (i : Nat) (v : AVal) (n : Nat), (∃ g o l c, v = .ref i g o l c) → handBack H 0 [] (n + 1) v = toLit (fun j => decide (0 ≤ j) && !([] : List Nat).contains j) H 8 v := by
  rintro i v n ⟨g, o, l, c, rfl⟩
  simp [handBack]
 rw [ec]
 unfold handBack
 simp only [mapO, hk p1 _ n ⟨_, _, _, _, rfl⟩, hk p2 _ n ⟨_, _, _, _, rfl⟩, hk q _ n ⟨_, _, _, _, rfl⟩, e1, e2, e3]
 rfl
def CovF (f : Nat → Nat) : List Foot → List Foot → Prop
 | [], [] => True
 | a :: l, b :: l' => (a.i = b.i ∧ (∀ x ∈ a.reads, f x ∈ b.reads) ∧ ∀ x ∈ a.writes, f x ∈ b.writes) ∧ CovF f l l'
 | _, _ => False
theorem z7i {f : Nat → Nat} {a b a' b' : List Nat} (ha : ∀ x ∈ a, f x ∈ a') (hb : ∀ x ∈ b, f x ∈ b') (h : meets a' b' = false) : meets a b = false := by
 simp only [meets, List.any_eq_false, List.contains_iff_mem] at h ⊢
 exact fun x hx hxb => h _ (ha x hx) (hb x hxb)
theorem z3K {f : Nat → Nat} {bf : Array Nat} : ∀ {l l' : List Foot}, CovF f l l' → apart bf l' = true → apart bf l = true
 | [], [], _, _ => rfl
 | a :: l, b :: l', ⟨⟨e, h1, h2⟩, hc⟩, h => by
   simp only [apart, Bool.and_eq_true] at h ⊢
   refine ⟨?_, z3K hc h.2⟩
   have key : ∀ (l l' : List Foot), CovF f l l' → (l'.all fun c => !clash b c || (bf.getD c.i 0).testBit b.i) = true → (l.all fun c => !clash a c || (bf.getD c.i 0).testBit a.i) = true := by
    intro l
    induction l with
    | nil => intro l' _ _; rfl
    | cons c l ih =>
      intro l' hc h
      cases l' with
      | nil => exact hc.elim
      | cons c' l' =>
        obtain ⟨⟨e2, k1, k2⟩, hc⟩ := hc
        simp only [List.all_cons, Bool.and_eq_true, Bool.or_eq_true] at h ⊢
        refine ⟨?_, ih l' hc h.2⟩
        rcases h.1 with h | h
        · left
          simp only [clash, Bool.not_eq_true', Bool.or_eq_false_iff] at h ⊢
          refine ⟨?_, ?_⟩ <;> first
           | exact z7i h2 (fun x hx => by
               rw [List.mem_append] at hx ⊢
               exact hx.imp (k1 x) (k2 x)) (by first | exact h.1 | exact h.2)
           | exact z7i k2 h1 (by first | exact h.1 | exact h.2)
           | exact z7i h1 k2 (by first | exact h.1 | exact h.2)
        · right
          rw [e, e2]; exact h
   exact key _ _ hc h.1
 | [], _ :: _, h, _ => h.elim
 | _ :: _, [], h, _ => h.elim
def fB (B x : Nat) : Nat := if x < B then min x 6 else x - B + 7
theorem zPq (B : Nat) : fB B B = 7 ∧ fB B (B + 1) = 8 ∧ fB B (B + 1 + 1) = 9 ∧ fB B (B + 1 + 1 + 1) = 10 ∧ fB B (B + 1 + 1 + 1 + 1) = 11 := by
 refine ⟨?_, ?_, ?_, ?_, ?_⟩ <;> (unfold fB; rw [if_neg (by omega)]; omega)
theorem zLq {B x : Nat} (h : x < B) : fB B x = min x 6 := if_pos h
def mg8 : List Foot := [⟨0, [], []⟩, ⟨1, [], []⟩, ⟨2, [7], []⟩, ⟨3, [], []⟩, ⟨4, [4], []⟩, ⟨5, [4], []⟩, ⟨6, [], []⟩, ⟨7, [7], []⟩, ⟨8, [], []⟩, ⟨9, [4], []⟩, ⟨10, [4], []⟩, ⟨11, [], []⟩, ⟨12, [], [8]⟩, ⟨13, [8], [8]⟩]
def mg15 : List Foot := [⟨0, [], []⟩, ⟨1, [], []⟩, ⟨2, [9], []⟩, ⟨3, [], []⟩, ⟨4, [9], []⟩, ⟨5, [9], []⟩, ⟨6, [8], []⟩, ⟨7, [], []⟩, ⟨8, [9], [10]⟩, ⟨9, [], []⟩, ⟨10, [9], []⟩, ⟨11, [], []⟩, ⟨12, [10], []⟩, ⟨13, [], []⟩]
def mg18 : List Foot := [⟨0, [], []⟩, ⟨1, [7], []⟩, ⟨2, [], []⟩, ⟨3, [], []⟩, ⟨4, [], []⟩, ⟨5, [4], [4]⟩, ⟨6, [], []⟩, ⟨7, [], []⟩, ⟨8, [], []⟩, ⟨9, [4], [4]⟩, ⟨10, [8], []⟩, ⟨11, [], []⟩, ⟨12, [4], [4]⟩, ⟨13, [], []⟩, ⟨14, [7], [7]⟩]
theorem z7R {m : Nat} : ∀ {us : List (Nat × Blk)} {n : Nat}, (∀ u ∈ us, u.1 < m) → consec m n us = true
 | [], _, _ => rfl
 | (i, b) :: us, n, h => by
   have h0 : i < m := h (i, b) (by simp)
   simp only [consec, h0, if_true]
   exact z7R fun u hu => h u (by simp [hu])
theorem zCa {H : Heap} : ∀ (ids seen : List Nat) (n : Nat), (∀ id ∈ ids, ∃ g sz es, H[id]? = some (.cells g sz true es)) → ids.Nodup → (∀ id ∈ ids, id ∉ seen) → ids.length ≤ n → looks H n ids seen = some (seen ++ ids)
 | [], seen, n, _, _, _, _ => by cases n <;> simp [looks]
 | id :: ids, seen, n, hf, hd, hs, hl => by
   obtain ⟨n, rfl⟩ : ∃ m, n = m + 1 := ⟨n - 1, by simp at hl; omega⟩
   obtain ⟨g, sz, es, hH⟩ := hf id (by simp)
   have hns : seen.contains id = false := by
    rw [Bool.eq_false_iff]; intro h; exact hs id (by simp) (List.contains_iff_mem.1 h)
   have hd' := List.nodup_cons.1 hd
   have ih := zCa (H := H) ids (seen ++ [id]) n (fun x hx => hf x (by simp [hx])) hd'.2 (fun x hx h => by
    rw [List.mem_append] at h
    rcases h with h | h
    · exact hs x (by simp [hx]) h
    · simp at h; subst h; exact hd'.1 hx) (by simp at hl; omega)
   simp only [looks, hns, hH, Bool.false_eq_true, if_false, if_true]
   rw [ih, List.append_assoc]; rfl
theorem zCZ {H : Heap} {L : List Nat} {ps : Nat → Nat} {rw' : Nat → List AVal} {m : Nat} {rest : List AVal} {q g C : Nat} (hH : H[q]? = some (.cells g 1 false (L.map (fun i => AVal.ref (ps i) 0 0 C false) ++ rest))) (hrow : ∀ j ∈ L, H[ps j]? = some (.cells 0 2 true (rw' j))) (hnd : (L.map ps).Nodup) (hq : ∀ j ∈ L, ps j ≠ q) (hm : rest = List.replicate m (.lit true 0 [])) (hb : L.length ≤ 8) : looks H fuel0 [q] [] = some (q :: L.map ps) := by
 have hrl : refsL (L.map (fun i => AVal.ref (ps i) 0 0 C false) ++ rest) = L.map ps := by
  have e1 : ∀ L : List Nat, refsL (L.map (fun i => AVal.ref (ps i) 0 0 C false) ++ rest) = L.map ps ++ refsL rest := by
   intro L
   induction L with
   | nil => rfl
   | cons x L ih => simp [refsL, AVal.refs, ih]
  have e2 : ∀ m, refsL (List.replicate m (AVal.lit true 0 [])) = [] := fun m => by
   induction m with
   | zero => rfl
   | succ m ih =>
     rw [List.replicate_succ]
     show (AVal.lit true 0 []).refs ++ refsL (List.replicate m (AVal.lit true 0 [])) = []
     rw [ih]; rfl
  rw [e1, hm, e2, List.append_nil]
 have h := zCa (H := H) (L.map ps) [q] 63 (fun id hid => by
  obtain ⟨j, hj, rfl⟩ := List.mem_map.1 hid
  exact ⟨_, _, _, hrow j hj⟩) hnd (fun id hid => by
  obtain ⟨j, hj, rfl⟩ := List.mem_map.1 hid
  simpa using hq j hj) (by rw [List.length_map]; omega)
 unfold fuel0
 simp only [looks, List.contains_nil, Bool.false_eq_true, if_false, hH, List.nil_append, hrl]
 exact h
set_option maxRecDepth 10000
set_option maxHeartbeats 4000000
def badM (t : Tab) (i k : Int) : Bool := decide (i < 0) || decide ((t.R : Int) ≤ i) || decide (k < 0) || decide ((t.R : Int) ≤ k) || decide (i = k)
theorem zB0 {t : Tab} {i k : Int} (h : badM t i k = false) : ∃ a b : Nat, i = a ∧ k = b ∧ a < t.R ∧ b < t.R ∧ a ≠ b := by
 unfold badM at h
 simp only [Bool.or_eq_false_iff, decide_eq_false_iff_not] at h
 exact ⟨i.toNat, k.toNat, by omega, by omega, by omega, by omega, by omega⟩
def zE7 (t : Tab) (i k : Int) : AVal :=
 if t.ok then (if badM t i k then .tuple [noTab, .int .i64 1] else if (z42 t i.toNat k.toNat).all Spn.ok then .tuple [(canon (z0a t i.toNat k.toNat)).v, .int .i64 0] else .tuple [noTab, .int .i64 2]) else .tuple [noTab, .int .i64 60]
theorem z8Y {T : TabV} (hT : T.Wf) (i k : Int) (ro : Nat) (H : Heap) (nx : Nat) : callT env 37 [T.v, .int .i64 i, .int .i64 k] ro H nx = some (.ret (zE7 T.tab i k), .ups []) := by
 have hu : underL 0 [T.v, .int .i64 i, .int .i64 k] = true := by simp [underL, AVal.under, TabV.under]
 have ck := z0p T hT
 have lr : T.rows.l.length = T.tab.R := rfl
 unfold zE7
 have pure : ∀ n : Int, noRef (.tuple [noTab, .int .i64 n]) = true := fun _ => rfl
 cases hok : T.tab.ok with
 | false =>
   have : ∃ H', runT env 37 [T.v, .int .i64 i, .int .i64 k] [] 0 = some (.ret (.tuple [noTab, .int .i64 60]), H') := by
    rw [run_unfold fn37 rfl]
    simp only [go_sem, simprocAttr, Try.f37, ck, z22 hok, unwind, modeEx, resultsOf, one]
    exact ⟨_, rfl⟩
   obtain ⟨H', h⟩ := this
   exact call_pure rfl rfl rfl hu h (pure _) ro H nx
 | true =>
   cases ho : badM T.tab i k with
   | true =>
     have : ∃ H', runT env 37 [T.v, .int .i64 i, .int .i64 k] [] 0 = some (.ret (.tuple [noTab, .int .i64 1]), H') := by
      rw [run_unfold fn37 rfl]
      cases d1 : decide (i < 0) <;> cases d2 : decide ((T.tab.R : Int) ≤ i) <;> cases d3 : decide (k < 0) <;> cases d4 : decide ((T.tab.R : Int) ≤ k) <;> cases d5 : decide (i = k) <;>
       first
       | (exfalso; unfold badM at ho; rw [d1, d2, d3, d4, d5] at ho; exact Bool.noConfusion ho)
       | (simp only [go_sem, simprocAttr, Try.f37, ck, z0O hok, List.length_map, lr, d1, d2, d3, d4, d5, unwind, modeEx, resultsOf, one]
          exact ⟨_, rfl⟩)
     obtain ⟨H', h⟩ := this
     exact call_pure rfl rfl rfl hu h (pure _) ro H nx
   | false =>
     have d : (((decide (i < 0) = false ∧ decide ((T.tab.R : Int) ≤ i) = false) ∧ decide (k < 0) = false) ∧ decide ((T.tab.R : Int) ≤ k) = false) ∧ decide (i = k) = false := by
      unfold badM at ho
      simpa only [Bool.or_eq_false_iff] using ho
     obtain ⟨⟨⟨⟨d1, d2⟩, d3⟩, d4⟩, d5⟩ := d
     have hO := Tab.ok_iff.1 hok
     obtain ⟨a, b, rfl, rfl, ha, hb, hab⟩ := zB0 ho
     rw [Int.toNat_natCast, Int.toNat_natCast]
     have a0 : (0 : Int) ≤ (a : Int) := by omega
     have b0 : (0 : Int) ≤ (b : Int) := by omega
     have dA : decide ((a : Int) < (T.tab.R : Int)) = true := by simp; omega
     have dB : decide ((b : Int) < (T.tab.R : Int)) = true := by simp; omega
     have hR8 := hO.R8
     have hC8 := hO.C8
     have hR1 := hO.R1
     have hC1 := hO.C1
     obtain ⟨g, cl⟩ := z3M hT hO
     have cl := cl 0 [boxT T, .cells 0 3 false [noTab]] 2
     have at0 := z5U hO [boxT T, .cells 0 3 false [noTab]] g
     have hpu := z0g (clX T 2 g) [boxT T, .cells 0 3 false [noTab]]
     have H1 : ([boxT T, .cells 0 3 false [noTab]] : Heap).length = 2 := rfl
     rw [H1] at at0 hpu
     have hXl := z61 T 2 g hR1
     generalize hX : clX T 2 g = X at cl at0 hpu hXl
     obtain ⟨ps, hps⟩ : ∃ ps, ps = clP' 2 := ⟨_, rfl⟩
     rw [← hps] at at0
     obtain ⟨Y, hY⟩ : ∃ Y : Heap, Y = [boxT T, .cells 0 3 false [noTab]] ++ X := ⟨_, rfl⟩
     rw [← hY] at hpu at0
     obtain ⟨D, hD⟩ : ∃ D, Y.length = D := ⟨_, rfl⟩
     have hD2 : D = X.length + 2 := by rw [← hD, hY]; simp
     have y1 : Y[1]? = some (.cells 0 3 false [noTab]) := by rw [hY]; rfl
     clear hY
     have k1 := fun z : Blk => z06 hD z
     have k2 := fun z z' : Blk => z06 (k1 z) z'
     have k3 := fun z z' z'' : Blk => z06 (k2 z z') z''
     obtain ⟨Y3, hY3⟩ : ∃ Y3 : Heap, Y3 = Y ++ [.cells 0 0 false []] ++ [.cells 0 0 false []] ++ [.cells 0 0 false []] := ⟨_, rfl⟩
     have hAs : ∀ z, Y ++ [.cells 0 0 false []] ++ [.cells 0 0 false []] ++ [.cells 0 0 false []] ++ [z] = Y3 ++ [z] := fun z => by rw [hY3]
     have hB : Y3.length = D + 1 + 1 + 1 := by rw [hY3, k3]
     have y1' : Y3[1]? = some (.cells 0 3 false [noTab]) := by
      rw [hY3, List.getElem?_append_left (by rw [k2]; omega), List.getElem?_append_left (by rw [k1]; omega), List.getElem?_append_left (by omega)]; exact y1
     have at3 : TbAt Y3 4 5 12 0 0 g ps T.tab := by rw [hY3]; exact ((at0.more _).more _).more _
     obtain ⟨B, hBd⟩ : ∃ B, B = D + 1 + 1 + 1 := ⟨_, rfl⟩
     rw [← hBd] at hB
     clear hY3
     have bra := hO.row_ok ha
     have brb := hO.row_ok hb
     have pc := z9I (x := T.tab.row a) (y := T.tab.row b) (i64_in _ (by omega)) (i64_in _ (by omega))
     have ga := z74 ha
     have gb := z74 hb
     have hrl : (T.tab.rows.map spV).length = T.tab.R := by rw [List.length_map]; try rfl
     have hrw := fun z => (at3.more [z]).rows
     have hb5 : ∀ z, (Y3 ++ [z])[B]? = some z := fun z => z08 hB z
     have hs5 : ∀ z z', (Y3 ++ [z]).set B z' = Y3 ++ [z'] := fun z z' => z0d hB z z'
     have l1 := fun z : Blk => z06 hB z
     have l2 := fun z z' : Blk => z06 (l1 z) z'
     have l3 := fun z z' z'' : Blk => z06 (l2 z z') z''
     have g2 := fun z z' : Blk => z08 (l1 z) z'
     have s2 := fun z z' z'' : Blk => z0d (l1 z) z' z''
     have wr : ∀ u w : Spn, z0K (spV u) 0 (spV w) = some (spV w) := fun _ _ => rfl
     obtain ⟨ex, st, hx, hp⟩ := zNT hO (X := Y3 ++ [.cells 0 3 false [memT T.tab 4 5 12 0 0 g]] ++ [.cells 0 2 true [spV (z0G (T.tab.row a) (T.tab.row b))]]) (B := B) (l2 _ _) ((at3.more _).more _) (by rw [List.getElem?_append_left (by rw [l1]; omega)]; exact hb5 _) ha hb T.tab.C 0 _ _ _ _ _ _ _ _ _ _ _ _ _ _ _ _ _ _ _ _ _ _ _ _ _ _ _ _ _ _ _ _ _ _ _ _ _ _ _ _ _ _ _ _ _ _ _ _ _ _ _ _ _ _ _ _ _ _ _ _ _ _ _ _ _ _ _ _ _ _ _ _ _ _ _ _ _ _ _ _ _ _ _ _ _ _ _ _ _ _ _ _ _ _ _ _ _ _ _ _ _ _ _ _ _ _ _ _ _ _ _ _ _ _ _ _ _ _ _ _ _ _ _ _ _ _ _ _ _ _ (by omega)
     obtain ⟨rfl, jp, rfl⟩ := hp
     have z1 : decide (B < B + 1) = true := decide_eq_true (by omega)
     have z2 : decide (4 < B + 1) = true := decide_eq_true (by omega)
     have z3 : (B + 1 < B + 1 + 1) = True := eq_true (by omega)
     have hsl := z2F T.tab a b T.tab.C
     have e0 : accN ((z0T T.tab a b 0).map spV) = .cells 0 0 false [] := rfl
     have e1 : accN ((z0T T.tab a b T.tab.C).map spV) = .cells T.tab.C 2 true ((z0T T.tab a b T.tab.C).map spV) := by
      have : (z0T T.tab a b T.tab.C).map spV ≠ [] := fun e => by have := congrArg List.length e; rw [List.length_map, hsl, List.length_nil] at this; omega
      rw [z2c this, List.length_map, hsl]
     rw [e0, e1] at hx
     have g3 := fun z z' z'' : Blk => z08 (l2 z z') z''
     have g4 := fun z z' z'' y : Blk => z08 (l3 z z' z'') y
     have l4 := fun z z' z'' y : Blk => z06 (l3 z z' z'') y
     have g3a : ∀ z z' z'' : Blk, (Y3 ++ [z] ++ [z'] ++ [z''])[B + 1]? = some z' := fun z z' z'' => by rw [List.getElem?_append_left (by rw [l2]; omega)]; exact g2 z z'
     have sl := fun z z' => sl15 (H := Y3 ++ [z] ++ [z'] ++ [.cells T.tab.C 2 true ((z0T T.tab a b T.tab.C).map spV)]) (p := B + 1 + 1) (g3 z z' _)
     have ap := fun z z' => ap15 (H := Y3 ++ [z] ++ [z'] ++ [.cells T.tab.C 2 true ((z0T T.tab a b T.tab.C).map spV)]) (p := B + 1 + 1) (x := z0G (T.tab.row a) (T.tab.row b)) (g3 z z' _) hsl (by omega) (B + 1 + 1 + 1)
     have hml : (z0T T.tab a b T.tab.C ++ [z0G (T.tab.row a) (T.tab.row b)]).length = T.tab.C + 1 := by rw [List.length_append, hsl]; rfl
     have sc := fun z z' z'' => zGr (H := Y3 ++ [z] ++ [z'] ++ [z''] ++ [.cells 0 2 true ((z0T T.tab a b T.tab.C ++ [z0G (T.tab.row a) (T.tab.row b)]).map spV)]) (p := B + 1 + 1 + 1) (g4 z z' z'' _) hml (by rw [hml]; omega) ((T.tab.C + 1 : Nat) : Int) (B + 1 + 1 + 1 + 1)
     rw [hml, decide_eq_true rfl, Bool.true_and] at sc
     have lk : ∀ z z' z'' : Blk, looks (Y3 ++ [z] ++ [z'] ++ [z''] ++ [.cells 0 2 true ((z0T T.tab a b T.tab.C ++ [z0G (T.tab.row a) (T.tab.row b)]).map spV)]) fuel0 [B + 1 + 1 + 1] [] = some [B + 1 + 1 + 1] := fun z z' z'' => by
      have := g4 z z' z'' (.cells 0 2 true ((z0T T.tab a b T.tab.C ++ [z0G (T.tab.row a) (T.tab.row b)]).map spV))
      unfold fuel0
      simp only [looks, List.contains_nil, Bool.false_eq_true, if_false, this, if_true, List.nil_append]
     have q1 : decide (B + 1 < B + 1 + 1 + 1) = true := decide_eq_true (by omega)
     have q2 : decide (B + 1 + 1 < B + 1 + 1 + 1) = true := decide_eq_true (by omega)
     have q3 : decide (B + 1 + 1 < B + 1 + 1 + 1 + 1) = true := decide_eq_true (by omega)
     have hb5' : ∀ z z' z'' : Blk, (Y3 ++ [z] ++ [z'] ++ [z''])[B]? = some z := fun z z' z'' => by
      rw [List.getElem?_append_left (by rw [l2]; omega), List.getElem?_append_left (by rw [l1]; omega)]; exact hb5 z
     have hb5'' : ∀ z z' : Blk, (Y3 ++ [z] ++ [z'])[B]? = some z := fun z z' => by
      rw [List.getElem?_append_left (by rw [l1]; omega)]; exact hb5 z
     have wc := z00 (show T.tab.C < 2 ^ 63 - 1 by omega)
     simp only [boxT, memT, noTab, List.cons_append, List.nil_append, Nat.reduceAdd] at cl hpu hx y1'
     simp only [go_sem, simprocAttr, Try.f37, Int.ofNat_zero, Int.natCast_zero] at hx
     have y1z : ∀ z z' z'' y : Blk, (Y3 ++ [z] ++ [z'] ++ [z''] ++ [y])[1]? = Y3[1]? := fun z z' z'' y => by
      rw [List.getElem?_append_left (by rw [l3]; omega), List.getElem?_append_left (by rw [l2]; omega), List.getElem?_append_left (by rw [l1]; omega), List.getElem?_append_left (by rw [hB]; omega)]
     have y1s : ∀ (z z' z'' y b : Blk), ((Y3 ++ [z] ++ [z'] ++ [z''] ++ [y]).set 1 b)[1]? = some b := fun z z' z'' y b => List.getElem?_set_self (by rw [l4]; omega)
     have ylt : (1 < B + 1 + 1 + 1 + 1) = True := eq_true (by omega)
     have wrt : z0K (.agg [.lit true 0 [], .lit true 0 [], .lit true 0 []]) 0 (.agg [.lit true 0 [], .lit true 0 [], .lit true 0 []]) = some (.agg [.lit true 0 [], .lit true 0 [], .lit true 0 []]) := rfl
     obtain ⟨n0, n1, n2, n3, _⟩ := zPq B
     have f4 : fB B 4 = 4 := by rw [zLq (by omega)]; rfl
     cases hall : (z42 T.tab a b).all Spn.ok with
     | false =>
       have hall' : (z0T T.tab a b T.tab.C ++ [z0G (T.tab.row a) (T.tab.row b)]).all Spn.ok = false := hall
       rw [hall'] at sc
       have key : ∃ H', runT env 37 [T.v, .int .i64 a, .int .i64 b] [] 0 = some (.ret (.tuple [noTab, .int .i64 2]), H') := by
        rw [run_unfold fn37 rfl]
        simp only [go_sem, simprocAttr, Try.f37, ck, z0O hok, List.length_map, lr, d1, d2, d3, d4, d5, cl, hpu, z0E, hD, k1, k2, k3, hAs, ← hBd, hB, hb5, hs5, l1, l2, l3, g2, s2, hrw, ga, gb, hrl, pc, a0, b0, dA, dB, Int.toNat_natCast, wr, z1, z2, z3, Nat.lt_add_one, Nat.zero_le]
        rw [apart_ok (z3K (f := fB B) (l' := mg8) (by simp [CovF, mg8, n0, n1, n2, n3, f4]) (z0L (by kernel_rfl)))]
        simp only [go_sem, simprocAttr, hb5', hb5'', l2]
        rw [hx]
        simp only [go_sem, simprocAttr, sl, ap, sc, lk, l3, l4, g3a, q1, q2, q3, wc, Nat.lt_add_one, Nat.zero_le]
        rw [apart_ok (z3K (f := fB B) (l' := mg15) (by simp [CovF, mg15, n0, n1, n2, n3, f4]) (z0L (by kernel_rfl)))]
        simp only [go_sem, simprocAttr, y1z, y1', y1s, ylt, l4, wrt, unwind, modeEx, resultsOf, one, noTab]
        exact ⟨_, rfl⟩
       obtain ⟨H', h⟩ := key
       exact call_pure rfl rfl rfl hu h (pure _) ro H nx
     | true =>
       have hall' : (z0T T.tab a b T.tab.C ++ [z0G (T.tab.row a) (T.tab.row b)]).all Spn.ok = true := hall
       rw [hall'] at sc
       obtain ⟨Z, hZ⟩ : ∃ Z : Heap, Z = Y3 ++ [.cells 0 3 false [.agg [.ref 4 0 0 T.tab.R false, .ref 5 0 0 T.tab.C false, .ref 12 g 0 T.tab.R false]]] ++ [.cells 0 2 true [spV (z0G (T.tab.row a) (T.tab.row b))]] ++ [.cells T.tab.C 2 true ((z0T T.tab a b T.tab.C).map spV)] ++ [.cells 0 2 true ((z0T T.tab a b T.tab.C ++ [z0G (T.tab.row a) (T.tab.row b)]).map spV)] := ⟨_, rfl⟩
       have zl : Z.length = B + 1 + 1 + 1 + 1 := by rw [hZ]; exact l4 _ _ _ _
       have zlow : ∀ j, j < B + 1 + 1 + 1 → Z[j]? = (Y3 ++ [Blk.cells 0 3 false [.agg [.ref 4 0 0 T.tab.R false, .ref 5 0 0 T.tab.C false, .ref 12 g 0 T.tab.R false]]] ++ [Blk.cells 0 2 true [spV (z0G (T.tab.row a) (T.tab.row b))]] ++ [Blk.cells T.tab.C 2 true ((z0T T.tab a b T.tab.C).map spV)])[j]? := fun j hj => by
        rw [hZ, List.getElem?_append_left (by rw [l3]; exact hj)]
       have zB : Z[B]? = some (.cells 0 3 false [.agg [.ref 4 0 0 T.tab.R false, .ref 5 0 0 T.tab.C false, .ref 12 g 0 T.tab.R false]]) := by rw [zlow _ (by omega)]; exact hb5' _ _ _
       have zB1 : Z[B + 1]? = some (.cells 0 2 true [spV (z0G (T.tab.row a) (T.tab.row b))]) := by rw [zlow _ (by omega)]; exact g3a _ _ _
       have zB2 : Z[B + 1 + 1]? = some (.cells T.tab.C 2 true ((z0T T.tab a b T.tab.C).map spV)) := by rw [zlow _ (by omega)]; exact g3 _ _ _
       have z01 : Z[1]? = Y3[1]? := by rw [hZ]; exact y1z _ _ _ _
       have atZ : TbAt Z 4 5 12 0 0 g ps T.tab := by rw [hZ]; exact ((((at3.more _).more _).more _).more _)
       have z4 := atZ.rows
       have hlo : min a b < T.tab.R - 1 := by omega
       have hhi : max a b < T.tab.R := by omega
       have mn : minL .i64 (a : Int) [.int .i64 b] = some ((min a b : Nat) : Int) := by rw [z6t]; congr 1; omega
       have mx : maxL .i64 (a : Int) [.int .i64 b] = some ((max a b : Nat) : Int) := by rw [z5c]; congr 1; omega
       have w1 := z00 (show max a b < 2 ^ 63 - 1 by omega)
       have w2 := z00 (show min a b < 2 ^ 63 - 1 by omega)
       generalize hr1 : T.tab.rows.eraseIdx (max a b) = r1
       have hr1l : r1.length = T.tab.R - 1 := by rw [← hr1, List.length_eraseIdx_of_lt hhi] <;> try rfl
       generalize hr2 : r1.eraseIdx (min a b) = r2
       have hr2l : r2.length = T.tab.R - 1 - 1 := by rw [← hr2, List.length_eraseIdx_of_lt (by omega), hr1l]
       have c1 := zFA (H := Z) (L := T.tab.rows) (rest := []) (p := 4) (n := T.tab.R) (i := max a b) (by rw [List.append_nil]; exact z4) rfl hhi (by omega) rfl (B + 1 + 1 + 1 + 1)
       rw [hr1] at c1
       have s41 : ∀ b', (Z.set 4 b')[4]? = some b' := fun b' => List.getElem?_set_self (by omega)
       have c2 := zFA (H := Z.set 4 (.cells 0 2 true (r1.map spV ++ [spV ⟨0, 0⟩]))) (L := r1) (rest := [spV ⟨0, 0⟩]) (p := 4) (n := T.tab.R - 1) (i := min a b) (s41 _) hr1l hlo (by omega) rfl (B + 1 + 1 + 1 + 1)
       rw [hr2] at c2
       have s42 : ∀ b' b'', ((Z.set 4 b').set 4 b'')[4]? = some b'' := fun b' b'' => List.getElem?_set_self (by rw [List.length_set]; omega)
       have c3 := zMa (H := (Z.set 4 (.cells 0 2 true (r1.map spV ++ [spV ⟨0, 0⟩]))).set 4 (.cells 0 2 true (r2.map spV ++ [spV ⟨0, 0⟩, spV ⟨0, 0⟩]))) (L := r2) (z := spV ⟨0, 0⟩) (rest := [spV ⟨0, 0⟩]) (p := 4) (n := T.tab.R - 1 - 1) (x := z0G (T.tab.row a) (T.tab.row b)) (s42 _ _) hr2l (by omega) (B + 1 + 1 + 1 + 1)
       have sB : ∀ b' b'' y, (((Z.set 4 b').set 4 b'').set 4 y)[B]? = some (.cells 0 3 false [.agg [.ref 4 0 0 T.tab.R false, .ref 5 0 0 T.tab.C false, .ref 12 g 0 T.tab.R false]]) := fun b' b'' y => by
        rw [List.getElem?_set_ne (by omega), List.getElem?_set_ne (by omega), List.getElem?_set_ne (by omega)]; exact zB
       have sB1 : ∀ b' b'', ((Z.set 4 b').set 4 b'')[B + 1]? = some (.cells 0 2 true [spV (z0G (T.tab.row a) (T.tab.row b))]) := fun b' b'' => by
        rw [List.getElem?_set_ne (by omega), List.getElem?_set_ne (by omega)]; exact zB1
       have lk4 : looks Z fuel0 [4] [] = some [4] := by
        unfold fuel0
        simp only [looks, List.contains_nil, Bool.false_eq_true, if_false, z4, if_true, List.nil_append]
       have lk4' : looks (Z.set 4 (.cells 0 2 true (r1.map spV ++ [spV ⟨0, 0⟩]))) fuel0 [4] [] = some [4] := by
        unfold fuel0
        simp only [looks, List.contains_nil, Bool.false_eq_true, if_false, s41, if_true, List.nil_append]
       have u4 : (4 < B + 1 + 1 + 1 + 1) = True := eq_true (by omega)
       have u4' : decide (4 < B + 1 + 1 + 1 + 1) = true := decide_eq_true (by omega)
       have uB : (B < B + 1 + 1 + 1 + 1) = True := eq_true (by omega)
       have uB' : decide (B < B + 1 + 1 + 1 + 1) = true := decide_eq_true (by omega)
       have uB1 : decide (B + 1 < B + 1 + 1 + 1 + 1) = true := decide_eq_true (by omega)
       have hRl : (List.range T.tab.R).length = T.tab.R := List.length_range
       obtain ⟨Z1, hZ1⟩ : ∃ Z1 : Heap, Z1 = (((Z.set 4 (.cells 0 2 true (r1.map spV ++ [spV ⟨0, 0⟩]))).set 4 (.cells 0 2 true (r2.map spV ++ [spV ⟨0, 0⟩, spV ⟨0, 0⟩]))).set 4 (.cells 0 2 true ((r2 ++ [z0G (T.tab.row a) (T.tab.row b)]).map spV ++ [spV ⟨0, 0⟩]))).set B (.cells 0 3 false [.agg [.ref 4 0 0 (T.tab.R - 1 - 1 + 1) false, .ref 5 0 0 T.tab.C false, .ref 12 g 0 T.tab.R false]]) := ⟨_, rfl⟩
       have z1l : Z1.length = B + 1 + 1 + 1 + 1 := by rw [hZ1]; simp only [List.length_set]; exact zl
       have z1B : Z1[B]? = some (.cells 0 3 false [.agg [.ref 4 0 0 (T.tab.R - 1 - 1 + 1) false, .ref 5 0 0 T.tab.C false, .ref 12 g 0 T.tab.R false]]) := by
        rw [hZ1, List.getElem?_set_self (by simp only [List.length_set]; omega)]
       have z1ne : ∀ j, j ≠ 4 → j ≠ B → Z1[j]? = Z[j]? := fun j h1 h2 => by
        rw [hZ1, List.getElem?_set_ne (Ne.symm h2), List.getElem?_set_ne (Ne.symm h1), List.getElem?_set_ne (Ne.symm h1), List.getElem?_set_ne (Ne.symm h1)]
       have hpsB : ∀ j, j < T.tab.R → 6 ≤ ps j ∧ ps j < B ∧ ps j ≠ 12 := fun j hj => by
        have h1 := at3.lt.2.2.2 j hj
        have h2 := (at3.pa j hj).2.2
        rw [hB] at h1
        refine ⟨?_, h1, h2⟩
        rw [hps]; unfold clP'; split <;> omega
       have z1row : ∀ j ∈ List.range T.tab.R, Z1[ps j]? = some (.cells 0 2 true (rowA T.tab j)) := fun j hj => by
        have hj := List.mem_range.1 hj
        obtain ⟨p1, p2, p3⟩ := hpsB j hj
        rw [z1ne _ (by omega) (by omega)]; exact atZ.row j hj
       have z1acc : Z1[12]? = some (.cells g 1 false ((List.range T.tab.R).map (fun i => AVal.ref (ps i) 0 0 T.tab.C false) ++ [])) := by
        rw [z1ne _ (by decide) (by omega), List.append_nil]; exact atZ.acc
       have hnd : ((List.range T.tab.R).map ps).Nodup := List.pairwise_map.2 (List.Pairwise.imp_of_mem (fun ha' hb' h e => h (atZ.pp _ _ (List.mem_range.1 ha') (List.mem_range.1 hb') e)) List.nodup_range)
       have hq12 : ∀ j ∈ List.range T.tab.R, ps j ≠ 12 := fun j hj => (hpsB j (List.mem_range.1 hj)).2.2
       have e4 := zI2 (H := Z1) (L := List.range T.tab.R) (ps := ps) (rw' := rowA T.tab) (m := 0) (rest := []) (q := 12) (g := g) (n := T.tab.R) (i := max a b) (C := T.tab.C) z1acc z1row hnd hq12 rfl hRl hhi hR8 (B + 1 + 1 + 1 + 1)
       have lk12 := zCZ (H := Z1) (L := List.range T.tab.R) (ps := ps) (rw' := rowA T.tab) (m := 0) (rest := []) (q := 12) (g := g) (C := T.tab.C) z1acc z1row hnd hq12 rfl (by rw [hRl]; exact hR8)
       have hsub : List.Sublist ((List.range T.tab.R).eraseIdx (max a b)) (List.range T.tab.R) := List.eraseIdx_sublist ..
       have hq1l : ((List.range T.tab.R).eraseIdx (max a b)).length = T.tab.R - 1 := by rw [List.length_eraseIdx_of_lt (by rw [hRl]; exact hhi), hRl]
       generalize hq1 : (List.range T.tab.R).eraseIdx (max a b) = La at e4 hsub hq1l
       have s12 : ∀ b', (Z1.set 12 b')[12]? = some b' := fun b' => List.getElem?_set_self (by omega)
       have s12n : ∀ b' j, j ≠ 12 → (Z1.set 12 b')[j]? = Z1[j]? := fun b' j h => List.getElem?_set_ne (Ne.symm h)
       have hsubm : ∀ j ∈ La, j ∈ List.range T.tab.R := fun j hj => hsub.subset hj
       have hnd2 : (La.map ps).Nodup := List.Pairwise.sublist (hsub.map ps) hnd
       have z2row : ∀ b', ∀ j ∈ La, (Z1.set 12 b')[ps j]? = some (.cells 0 2 true (rowA T.tab j)) := fun b' j hj => by
        rw [s12n _ _ (hq12 j (hsubm j hj))]; exact z1row j (hsubm j hj)
       have e5 := zI2 (H := Z1.set 12 (.cells g 1 false (La.map (fun i => AVal.ref (ps i) 0 0 T.tab.C false) ++ [.lit true 0 []]))) (L := La) (ps := ps) (rw' := rowA T.tab) (m := 1) (rest := [.lit true 0 []]) (q := 12) (g := g) (n := T.tab.R - 1) (i := min a b) (C := T.tab.C) (s12 _) (z2row _) hnd2 (fun j hj => hq12 j (hsubm j hj)) rfl hq1l hlo (by omega) (B + 1 + 1 + 1 + 1)
       have lk12' := zCZ (H := Z1.set 12 (.cells g 1 false (La.map (fun i => AVal.ref (ps i) 0 0 T.tab.C false) ++ [.lit true 0 []]))) (L := La) (ps := ps) (rw' := rowA T.tab) (m := 1) (rest := [.lit true 0 []]) (q := 12) (g := g) (C := T.tab.C) (s12 _) (z2row _) hnd2 (fun j hj => hq12 j (hsubm j hj)) rfl (by omega)
       have hq2l : (La.eraseIdx (min a b)).length = T.tab.R - 1 - 1 := by rw [List.length_eraseIdx_of_lt (by omega), hq1l]
       generalize hq2 : La.eraseIdx (min a b) = Lb at e5 hq2l
       rw [List.zip_map'] at e4 e5
       have hu1 : ∀ u ∈ (List.range T.tab.R).map (fun j => (ps j, Blk.cells 0 2 true (rowA T.tab j))), u.1 < B + 1 + 1 + 1 + 1 ∧ fB B u.1 = 6 ∧ u.1 ≠ 12 ∧ Z1[u.1]? = some u.2 := fun u hu => by
        obtain ⟨j, hj, rfl⟩ := List.mem_map.1 hu
        obtain ⟨p1, p2, p3⟩ := hpsB j (List.mem_range.1 hj)
        exact ⟨by show ps j < _; omega, by show fB B (ps j) = 6; rw [zLq p2]; omega, p3, z1row j hj⟩
       have hu2 : ∀ u ∈ La.map (fun j => (ps j, Blk.cells 0 2 true (rowA T.tab j))), u.1 < B + 1 + 1 + 1 + 1 ∧ fB B u.1 = 6 ∧ u.1 ≠ 12 ∧ Z1[u.1]? = some u.2 := fun u hu => by
        obtain ⟨j, hj, rfl⟩ := List.mem_map.1 hu
        exact hu1 _ (List.mem_map.2 ⟨j, hsubm j hj, rfl⟩)
       have hi1 : ∀ x ∈ (List.range T.tab.R).map ps, fB B x = 6 := fun x hx => by
        obtain ⟨j, hj, rfl⟩ := List.mem_map.1 hx
        exact (hu1 _ (List.mem_map.2 ⟨j, hj, rfl⟩)).2.1
       have hi2 : ∀ x ∈ La.map ps, fB B x = 6 := fun x hx => by
        obtain ⟨j, hj, rfl⟩ := List.mem_map.1 hx
        exact (hu2 _ (List.mem_map.2 ⟨j, hj, rfl⟩)).2.1
       generalize (List.range T.tab.R).map (fun j => (ps j, Blk.cells 0 2 true (rowA T.tab j))) = u1 at e4 hu1
       generalize La.map (fun j => (ps j, Blk.cells 0 2 true (rowA T.tab j))) = u2 at e5 hu2
       generalize (List.range T.tab.R).map ps = i1 at lk12 hi1
       generalize La.map ps = i2 at lk12' hi2
       have p4 : ∀ b', putU (Z1.set 12 b') u1 = Z1.set 12 b' := fun b' => zED fun u hu => by rw [s12n _ _ (hu1 u hu).2.2.1]; exact (hu1 u hu).2.2.2
       have p5 : ∀ b' b'', putU ((Z1.set 12 b').set 12 b'') u2 = (Z1.set 12 b').set 12 b'' := fun b' b'' => zED fun u hu => by
        rw [List.getElem?_set_ne (Ne.symm (hu2 u hu).2.2.1), s12n _ _ (hu2 u hu).2.2.1]; exact (hu2 u hu).2.2.2
       have cs4 : consec (B + 1 + 1 + 1 + 1) (B + 1 + 1 + 1 + 1) u1 = true := z7R fun u hu => (hu1 u hu).1
       have cs5 : consec (B + 1 + 1 + 1 + 1) (B + 1 + 1 + 1 + 1) u2 = true := z7R fun u hu => (hu2 u hu).1
       have v12 : (12 < B + 1 + 1 + 1 + 1) = True := eq_true (by omega)
       obtain ⟨Z2, hZ2⟩ : ∃ Z2 : Heap, Z2 = (Z1.set 12 (.cells g 1 false (La.map (fun i => AVal.ref (ps i) 0 0 T.tab.C false) ++ [.lit true 0 []]))).set 12 (.cells g 1 false (Lb.map (fun i => AVal.ref (ps i) 0 0 T.tab.C false) ++ [.lit true 0 [], .lit true 0 []])) := ⟨_, rfl⟩
       have z2l : Z2.length = B + 1 + 1 + 1 + 1 := by rw [hZ2]; simp only [List.length_set]; exact z1l
       have z2a : Z2[12]? = some (.cells g 1 false (Lb.map (fun i => AVal.ref (ps i) 0 0 T.tab.C false) ++ [.lit true 0 [], .lit true 0 []])) := by
        rw [hZ2, List.getElem?_set_self (by rw [List.length_set]; omega)]
       have z2ne : ∀ j, j ≠ 12 → Z2[j]? = Z1[j]? := fun j h => by
        rw [hZ2, List.getElem?_set_ne (Ne.symm h), List.getElem?_set_ne (Ne.symm h)]
       have t1 := fun z : Blk => z06 z2l z
       have t2 := fun z : Blk => z08 z2l z
       have t3 : ∀ (z : Blk) (j : Nat), j < B + 1 + 1 + 1 + 1 → (Z2 ++ [z])[j]? = Z2[j]? := fun z j h => List.getElem?_append_left (by omega)
       have e6 := zPF (H := Z2 ++ [.cells 0 1 false [.ref (B + 1 + 1) T.tab.C 0 T.tab.C false]]) (es := Lb.map (fun i => AVal.ref (ps i) 0 0 T.tab.C false)) (z := .lit true 0 []) (rest := [.lit true 0 []]) (q := 12) (g := g) (n := T.tab.R - 1 - 1) (w := B + 1 + 1 + 1 + 1) (r := .ref (B + 1 + 1) T.tab.C 0 T.tab.C false) (by rw [t3 _ _ (by omega)]; exact z2a) (by rw [List.length_map]; exact hq2l) (t2 _) (by omega) (B + 1 + 1 + 1 + 1 + 1)
       have x1 : ∀ z b', ((Z2 ++ [z]).set 12 b')[B]? = some (.cells 0 3 false [.agg [.ref 4 0 0 (T.tab.R - 1 - 1 + 1) false, .ref 5 0 0 T.tab.C false, .ref 12 g 0 T.tab.R false]]) := fun z b' => by
        rw [List.getElem?_set_ne (by omega), t3 _ _ (by omega), z2ne _ (by omega)]; exact z1B
       have x2 : ∀ z b' b'', (((Z2 ++ [z]).set 12 b').set B b'')[B]? = some b'' := fun z b' b'' => List.getElem?_set_self (by rw [List.length_set, t1]; omega)
       have x3 : ∀ z b' b'', (((Z2 ++ [z]).set 12 b').set B b'')[1]? = some (.cells 0 3 false [.agg [.lit true 0 [], .lit true 0 [], .lit true 0 []]]) := fun z b' b'' => by
        rw [List.getElem?_set_ne (by omega), List.getElem?_set_ne (by omega), t3 _ _ (by omega), z2ne _ (by omega), z1ne _ (by decide) (by omega), z01]; exact y1'
       have x4 : ∀ z b' b'' w, ((((Z2 ++ [z]).set 12 b').set B b'').set 1 w)[1]? = some w := fun z b' b'' w => List.getElem?_set_self (by rw [List.length_set, List.length_set, t1]; omega)
       have v5 : (12 < B + 1 + 1 + 1 + 1 + 1) = True := eq_true (by omega)
       have v6 : (B < B + 1 + 1 + 1 + 1 + 1) = True := eq_true (by omega)
       have v7 : (1 < B + 1 + 1 + 1 + 1 + 1) = True := eq_true (by omega)
       have key : runT env 37 [T.v, .int .i64 a, .int .i64 b] [] 0 = some (.ret (.tuple [.agg [.ref 4 0 0 (T.tab.R - 1 - 1 + 1) false, .ref 5 0 0 T.tab.C false, .ref 12 g 0 (T.tab.R - 1 - 1 + 1) false], .int .i64 0]), ((((Z2 ++ [Blk.cells 0 1 false [AVal.ref (B + 1 + 1) T.tab.C 0 T.tab.C false]]).set 12 (Blk.cells g 1 false (Lb.map (fun i => AVal.ref (ps i) 0 0 T.tab.C false) ++ AVal.ref (B + 1 + 1) T.tab.C 0 T.tab.C false :: [.lit true 0 []]))).set B (Blk.cells 0 3 false [.agg [.ref 4 0 0 (T.tab.R - 1 - 1 + 1) false, .ref 5 0 0 T.tab.C false, .ref 12 g 0 (T.tab.R - 1 - 1 + 1) false]])).set 1 (Blk.cells 0 3 false [.agg [.ref 4 0 0 (T.tab.R - 1 - 1 + 1) false, .ref 5 0 0 T.tab.C false, .ref 12 g 0 (T.tab.R - 1 - 1 + 1) false]]))) := by
        rw [run_unfold fn37 rfl]
        simp only [go_sem, simprocAttr, Try.f37, ck, z0O hok, List.length_map, lr, d1, d2, d3, d4, d5, cl, hpu, z0E, hD, k1, k2, k3, hAs, ← hBd, hB, hb5, hs5, l1, l2, l3, g2, s2, hrw, ga, gb, hrl, pc, a0, b0, dA, dB, Int.toNat_natCast, wr, z1, z2, z3, Nat.lt_add_one, Nat.zero_le]
        rw [apart_ok (z3K (f := fB B) (l' := mg8) (by simp [CovF, mg8, n0, n1, n2, n3, f4]) (z0L (by kernel_rfl)))]
        simp only [go_sem, simprocAttr, hb5', hb5'', l2]
        rw [hx]
        simp only [go_sem, simprocAttr, sl, ap, sc, lk, l3, l4, g3a, q1, q2, q3, wc, Nat.lt_add_one, Nat.zero_le]
        rw [apart_ok (z3K (f := fB B) (l' := mg15) (by simp [CovF, mg15, n0, n1, n2, n3, f4]) (z0L (by kernel_rfl))), ← hZ]
        simp only [go_sem, simprocAttr, mn, mx, w1, w2, zl, zB, c1, c2, c3, sB, sB1, lk4, lk4', u4, u4', uB, uB', uB1, Nat.zero_le, List.length_set]
        rw [apart_ok (z3K (f := fB B) (l' := mg18) (by simp [CovF, mg18, n0, n1, n2, n3, f4]) (z0L (by kernel_rfl))), ← hZ1]
        simp only [go_sem, simprocAttr, z1B, w1, w2, e4, e5, lk12, lk12', p4, p5, cs4, cs5, v12, z1l, List.length_set]
        simp only [go_sem, simprocAttr, ← hZ2, t1, e6, x1, x2, x3, x4, v5, v6, v7, Nat.zero_le, List.length_set, unwind, modeEx, resultsOf, one]
       generalize hH5 : ((((Z2 ++ [Blk.cells 0 1 false [AVal.ref (B + 1 + 1) T.tab.C 0 T.tab.C false]]).set 12 (Blk.cells g 1 false (Lb.map (fun i => AVal.ref (ps i) 0 0 T.tab.C false) ++ AVal.ref (B + 1 + 1) T.tab.C 0 T.tab.C false :: [.lit true 0 []]))).set B (Blk.cells 0 3 false [.agg [.ref 4 0 0 (T.tab.R - 1 - 1 + 1) false, .ref 5 0 0 T.tab.C false, .ref 12 g 0 (T.tab.R - 1 - 1 + 1) false]])).set 1 (Blk.cells 0 3 false [.agg [.ref 4 0 0 (T.tab.R - 1 - 1 + 1) false, .ref 5 0 0 T.tab.C false, .ref 12 g 0 (T.tab.R - 1 - 1 + 1) false]])) = H5 at key
       have h5ne : ∀ j, j ≠ 1 → j ≠ B → j ≠ 12 → j < B + 1 + 1 + 1 + 1 → H5[j]? = Z1[j]? := fun j i1 i2 i3 i4 => by
        rw [← hH5, List.getElem?_set_ne (Ne.symm i1), List.getElem?_set_ne (Ne.symm i2), List.getElem?_set_ne (Ne.symm i3), t3 _ _ i4, z2ne _ i3]
       have h512 : H5[12]? = some (.cells g 1 false ((Lb.map (fun i => AVal.ref (ps i) 0 0 T.tab.C false) ++ [.ref (B + 1 + 1) T.tab.C 0 T.tab.C false]) ++ [.lit true 0 []])) := by
        rw [← hH5, List.getElem?_set_ne (by decide), List.getElem?_set_ne (by omega), List.getElem?_set_self (by rw [t1]; omega), List.append_assoc]; rfl
       have h54 : H5[4]? = some (.cells 0 2 true ((r2 ++ [z0G (T.tab.row a) (T.tab.row b)]).map spV ++ [spV ⟨0, 0⟩])) := by
        rw [h5ne _ (by decide) (by omega) (by decide) (by omega), hZ1, List.getElem?_set_ne (by omega), List.getElem?_set_self (by simp only [List.length_set]; omega)]
       have h55 : H5[5]? = some (.cells 0 2 true (T.tab.cols.map spV)) := by
        rw [h5ne _ (by decide) (by omega) (by decide) (by omega), z1ne _ (by decide) (by omega)]; exact atZ.cols
       have h5s : H5[B + 1 + 1]? = some (.cells T.tab.C 2 true ((z0T T.tab a b T.tab.C).map spV)) := by
        rw [h5ne _ (by omega) (by omega) (by omega) (by omega), z1ne _ (by omega) (by omega)]; exact zB2
       have hLb : ∀ j ∈ Lb, j < T.tab.R := fun j hj => by
        rw [← hq2] at hj
        exact List.mem_range.1 (hsubm j ((List.eraseIdx_sublist ..).subset hj))
       have h5r : ∀ j ∈ Lb, H5[ps j]? = some (.cells 0 2 true (rowA T.tab j)) := fun j hj => by
        obtain ⟨i1, i2, i3⟩ := hpsB j (hLb j hj)
        rw [h5ne _ (by omega) (by omega) (by omega) (by omega)]; exact z1row j (List.mem_range.2 (hLb j hj))
       have mR : (z0a T.tab a b).R = T.tab.R - 1 - 1 + 1 := by
        show ((T.tab.rows.eraseIdx (max a b)).eraseIdx (min a b) ++ [_]).length = _
        rw [hr1, hr2, List.length_append, hr2l]; rfl
       have mC : (z0a T.tab a b).C = T.tab.C := rfl
       have mrows : (z0a T.tab a b).rows = r2 ++ [z0G (T.tab.row a) (T.tab.row b)] := by
        show (T.tab.rows.eraseIdx (max a b)).eraseIdx (min a b) ++ [_] = _
        rw [hr1, hr2]
       have hcs : T.tab.cells = (List.range T.tab.R).map fun i => T.tab.cells.getD i [] := by
        apply List.ext_getElem
        · rw [List.length_map, hRl, hO.len]
        · intro i h1 h2
          rw [List.getElem_map, List.getElem_range, List.getD_eq_getElem?_getD, List.getElem?_eq_getElem h1]; rfl
       have mcells : (z0a T.tab a b).cells = (Lb.map fun i => T.tab.cells.getD i []) ++ [z0T T.tab a b T.tab.C] := by
        show (T.tab.cells.eraseIdx (max a b)).eraseIdx (min a b) ++ [_] = _
        have hm : ∀ (l : List Nat) (k : Nat), (l.map fun i => T.tab.cells.getD i []).eraseIdx k = (l.eraseIdx k).map fun i => T.tab.cells.getD i [] := fun l k => by
         rw [List.eraseIdx_eq_take_drop_succ, List.eraseIdx_eq_take_drop_succ, ← List.map_take, ← List.map_drop, ← List.map_append]
        conv => lhs; rw [hcs]
        rw [hm, hq1, hm, hq2]
       have hmo : mapO (Tidy.toLit (fun j => decide (0 ≤ j) && !([] : List Nat).contains j) H5 7) (Lb.map (fun i => AVal.ref (ps i) 0 0 T.tab.C false) ++ [.ref (B + 1 + 1) T.tab.C 0 T.tab.C false]) = some ((z0a T.tab a b).cells.map fun l => .lit false 2 (l.map spV)) := by
        rw [mcells]
        have last : Tidy.toLit (fun j => decide (0 ≤ j) && !([] : List Nat).contains j) H5 7 (.ref (B + 1 + 1) T.tab.C 0 T.tab.C false) = some (.lit false 2 ((z0T T.tab a b T.tab.C).map spV)) := by
         have htk : ((z0T T.tab a b T.tab.C).map spV).take T.tab.C = (z0T T.tab a b T.tab.C).map spV := List.take_of_length_le (by rw [List.length_map, hsl]; exact Nat.le_refl _)
         simp [Tidy.toLit, noRef, AVal.under, h5s, hsl, htk]
        have gen : ∀ l : List Nat, (∀ i ∈ l, i ∈ Lb) → mapO (Tidy.toLit (fun j => decide (0 ≤ j) && !([] : List Nat).contains j) H5 7) (l.map (fun i => AVal.ref (ps i) 0 0 T.tab.C false) ++ [.ref (B + 1 + 1) T.tab.C 0 T.tab.C false]) = some (((l.map fun i => T.tab.cells.getD i []) ++ [z0T T.tab a b T.tab.C]).map fun l => .lit false 2 (l.map spV)) := by
         intro l
         induction l with
         | nil =>
           intro _
           simp only [List.map_nil, List.nil_append, mapO, last, List.map_cons]
         | cons i l ih =>
           intro hl'
           have hi := h5r i (hl' i (by simp))
           have hrl' := z0V hO.len hO.wid (hLb i (hl' i (by simp)))
           have htk : (rowA T.tab i).take T.tab.C = rowA T.tab i := List.take_of_length_le (by omega)
           have e : Tidy.toLit (fun j => decide (0 ≤ j) && !([] : List Nat).contains j) H5 7 (.ref (ps i) 0 0 T.tab.C false) = some (.lit false 2 (rowA T.tab i)) := by
            simp [Tidy.toLit, noRef, AVal.under, hi, hrl', htk]
           simp only [List.map_cons, List.cons_append, mapO, e, ih fun j hj => hl' j (by simp [hj])]
           rfl
        exact gen Lb fun _ h => h
       have hbk := zIT (H := H5) (t := z0a T.tab a b) (p1 := 4) (g1 := 0) (p2 := 5) (g2 := 0) (q := 12) (g := g) (n := 1) (r1 := [spV ⟨0, 0⟩]) (r3 := [.lit true 0 []]) (by rw [mrows]; exact h54) h55 h512 hmo (by rw [mR, List.length_append, List.length_map, hq2l]; rfl)
       rw [mR, mC] at hbk
       refine z0s rfl rfl rfl hu key ?_ rfl ro H nx
       unfold handBack
       simp only [mapO, hbk]
       rfl
set_option maxRecDepth 10000
set_option maxHeartbeats 4000000
def orI (a b : Int) : Int := ofB (BitVec.ofInt 8 a ||| BitVec.ofInt 8 b)
theorem or_b (a b : Int) (z : AVal) : binOp env .or 5 ⟨.int .u8, 1, 1, z⟩ (.int .u8 a) (.int .u8 b) = some (.int .u8 (orI a b)) := rfl
theorem zLP : ∀ a, a < 8 → ∀ b, b < 8 → ∀ i, i < 8 → bitU (orI (oneI a) (oneI b)) i = (decide (i = a) || decide (i = b)) := by decide +kernel
theorem zIX (M : MatV) (a b n C : Nat) : refsL (z1y M a b n ++ [AVal.ref 3 0 0 C false]) = [3] := by
 have kp : ∀ x ∈ z1y M a b n, noRef x = true := fun x hx => by
  unfold z1y at hx
  obtain ⟨j, _, rfl⟩ := List.mem_map.1 hx
  exact SlI.under _ _
 have : ∀ l : List AVal, (∀ x ∈ l, noRef x = true) → refsL (l ++ [AVal.ref 3 0 0 C false]) = [3] := by
  intro l
  induction l with
  | nil => intro _; rfl
  | cons x l ih =>
    intro h
    have hx := (refs_noRef).1 x (h x (by simp))
    simp only [List.cons_append, refsL, hx, List.nil_append, ih fun y hy => h y (by simp [hy])]
 exact this _ kp
theorem zOl (a0 a1 a2 a3 a4 : List AVal) (h0 : FitT env 8 25 a0) (h1 : FitT env 8 46 a1) (h2 : FitT env 8 3 a2) (h3 : FitT env 8 3 a3) (h4 : FitT env 8 3 a4) : ∃ H', runT env 6 [pack ⟨.struct [(22, 0), (22, 1), (23, 2)], 3, 72, .agg [.lit true 0 [], .lit true 0 [], .lit true 0 []]⟩ a0, pack ⟨.slice 51, 1, 24, .lit true 0 []⟩ a1, pack ⟨.int .i64, 1, 8, .int .i64 (0)⟩ a2, pack ⟨.int .i64, 1, 8, .int .i64 (0)⟩ a3, pack ⟨.int .i64, 1, 8, .int .i64 (0)⟩ a4] [] 0 = some (.ret (.bool true), H') := by
 obtain ⟨T, hT, e0⟩ := z2N (m := 3) h0
 obtain ⟨M, hM, rfl⟩ := z55 h1
 obtain ⟨a, rfl, _⟩ := z0W ti3 h2
 obtain ⟨b, rfl, _⟩ := z0W ti3 h3
 obtain ⟨col, rfl, _⟩ := z0W ti3 h4
 show ∃ H', runT env 6 [.agg a0, M.v, .int .i64 a, .int .i64 b, .int .i64 col] [] 0 = some (.ret (.bool true), H')
 rw [e0]
 have wk := z39 T hT
 have mc := z8Y hT a b
 have lr : T.rows.l.length = T.tab.R := rfl
 have lc : T.cols.l.length = T.tab.C := rfl
 rw [run_unfold fn6 rfl]
 cases hw : z7w T.tab with
 | false =>
   simp (config := { maxSteps := 2000000 }) only [go_sem, simprocAttr, Try.f6, wk, hw, unwind, modeEx, resultsOf, one]
   exact ⟨_, rfl⟩
 | true =>
   have hO := (z5P hw).1
   have hR8 := hO.R8
   have hC8 := hO.C8
   have hok := Tab.ok_iff.2 hO
   unfold zE7 at mc
   rw [if_pos hok] at mc
   cases ho : badM T.tab a b with
   | true =>
     rw [ho, if_pos rfl] at mc
     simp (config := { maxSteps := 2000000 }) only [go_sem, simprocAttr, Try.f6, wk, hw, mc, noTab, unwind, modeEx, resultsOf, one]
     exact ⟨_, rfl⟩
   | false =>
     rw [ho, if_neg (by decide)] at mc
     have d : (((decide (a < 0) = false ∧ decide ((T.tab.R : Int) ≤ a) = false) ∧ decide (b < 0) = false) ∧ decide ((T.tab.R : Int) ≤ b) = false) ∧ decide (a = b) = false := by
      unfold badM at ho
      simpa only [Bool.or_eq_false_iff] using ho
     obtain ⟨⟨⟨⟨d1, d2⟩, d3⟩, d4⟩, d5⟩ := d
     obtain ⟨i, k, rfl, rfl, hi, hk, hik⟩ := zB0 ho
     rw [Int.toNat_natCast, Int.toNat_natCast] at mc
     cases hall : (z42 T.tab i k).all Spn.ok with
     | false =>
       rw [hall, if_neg (by decide)] at mc
       simp (config := { maxSteps := 2000000 }) only [go_sem, simprocAttr, Try.f6, wk, hw, mc, noTab, unwind, modeEx, resultsOf, one]
       exact ⟨_, rfl⟩
     | true =>
       rw [hall, if_pos rfl] at mc
       have hO2 := z5d hO hik hi hk hall
       obtain ⟨n, hR⟩ : ∃ n, T.tab.R = n + 2 := ⟨T.tab.R - 2, by omega⟩
       have mR := z4J hR hik hi hk
       have mfit := fun s => zFV (s := s) hO hR hik hi hk
       have malw := fun m => zNU (m := m) hO hik hi hk
       have mtot := zIo hR hik hi hk
       have hW := z1S hO2.R8 hO2.C8 hO2.len hO2.wid
       have hct := z0P (z0a T.tab i k)
       have mC : (z0a T.tab i k).C = T.tab.C := rfl
       generalize canon (z0a T.tab i k) = W at mc hW hct
       generalize z0a T.tab i k = t2 at hO2 mR mC mfit malw mtot hct
       subst hct
       have lw : W.rows.l.length = n + 1 := mR
       have ckw := z0p W hW
       rw [z0O (Tab.ok_iff.2 hO2)] at ckw
       have wsub : IntKind.i64.wrap ((T.tab.R : Int) - 1) = ((n + 1 : Nat) : Int) := by rw [i64_in _ (by omega)]; omega
       have wsub2 : IntKind.i64.wrap (((n + 1 : Nat) : Int) - 1) = (n : Int) := by rw [i64_in _ (by omega)]; omega
       have dd : ∀ n : Int, decide (n = n) = true := fun n => decide_eq_true rfl
       have pc := z3e hT
       unfold z43 at pc
       rw [hok, z0O hok, Bool.true_and] at pc
       have ct := z8L hO
       have al := z1F hT hO hM
       have ore := or_b
       -- what comes last
       have last : ∀ c : Nat, c < T.tab.C → canB T.tab = true → ∃ x y p q : Spn, (∀ ro H nx, callT env 32 [T.v, (bitC T.tab (orI (oneI i) (oneI k)) (oneI c)).v] ro H nx = some (.ret (.tuple [.agg [.int .i64 x.lo, .int .i64 x.hi], .int .i64 0]), .ups [])) ∧
           (∀ ro H nx, callT env 26 [W.v, .int .i64 (n : Int), .int .i64 (c : Int)] ro H nx = some (.ret (.tuple [spV y, .int .i64 0]), .ups [])) ∧ (∀ ro H nx, callT env 34 [T.v] ro H nx = some (.ret (.tuple [spV p, .int .i64 0]), .ups [])) ∧ (∀ ro H nx, callT env 34 [W.v] ro H nx = some (.ret (.tuple [spV q, .int .i64 0]), .ups [])) ∧
           (∀ ro H nx, callT env 43 [spV x, spV y] ro H nx = some (.ret (.bool true), .ups [])) ∧ ∀ ro H nx, callT env 43 [spV p, spV q] ro H nx = some (.ret (.bool true), .ups []) := fun c hc hcan => by
        obtain ⟨s0, hs0⟩ := z0S.1 hcan
        have hcanW : canB W.tab = true := z0S.2 ⟨_, mfit s0 hs0⟩
        obtain ⟨x, hx, cx⟩ := z6S hT hO hcan (orI (oneI i) (oneI k)) (oneI c)
        obtain ⟨y, hy, cy⟩ := z4E hW hO2 hcanW (r := n) (c := c) (by omega) (by rw [mC]; exact hc)
        obtain ⟨p, hp, cp⟩ := z3S hT hO hcan
        obtain ⟨q, hq, cq⟩ := z3S hW hO2 hcanW
        obtain ⟨_, c2⟩ := z9G c (by omega)
        obtain ⟨b1, b2⟩ := hx.img hy fun s hs => ⟨_, mfit s hs, by
         rw [z4B (t := W.tab) (by omega) (by rw [mC]; exact hc), z0w (t := T.tab) (fun j hj => zLP i (by omega) k (by omega) j (by omega)) (fun j hj => c2 j (by omega)), zJy hik hi hk hc]
         exact if_neg (Nat.lt_irrefl _)⟩
        obtain ⟨b3, b4⟩ := hp.img hq fun s hs => ⟨_, mfit s hs, mtot s⟩
        refine ⟨x, y, p, q, cx, cy, cp, cq, fun ro H nx => ?_, fun ro H nx => ?_⟩
        · rw [z3k, decide_eq_true b1, decide_eq_true b2]; rfl
        · rw [z3k, decide_eq_true b3, decide_eq_true b4]; rfl
       cases ha : alwB T.tab M.m with
       | false =>
         rw [ha] at al
         cases hcan : canB T.tab with
         | false =>
           rw [hcan] at pc
           simp (config := { maxSteps := 2000000 }) only [go_sem, simprocAttr, Try.f6, wk, hw, mc, d1, d2, d3, d4, d5, List.length_map, lr, lc, lw, wsub, dd, ckw, al, pc, unwind, modeEx, resultsOf, one]
           exact ⟨_, rfl⟩
         | true =>
         rw [hcan] at pc
         cases d6 : decide (col < 0) with
         | true =>
           simp (config := { maxSteps := 2000000 }) only [go_sem, simprocAttr, Try.f6, wk, hw, mc, d1, d2, d3, d4, d5, List.length_map, lr, lc, lw, wsub, dd, ckw, al, pc, d6, unwind, modeEx, resultsOf, one]
           exact ⟨_, rfl⟩
         | false =>
         cases d7 : decide ((T.tab.C : Int) ≤ col) with
         | true =>
           simp (config := { maxSteps := 2000000 }) only [go_sem, simprocAttr, Try.f6, wk, hw, mc, d1, d2, d3, d4, d5, List.length_map, lr, lc, lw, wsub, dd, ckw, al, pc, d6, d7, unwind, modeEx, resultsOf, one]
           exact ⟨_, rfl⟩
         | false =>
         obtain ⟨c, rfl, hc⟩ : ∃ c : Nat, col = c ∧ c < T.tab.C := ⟨col.toNat, by simp at d6; omega, by simp at d6 d7; omega⟩
         obtain ⟨x, y, p, q, cx, cy, cp, cq, w1, w2⟩ := last c hc hcan
         simp (config := { maxSteps := 2000000 }) only [go_sem, simprocAttr, Try.f6, wk, hw, mc, d1, d2, d3, d4, d5, List.length_map, lr, lc, lw, wsub, wsub2, dd, ckw, al, pc, d6, d7, zL4, ore, ct, cx, cy, cp, cq, w1, w2]
         rw [apart_ok (z0L (by kernel_rfl))]
         simp (config := { maxSteps := 2000000 }) only [go_sem, simprocAttr, wsub2, List.length_map, lw, cy, cp, cq, w1, w2, dd, unwind, modeEx, resultsOf, one]
         exact ⟨_, rfl⟩
       | true =>
         rw [ha] at al
         obtain ⟨q1, q2⟩ := malw M.m ha
         unfold alwB at ha
         rw [Bool.and_eq_true] at ha
         have hf : Fits T.tab (z03 M.m) := z1T.1 ha.2
         have hd := ha.1
         unfold z2C at hd
         rw [Bool.and_eq_true] at hd
         have hD : DimsOk T M := ⟨by have := of_decide_eq_true hd.1; simpa [MatV.m] using this, fun s hs => of_decide_eq_true (List.all_eq_true.1 hd.2 s.l (List.mem_map.2 ⟨s, hs, rfl⟩))⟩
         obtain ⟨_, _, _, _, _, m3, _, _⟩ := MatV.at hM hD hi (show 0 < T.tab.C from hO.C1)
         have hcm0 : cmS W.tab (mrgM M.m i k T.tab.C) = 0 := by
          unfold cmS
          rw [if_pos (Tab.ok_iff.2 hO2), if_pos q1, if_pos q2]
         have hkl : (z1y M i k M.rows.length).length + 1 = (idxs i k M.rows.length).length + 1 := by unfold z1y; rw [List.length_map]
         have cm := zSN (W := W) hW hO hM hD hf hi hk (H := [boxT T, .cells 0 3 false [W.v], .cells ((idxs i k M.rows.length).length + 1) 1 false (z1y M i k M.rows.length ++ [.ref 3 0 0 T.tab.C false]), .cells 0 1 true (intsV T.tab.C (meS M.m i k T.tab.C)), .cells 0 1 false [.ref 3 0 0 T.tab.C false]]) (n := (idxs i k M.rows.length).length + 1) rfl rfl hkl
         rw [hcm0] at cm
         have hrl := zIX M i k M.rows.length T.tab.C
         have lk : looks [boxT T, .cells 0 3 false [W.v], .cells ((idxs i k M.rows.length).length + 1) 1 false (z1y M i k M.rows.length ++ [.ref 3 0 0 T.tab.C false]), .cells 0 1 true (intsV T.tab.C (meS M.m i k T.tab.C)), .cells 0 1 false [.ref 3 0 0 T.tab.C false]] fuel0 [2] [] = some [2, 3] := by
          unfold fuel0
          simp [looks, hrl]
         have li := z6j i k M.rows.length
         have hml := hD.len
         have ap := zC5 (H := [boxT T, .cells 0 3 false [W.v], accF (z1y M i k M.rows.length), .cells 0 1 true (intsV T.tab.C (meS M.m i k T.tab.C)), .cells 0 1 false [.ref 3 0 0 T.tab.C false]]) (q := 2) (n := (idxs i k M.rows.length).length) (es := z1y M i k M.rows.length) (x := .ref 4 0 0 1 false) (r := .ref 3 0 0 T.tab.C false) rfl rfl (by unfold z1y; rw [List.length_map]) rfl rfl (by omega) 5
         have eF : accF (z1y M i k M.rows.length ++ [.ref 3 0 0 T.tab.C false]) = .cells ((idxs i k M.rows.length).length + 1) 1 false (z1y M i k M.rows.length ++ [.ref 3 0 0 T.tab.C false]) := by
          unfold accF
          rw [if_neg (by simp), List.length_append]
          show Blk.cells ((z1y M i k M.rows.length).length + 1) _ _ _ = _
          rw [hkl]
         rw [eF] at ap
         have c0 : (0 : Int) ≤ (T.tab.C : Int) := by omega
         have m1 : T.tab.C * 9 ≤ z04 := by unfold z04; omega
         have z0 : intsV T.tab.C (meS M.m i k 0) = List.replicate T.tab.C (AVal.int .i64 0) := by
          rw [z59]
          exact z18 fun j hj => by unfold meS; rw [if_neg (by omega)]
         simp only [boxT] at ap cm lk
         simp only [MatV.v, m3] at al ⊢
         obtain ⟨e1, s1, hx1, hp1⟩ := zNR (M := M) (a := i) (b := k) (v4 := .int .i64 col) (X0 := boxT T) (X1 := .cells 0 3 false [W.v]) (by omega) M.rows.length 0 _ _ _ _ _ _ _ _ _ _ _ _ _ _ _ _ _ _ _ _ _ _ _ _ _ _ _ _ _ _ _ _ _ _ _ _ _ _ _ _ _ _ _ _ _ _ _ _ _ _ _ _ _ _ _ _ _ _ _ _ _ _ _ _ _ _ _ _ _ _ _ _ _ _ _ _ _ _ _ _ _ _ _ _ _ _ _ _ _ _ _ _ _ _ _ _ _ _ _ _ _ _ _ _ _ _ _ _ _ _ _ _ _ _ _ _ _ _ _ _ _ _ _ _ _ _ _ _ _ _ _ _ _ _ _ _ _ _ _ _ _ _ _ _ _ _ _ _ _ _ _ _ _ _ _ _ _ _ _ _ _ _ _ _ _ _ _ _ _ _ _ _ _ _ _ _ _ _ _ _ _ _ _ _ _ _ _ _ _ _ _ _ _ _ _ _ _ _ _ _ _ _ _ _ _ _ _ _ _ _ _ _ _ _ _ _ _ _ _ _ _ _ _ (by omega)
         obtain ⟨rfl, jp, rfl⟩ := hp1
         obtain ⟨e2, s2, hx2, hp2⟩ := zNS hO hM hD hf hi hk (v4 := .int .i64 col) (v13 := .ref 2 (idxs i k M.rows.length).length 0 (idxs i k M.rows.length).length false) (X0 := boxT T) (X1 := .cells 0 3 false [W.v]) (X2 := accF (z1y M i k M.rows.length)) T.tab.C 0 _ _ _ _ _ _ _ _ _ _ _ _ _ _ _ _ _ _ _ _ _ _ _ _ _ _ _ _ _ _ _ _ _ _ _ _ _ _ _ _ _ _ _ _ _ _ _ _ _ _ _ _ _ _ _ _ _ _ _ _ _ _ _ _ _ _ _ _ _ _ _ _ _ _ _ _ _ _ _ _ _ _ _ _ _ _ _ _ _ _ _ _ _ _ _ _ _ _ _ _ _ _ _ _ _ _ _ _ _ _ _ _ _ _ _ _ _ _ _ _ _ _ _ _ _ _ _ _ _ _ _ _ _ _ _ _ _ _ _ _ _ _ _ _ _ _ _ _ _ _ _ _ _ _ _ _ _ _ _ _ _ _ _ _ _ _ _ _ _ _ _ _ _ _ _ _ _ _ _ _ _ _ _ _ _ _ _ _ _ _ _ _ _ _ _ _ _ _ _ _ _ _ _ _ _ _ _ _ _ _ _ _ _ _ _ _ _ _ _ _ _ _ (by omega)
         obtain ⟨rfl, jq, rfl⟩ := hp2
         have i00 : idxs i k 0 = [] := rfl
         have k00 : z1y M i k 0 = [] := rfl
         have a00 : accF [] = .cells 0 0 false [] := rfl
         rw [k00, a00, i00] at hx1
         rw [z0] at hx2
         simp (config := { maxSteps := 2000000 }) only [go_sem, simprocAttr, Try.f6, boxT, List.length_nil, Int.ofNat_zero, Int.natCast_zero] at hx1 hx2
         cases hcan : canB T.tab with
         | false =>
           rw [hcan] at pc
           simp (config := { maxSteps := 2000000 }) only [go_sem, simprocAttr, Try.f6, wk, hw, mc, d1, d2, d3, d4, d5, List.length_map, lr, lc, lw, wsub, dd, ckw, al, pc]
           rw [hx1]
           simp (config := { maxSteps := 2000000 }) only [go_sem, simprocAttr, List.length_map, lc, Int.toNat_natCast, c0, m1]
           rw [hx2]
           simp (config := { maxSteps := 2000000 }) only [go_sem, simprocAttr, ap, lk, cm]
           rw [apart_ok (z0L (by kernel_rfl))]
           simp (config := { maxSteps := 2000000 }) only [go_sem, simprocAttr, pc, dd, unwind, modeEx, resultsOf, one]
           exact ⟨_, rfl⟩
         | true =>
         rw [hcan] at pc
         cases d6 : decide (col < 0) with
         | true =>
           simp (config := { maxSteps := 2000000 }) only [go_sem, simprocAttr, Try.f6, wk, hw, mc, d1, d2, d3, d4, d5, List.length_map, lr, lc, lw, wsub, dd, ckw, al, pc]
           rw [hx1]
           simp (config := { maxSteps := 2000000 }) only [go_sem, simprocAttr, List.length_map, lc, Int.toNat_natCast, c0, m1]
           rw [hx2]
           simp (config := { maxSteps := 2000000 }) only [go_sem, simprocAttr, ap, lk, cm]
           rw [apart_ok (z0L (by kernel_rfl))]
           simp (config := { maxSteps := 2000000 }) only [go_sem, simprocAttr, pc, d6, dd, unwind, modeEx, resultsOf, one]
           exact ⟨_, rfl⟩
         | false =>
         cases d7 : decide ((T.tab.C : Int) ≤ col) with
         | true =>
           simp (config := { maxSteps := 2000000 }) only [go_sem, simprocAttr, Try.f6, wk, hw, mc, d1, d2, d3, d4, d5, List.length_map, lr, lc, lw, wsub, dd, ckw, al, pc]
           rw [hx1]
           simp (config := { maxSteps := 2000000 }) only [go_sem, simprocAttr, List.length_map, lc, Int.toNat_natCast, c0, m1]
           rw [hx2]
           simp (config := { maxSteps := 2000000 }) only [go_sem, simprocAttr, ap, lk, cm]
           rw [apart_ok (z0L (by kernel_rfl))]
           simp (config := { maxSteps := 2000000 }) only [go_sem, simprocAttr, List.length_map, lc, pc, d6, d7, dd, unwind, modeEx, resultsOf, one]
           exact ⟨_, rfl⟩
         | false =>
         obtain ⟨c, rfl, hc⟩ : ∃ c : Nat, col = c ∧ c < T.tab.C := ⟨col.toNat, by simp at d6; omega, by simp at d6 d7; omega⟩
         obtain ⟨x, y, p, q, cx, cy, cp, cq, w1, w2⟩ := last c hc hcan
         simp (config := { maxSteps := 2000000 }) only [go_sem, simprocAttr, Try.f6, wk, hw, mc, d1, d2, d3, d4, d5, List.length_map, lr, lc, lw, wsub, dd, ckw, al, pc]
         rw [hx1]
         simp (config := { maxSteps := 2000000 }) only [go_sem, simprocAttr, List.length_map, lc, Int.toNat_natCast, c0, m1]
         rw [hx2]
         simp (config := { maxSteps := 2000000 }) only [go_sem, simprocAttr, ap, lk, cm]
         rw [apart_ok (z0L (by kernel_rfl))]
         simp (config := { maxSteps := 2000000 }) only [go_sem, simprocAttr, List.length_map, lc, pc, d6, d7, zL4, ore, ct, cx]
         rw [apart_ok (z0L (by kernel_rfl))]
         simp (config := { maxSteps := 2000000 }) only [go_sem, simprocAttr, wsub2, List.length_map, lw, cy, cp, cq, w1, w2, dd, unwind, modeEx, resultsOf, one]
         exact ⟨_, rfl⟩
end Go.Proofs.Ytgfejpngfikjiaa.Tidy
