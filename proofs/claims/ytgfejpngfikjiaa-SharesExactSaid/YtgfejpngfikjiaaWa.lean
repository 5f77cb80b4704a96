/-
  What the functions that SharesExact reaches compute; the law, run.
-/
import Derived.Test.YtgfejpngfikjiaaCe
import Derived.Test.YtgfejpngfikjiaaCf
import Derived.Test.YtgfejpngfikjiaaCb
import Derived.Test.YtgfejpngfikjiaaCd
set_option linter.all false
namespace Go.Proofs.Ytgfejpngfikjiaa.Tidy
open Go Go.IntWalk
set_option maxRecDepth 10000
set_option linter.unusedSimpArgs false
set_option maxHeartbeats 2000000

def cutRow (C : Nat) (c : CutA) (i k : Nat) : List Nat := ((List.range k).filter fun k => c.l1.getD i false && c.l2.getD k false).map (i * C + ·)
theorem cutRow_succ (C : Nat) (c : CutA) (i k : Nat) : cutRow C c i (k + 1) = if c.l1.getD i false && c.l2.getD k false then cutRow C c i k ++ [i * C + k] else cutRow C c i k := by
  unfold cutRow
  rw [List.range_succ, List.filter_append, List.filter_cons, List.filter_nil]
  by_cases h : (c.l1.getD i false && c.l2.getD k false) = true
  · rw [if_pos h, if_pos h, List.map_append]; rfl
  · rw [if_neg h, if_neg h, List.append_nil]
theorem cutRow_length (C : Nat) (c : CutA) (i k : Nat) : (cutRow C c i k).length ≤ k := by
  unfold cutRow
  rw [List.length_map]
  have := List.length_filter_le (fun k => c.l1.getD i false && c.l2.getD k false) (List.range k)
  simpa using this

def blkH (T : TabV) (c : CutA) (g : Nat) (f : Nat → Int) (gt : Nat) (l : List Nat) : Heap := [boxT T, .cells 0 2 false [c.v], .cells 0 2 true [.agg [.int .i64 0, .int .i64 0]], boxT T, boxT T, arcB g T.tab.net f, netB T.tab.R T.tab.C 5 g T.tab.net.n, cellP88 6, accB 1 gt (natsV l)]

theorem blk_inner {T : TabV} (hO : T.tab.Ok) {c : CutA} (hc : c.Wf) (h1 : c.l1.length = T.tab.R) (h2 : c.l2.length = T.tab.C) (g : Nat) (f : Nat → Int) {i : Nat} (hi : i < T.tab.R) (l : List Nat) (hl : l.length ≤ 64) : ∀ (n k gt : Nat) (j0 j1 j2 j5 j7 j10 j11 j12 j13 j14 j15 j16 j17 j18 j19 j20 j21 j22 j23 j24 j25 j26 j27 j30 j31 j32 j33 j34 j37 j38 j39 j40 j41 j42 j43 j44 j45 j46 j47 j48 j49 j50 j51 j52 j53 j54 j55 j56 j57 j58 j59 j60 j61 j62 : AVal), k + n = T.tab.C →
    Goes (execT env (Try.f32.at [1, 1, 1, 1, 1, 0, 1, 0, 0, 1, 1, 0, 0, 1, 1, 0]) ⟨[j0, j1, j2, .ptr 1 0 0 0, .ptr 2 0 0 0, j5, .ptr 6 0 0 0, j7, .ref 8 (accG gt (natsV (l ++ cutRow T.tab.C c i k))) 0 (l ++ cutRow T.tab.C c i k).length false, .int .i64 i, j10, j11, j12, j13, j14, j15, j16, j17, j18, j19, j20, j21, j22, j23, j24, j25, j26, j27, .int .i64 T.tab.R, .int .i64 i, j30, j31, j32, j33, j34, .int .i64 T.tab.C, .int .i64 k, j37, j38, j39, j40, j41, j42, j43, j44, j45, j46, j47, j48, j49, j50, j51, j52, j53, j54, j55, j56, j57, j58, j59, j60, j61, j62], blkH T c g f gt (l ++ cutRow T.tab.C c i k), [], 0, [8]⟩) fun e s =>
      e = .exit 2 ∧ ∃ (gt : Nat), FrP 63 [(3, .ptr 1 0 0 0), (4, .ptr 2 0 0 0), (6, .ptr 6 0 0 0), (8, .ref 8 (accG gt (natsV (l ++ cutRow T.tab.C c i T.tab.C))) 0 (l ++ cutRow T.tab.C c i T.tab.C).length false), (28, .int .i64 T.tab.R), (29, .int .i64 i)] (blkH T c g f gt (l ++ cutRow T.tab.C c i T.tab.C)) [] 0 [8] s := by
  have hR8 := hO.R8
  have hC8 := hO.C8
  intro n
  induction n with
  | zero =>
    intro k gt; intros; rename_i hk
    have hd : decide ((k : Int) < (T.tab.C : Int)) = false := by simp; omega
    have : k = T.tab.C := by omega
    subst this
    simp only [go_sem, simprocAttr, Try.f32]
    rw [exec_loop]
    simp only [go_sem, simprocAttr, hd]
    exact ⟨gt, frP (by kernel_rfl)⟩
  | succ n ih =>
    intro k gt; intros; rename_i hk
    have hd : decide ((k : Int) < (T.tab.C : Int)) = true := by simp; omega
    have k0 : (0 : Int) ≤ (k : Int) := by omega
    have i0 : (0 : Int) ≤ (i : Int) := by omega
    have hz1 := sz_of hc.s1 (List.getElem?_eq_getElem (show i < c.l1.length by omega))
    have hz2 := sz_of hc.s2 (List.getElem?_eq_getElem (show k < c.l2.length by omega))
    have g1 := boolsV_get (l := c.l1) (i := i) (by omega)
    have g2 := boolsV_get (l := c.l2) (i := k) (by omega)
    have hlen := cutRow_length T.tab.C c i k
    have hll : (l ++ cutRow T.tab.C c i k).length < 2 ^ 30 := by rw [List.length_append]; omega
    have es := cutRow_succ T.tab.C c i k
    have hA : NetAt (blkH T c g f gt (l ++ cutRow T.tab.C c i k)) 6 5 T.tab.R T.tab.C g T.tab.net.n (arcB g T.tab.net f) := ⟨rfl, rfl, by decide, flat_arcB _ _ _⟩
    have cc := cellArc_call hA (i := i) (k := k) (by omega) hC8 (by omega) 0 9
    obtain ⟨gt', ap⟩ := append_nat (H := blkH T c g f gt (l ++ cutRow T.tab.C c i k)) (id := 8) (l := l ++ cutRow T.tab.C c i k) (j := i * T.tab.C + k) (cl := true) rfl hll 9 (ro := 0) (Nat.zero_le _)
    have iha := ih (k + 1) gt
    have ihb := ih (k + 1) gt'
    rw [es] at iha ihb
    rw [List.append_assoc] at ap
    simp only [blkH, boxT, netB, arcB, cellP88] at cc ap
    cases hb1 : c.l1.getD i false <;> cases hb2 : c.l2.getD k false <;> rw [hb1] at iha ihb g1 <;> rw [hb2] at iha ihb g2 <;>
      simp only [go_sem, simprocAttr, Try.f32, blkH, boxT, netB, arcB, cellP88, Bool.false_eq_true, if_false, if_true, Bool.and_true, Bool.and_false, Bool.and_self] at iha ihb ⊢ <;>
      rw [exec_loop] <;>
      simp only [go_sem, simprocAttr, hd, k0, i0, Int.toNat_natCast, hz1, hz2, g1, g2, cc, ap, wrap_succ (show k < 2 ^ 63 - 1 by omega)] <;>
      first
      | exact iha _ _ _ _ _ _ _ _ _ _ _ _ _ _ _ _ _ _ _ _ _ _ _ _ _ _ _ _ _ _ _ _ _ _ _ _ _ _ _ _ _ _ _ _ _ _ _ _ _ _ _ _ _ _ (by omega)
      | exact ihb _ _ _ _ _ _ _ _ _ _ _ _ _ _ _ _ _ _ _ _ _ _ _ _ _ _ _ _ _ _ _ _ _ _ _ _ _ _ _ _ _ _ _ _ _ _ _ _ _ _ _ _ _ _ (by omega)

def blkL (C : Nat) (c : CutA) (n : Nat) : List Nat := (List.range n).flatMap fun i => cutRow C c i C
theorem blkL_succ (C : Nat) (c : CutA) (n : Nat) : blkL C c (n + 1) = blkL C c n ++ cutRow C c n C := by simp [blkL, List.range_succ]
theorem blkL_length (C : Nat) (c : CutA) : ∀ n, (blkL C c n).length ≤ n * C
  | 0 => by simp [blkL]
  | n + 1 => by
    rw [blkL_succ, List.length_append, Nat.succ_mul]
    have := blkL_length C c n
    have := cutRow_length C c n C
    omega

theorem blk_outer {T : TabV} (hO : T.tab.Ok) {c : CutA} (hc : c.Wf) (h1 : c.l1.length = T.tab.R) (h2 : c.l2.length = T.tab.C) (g : Nat) (f : Nat → Int) : ∀ (n i gt : Nat) (j0 j1 j2 j5 j7 j9 j10 j11 j12 j13 j14 j15 j16 j17 j18 j19 j20 j21 j22 j23 j24 j25 j26 j27 j30 j31 j32 j33 j34 j35 j36 j37 j38 j39 j40 j41 j42 j43 j44 j45 j46 j47 j48 j49 j50 j51 j52 j53 j54 j55 j56 j57 j58 j59 j60 j61 j62 : AVal), i + n = T.tab.R →
    Goes (execT env (Try.f32.at [1, 1, 1, 1, 1, 0, 1, 0]) ⟨[j0, j1, j2, .ptr 1 0 0 0, .ptr 2 0 0 0, j5, .ptr 6 0 0 0, j7, .ref 8 (accG gt (natsV (blkL T.tab.C c i))) 0 (blkL T.tab.C c i).length false, j9, j10, j11, j12, j13, j14, j15, j16, j17, j18, j19, j20, j21, j22, j23, j24, j25, j26, j27, .int .i64 T.tab.R, .int .i64 i, j30, j31, j32, j33, j34, j35, j36, j37, j38, j39, j40, j41, j42, j43, j44, j45, j46, j47, j48, j49, j50, j51, j52, j53, j54, j55, j56, j57, j58, j59, j60, j61, j62], blkH T c g f gt (blkL T.tab.C c i), [], 0, [8]⟩) fun e s =>
      e = .exit 0 ∧ ∃ (gt : Nat), FrP 63 [(4, .ptr 2 0 0 0), (6, .ptr 6 0 0 0), (8, .ref 8 (accG gt (natsV (blkL T.tab.C c T.tab.R))) 0 (blkL T.tab.C c T.tab.R).length false)] (blkH T c g f gt (blkL T.tab.C c T.tab.R)) [] 0 [8] s := by
  have hR8 := hO.R8
  have hC8 := hO.C8
  intro n
  induction n with
  | zero =>
    intro i gt; intros; rename_i hi
    have hd : decide ((i : Int) < (T.tab.R : Int)) = false := by simp; omega
    have : i = T.tab.R := by omega
    subst this
    simp only [go_sem, simprocAttr, Try.f32]
    rw [exec_loop]
    simp only [go_sem, simprocAttr, hd]
    exact ⟨gt, frP (by kernel_rfl)⟩
  | succ n ih =>
    intro i gt; intros; rename_i hi
    have hiR : i < T.tab.R := by omega
    have hd : decide ((i : Int) < (T.tab.R : Int)) = true := by simp; omega
    have hl := blkL_length T.tab.C c i
    have hl2 : i * T.tab.C ≤ 8 * 8 := Nat.mul_le_mul (by omega) hC8
    obtain ⟨ex, st, hx, hp⟩ := blk_inner hO hc h1 h2 g f hiR (blkL T.tab.C c i) (by omega) T.tab.C 0 gt _ _ _ _ _ _ _ _ _ _ _ _ _ _ _ _ _ _ _ _ _ _ _ _ _ _ _ _ _ _ _ _ _ _ _ _ _ _ _ _ _ _ _ _ _ _ _ _ _ _ _ _ _ _ (by omega)
    obtain ⟨rfl, gt', jp, rfl⟩ := hp
    have z0 : cutRow T.tab.C c i 0 = [] := rfl
    have ih' := ih (i + 1) gt'
    rw [blkL_succ] at ih'
    simp only [go_sem, simprocAttr, Try.f32, blkH, boxT, netB, arcB, cellP88, z0, List.append_nil, Int.natCast_zero, Int.ofNat_zero] at hx
    simp only [go_sem, simprocAttr, Try.f32, blkH, boxT, netB, arcB, cellP88] at ih' ⊢
    rw [exec_loop]
    simp only [go_sem, simprocAttr, hd]
    rw [hx]
    simp only [go_sem, simprocAttr, blkH, boxT, netB, arcB, cellP88, wrap_succ (show i < 2 ^ 63 - 1 by omega)]
    exact ih' _ _ _ _ _ _ _ _ _ _ _ _ _ _ _ _ _ _ _ _ _ _ _ _ _ _ _ _ _ _ _ _ _ _ _ _ _ _ _ _ _ _ _ _ _ _ _ _ _ _ _ _ _ _ _ _ _ (by omega)

set_option maxRecDepth 10000
set_option maxHeartbeats 2000000

def shrI (a : Int) (i : Nat) : Int := a.fdiv (2 ^ min i 8)
def bitI (a : Int) (i : Nat) : Int := IntKind.u8.wrap ((BitVec.ofInt 8 (shrI a i)) &&& (BitVec.ofInt 8 1)).toNat
def bitU (a : Int) (i : Nat) : Bool := decide (bitI a i = 1)

theorem shr_u8 (a : Int) (i : Nat) (z : AVal) : binOp env .shr 5 ⟨.int .u8, 1, 1, z⟩ (.int .u8 a) (.int .i64 (i : Int)) = some (.int .u8 (shrI a i)) := by
  simp only [binOp]
  rw [if_neg (by omega)]
  rfl
theorem and_u8 (a : Int) (i : Nat) (z : AVal) : binOp env .and 5 ⟨.int .u8, 1, 1, z⟩ (.int .u8 (shrI a i)) (.int .u8 1) = some (.int .u8 (bitI a i)) := rfl

def bitsL (a : Int) (n : Nat) : List Bool := (List.range n).map (bitU a)
theorem bitsL_succ (a : Int) (n : Nat) : bitsL a (n + 1) = bitsL a n ++ [bitU a n] := by simp [bitsL, List.range_succ]
theorem bitsL_length (a : Int) (n : Nat) : (bitsL a n).length = n := by simp [bitsL]
theorem bitsL_getD {a : Int} {n i : Nat} (h : i < n) : (bitsL a n).getD i false = bitU a i := getD_some (by simp [bitsL, h])

def ctH (T : TabV) (g1 g2 : Nat) (l1 l2 : List Bool) : Heap := [boxT T, .cells 0 2 false [.agg [.lit true 0 [], .lit true 0 []]], accB 1 g1 (boolsV l1), accB 1 g2 (boolsV l2), .cells 0 2 false [.agg [.ref 2 (accG g1 (boolsV l1)) 0 l1.length false, .ref 3 (accG g2 (boolsV l2)) 0 l2.length false]]]

theorem ct_rows {T : TabV} (hO : T.tab.Ok) (a b : Int) : ∀ (n i g1 : Nat) (j0 j4 j5 j8 j9 j10 j11 j14 j15 j16 j17 j18 j19 j20 j21 j22 j23 j24 j25 j26 j27 j28 j29 j30 j31 j32 j33 j34 j35 j36 j37 j38 j39 j40 j41 j42 j43 j44 : AVal), i + n = T.tab.R →
    Goes (execT env (Try.f42.at [1, 1, 0, 1, 0]) ⟨[j0, .int .u8 a, .int .u8 b, .ptr 0 0 0 0, j4, j5, .ptr 1 0 0 0, .ptr 4 0 0 0, j8, j9, j10, j11, .int .i64 T.tab.R, .int .i64 i, j14, j15, j16, j17, j18, j19, j20, j21, j22, j23, j24, j25, j26, j27, j28, j29, j30, j31, j32, j33, j34, j35, j36, j37, j38, j39, j40, j41, j42, j43, j44], ctH T g1 0 (bitsL a i) [], [], 0, [7]⟩) fun e s =>
      e = .exit 0 ∧ ∃ (g1 : Nat), FrP 45 [(1, .int .u8 a), (2, .int .u8 b), (3, .ptr 0 0 0 0), (6, .ptr 1 0 0 0), (7, .ptr 4 0 0 0)] (ctH T g1 0 (bitsL a T.tab.R) []) [] 0 [7] s := by
  have hR8 := hO.R8
  intro n
  induction n with
  | zero =>
    intro i g1; intros; rename_i hi
    have hd : decide ((i : Int) < (T.tab.R : Int)) = false := by simp; omega
    have : i = T.tab.R := by omega
    subst this
    simp only [go_sem, simprocAttr, Try.f42]
    rw [exec_loop]
    simp only [go_sem, simprocAttr, hd]
    exact ⟨g1, frP (by kernel_rfl)⟩
  | succ n ih =>
    intro i g1; intros; rename_i hi
    have hd : decide ((i : Int) < (T.tab.R : Int)) = true := by simp; omega
    obtain ⟨g1', ap⟩ := append_bool (H := ctH T g1 0 (bitsL a i) []) (id := 2) (l := bitsL a i) (b := bitU a i) (cl := true) rfl (by rw [bitsL_length]; omega) 5 (ro := 0) (Nat.zero_le _)
    rw [← bitsL_succ] at ap
    have hb : decide (bitI a i = 1) = bitU a i := rfl
    have ih' := ih (i + 1) g1'
    simp only [ctH, boxT, List.length_nil] at ap
    simp only [go_sem, simprocAttr, Try.f42, ctH, boxT, List.length_nil] at ih' ⊢
    rw [exec_loop]
    simp only [go_sem, simprocAttr, hd, shr_u8, and_u8, hb, ap]
    rw [apart_ok]
    · simp only [go_sem, simprocAttr, ctH, wrap_succ (show i < 2 ^ 63 - 1 by omega)]
      exact ih' _ _ _ _ _ _ _ _ _ _ _ _ _ _ _ _ _ _ _ _ _ _ _ _ _ _ _ _ _ _ _ _ _ _ _ _ _ _ (by omega)
    · kernel_rfl

theorem ct_cols {T : TabV} (hO : T.tab.Ok) (a b : Int) (g1 : Nat) (l1 : List Bool) : ∀ (n i g2 : Nat) (j0 j1 j4 j5 j8 j9 j10 j11 j12 j13 j14 j15 j16 j17 j18 j19 j20 j21 j22 j23 j24 j25 j26 j27 j28 j31 j32 j33 j34 j35 j36 j37 j38 j39 j40 j41 j42 j43 j44 : AVal), i + n = T.tab.C →
    Goes (execT env (Try.f42.at [1, 1, 1, 0, 1, 0]) ⟨[j0, j1, .int .u8 b, .ptr 0 0 0 0, j4, j5, .ptr 1 0 0 0, .ptr 4 0 0 0, j8, j9, j10, j11, j12, j13, j14, j15, j16, j17, j18, j19, j20, j21, j22, j23, j24, j25, j26, j27, j28, .int .i64 T.tab.C, .int .i64 i, j31, j32, j33, j34, j35, j36, j37, j38, j39, j40, j41, j42, j43, j44], ctH T g1 g2 l1 (bitsL b i), [], 0, [7]⟩) fun e s =>
      e = .exit 2 ∧ ∃ (g2 : Nat), FrP 45 [(6, .ptr 1 0 0 0), (7, .ptr 4 0 0 0)] (ctH T g1 g2 l1 (bitsL b T.tab.C)) [] 0 [7] s := by
  have hC8 := hO.C8
  intro n
  induction n with
  | zero =>
    intro i g2; intros; rename_i hi
    have hd : decide ((i : Int) < (T.tab.C : Int)) = false := by simp; omega
    have : i = T.tab.C := by omega
    subst this
    simp only [go_sem, simprocAttr, Try.f42]
    rw [exec_loop]
    simp only [go_sem, simprocAttr, hd]
    exact ⟨g2, frP (by kernel_rfl)⟩
  | succ n ih =>
    intro i g2; intros; rename_i hi
    have hd : decide ((i : Int) < (T.tab.C : Int)) = true := by simp; omega
    obtain ⟨g2', ap⟩ := append_bool (H := ctH T g1 g2 l1 (bitsL b i)) (id := 3) (l := bitsL b i) (b := bitU b i) (cl := true) rfl (by rw [bitsL_length]; omega) 5 (ro := 0) (Nat.zero_le _)
    rw [← bitsL_succ] at ap
    have hb : decide (bitI b i = 1) = bitU b i := rfl
    have ih' := ih (i + 1) g2'
    simp only [ctH, boxT] at ap
    simp only [go_sem, simprocAttr, Try.f42, ctH, boxT] at ih' ⊢
    rw [exec_loop]
    simp only [go_sem, simprocAttr, hd, shr_u8, and_u8, hb, ap]
    rw [apart_ok]
    · simp only [go_sem, simprocAttr, ctH, wrap_succ (show i < 2 ^ 63 - 1 by omega)]
      exact ih' _ _ _ _ _ _ _ _ _ _ _ _ _ _ _ _ _ _ _ _ _ _ _ _ _ _ _ _ _ _ _ _ _ _ _ _ _ _ _ (by omega)
    · kernel_rfl

def bitC (t : Tab) (a b : Int) : CutA := ⟨false, 1, bitsL a t.R, false, 1, bitsL b t.C⟩
theorem bitC_wf {t : Tab} (hO : t.Ok) (a b : Int) : (bitC t a b).Wf := by
  have := hO.R8
  have := hO.C8
  exact ⟨.inr rfl, .inr rfl, by simp only [bitC, bitsL_length]; omega, by simp only [bitC, bitsL_length]; omega⟩

theorem cut_call {T : TabV} (hO : T.tab.Ok) (a b : Int) (ro : Nat) (H : Heap) (nx : Nat) : callT env 42 [T.v, .int .u8 a, .int .u8 b] ro H nx = some (.ret (bitC T.tab a b).v, .ups []) := by
  have hR1 := hO.R1
  have hC1 := hO.C1
  obtain ⟨e1, t1, hx1, hp1⟩ := ct_rows hO a b T.tab.R 0 0 _ _ _ _ _ _ _ _ _ _ _ _ _ _ _ _ _ _ _ _ _ _ _ _ _ _ _ _ _ _ _ _ _ _ _ _ _ _ (by omega)
  obtain ⟨rfl, g1, jp, rfl⟩ := hp1
  obtain ⟨e2, t2, hx2, hp2⟩ := ct_cols hO a b g1 (bitsL a T.tab.R) T.tab.C 0 0 _ _ _ _ _ _ _ _ _ _ _ _ _ _ _ _ _ _ _ _ _ _ _ _ _ _ _ _ _ _ _ _ _ _ _ _ _ _ _ (by omega)
  obtain ⟨rfl, g2, jq, rfl⟩ := hp2
  have s0 : ∀ a, bitsL a 0 = [] := fun _ => rfl
  have b0 : boolsV [] = [] := rfl
  have n1 : boolsV (bitsL a T.tab.R) ≠ [] := by
    intro h; have := congrArg List.length h
    rw [boolsV_length, bitsL_length] at this; exact absurd this (by show T.tab.R ≠ 0; omega)
  have n2 : boolsV (bitsL b T.tab.C) ≠ [] := by
    intro h; have := congrArg List.length h
    rw [boolsV_length, bitsL_length] at this; exact absurd this (by show T.tab.C ≠ 0; omega)
  simp only [go_sem, simprocAttr, Try.f42, s0, b0, accB_nil, accG_nil, ctH, boxT, List.length_nil, Int.natCast_zero, Int.ofNat_zero] at hx1
  simp only [go_sem, simprocAttr, Try.f42, s0, b0, accB_nil, accG_nil, ctH, boxT, List.length_nil, Int.natCast_zero, Int.ofNat_zero] at hx2
  have : ∃ H' : Heap, H'[2]? = some (accB 1 g1 (boolsV (bitsL a T.tab.R))) ∧ H'[3]? = some (accB 1 g2 (boolsV (bitsL b T.tab.C))) ∧ runT env 42 [T.v, .int .u8 a, .int .u8 b] [] 0 = some (.ret (.agg [.ref 2 (accG g1 (boolsV (bitsL a T.tab.R))) 0 (bitsL a T.tab.R).length false, .ref 3 (accG g2 (boolsV (bitsL b T.tab.C))) 0 (bitsL b T.tab.C).length false]), H') := by
    refine ⟨?_, ?_, ?_, ?_⟩
    case refine_4 =>
      rw [run_unfold fn42 rfl]
      simp only [go_sem, simprocAttr, Try.f42, virtual, List.length_map, show T.rows.l.length = T.tab.R from rfl, show T.cols.l.length = T.tab.C from rfl]
      rw [hx1]
      simp only [go_sem, simprocAttr, ctH, boxT, b0, accB_nil, accG_nil, List.length_map, show T.cols.l.length = T.tab.C from rfl]
      rw [hx2]
      simp only [go_sem, simprocAttr, ctH, boxT, unwind, modeEx, resultsOf, one]
      rfl
    · rfl
    · rfl
  obtain ⟨H', h6, h7, h⟩ := this
  have t1 : (boolsV (bitsL a T.tab.R)).take (bitsL a T.tab.R).length = boolsV (bitsL a T.tab.R) := List.take_of_length_le (by rw [boolsV_length]; exact Nat.le_refl _)
  have t2 : (boolsV (bitsL b T.tab.C)).take (bitsL b T.tab.C).length = boolsV (bitsL b T.tab.C) := List.take_of_length_le (by rw [boolsV_length]; exact Nat.le_refl _)
  have a1 : accB 1 g1 (boolsV (bitsL a T.tab.R)) = .cells g1 1 true (boolsV (bitsL a T.tab.R)) := if_neg n1
  have a2 : accB 1 g2 (boolsV (bitsL b T.tab.C)) = .cells g2 1 true (boolsV (bitsL b T.tab.C)) := if_neg n2
  have c1 : accG g1 (boolsV (bitsL a T.tab.R)) = g1 := if_neg n1
  have c2 : accG g2 (boolsV (bitsL b T.tab.C)) = g2 := if_neg n2
  rw [a1] at h6
  rw [a2] at h7
  rw [c1, c2] at h
  refine call_back (w := (bitC T.tab a b).v) rfl rfl rfl (by simp [underL, AVal.under, TabV.under]) h ?_ ((bitC T.tab a b).under 0) ro H nx
  simp [handBack, toLit, noRef, AVal.under, mapO, h6, h7, t1, t2, CutA.v, bitC, boolsV_length]
end Go.Proofs.Ytgfejpngfikjiaa.Tidy

namespace Go.Proofs.Ytgfejpngfikjiaa.Tidy
open Go

theorem mem_blk {C R : Nat} {c : CutA} {i k : Nat} (hi : i < R) (hk : k < C) : (i * C + k ∈ blkL C c R) ↔ (c.l1.getD i false && c.l2.getD k false) = true := by
  simp only [blkL, cutRow, List.mem_flatMap, List.mem_map, List.mem_filter, List.mem_range]
  constructor
  · rintro ⟨i', hi', k', ⟨hk', h⟩, e⟩
    have e1 : i' = i := by rw [← cell_div (i := i') hk', ← cell_div (i := i) hk, e]
    subst e1
    have e2 : k' = k := by omega
    subst e2
    exact h
  · intro h
    exact ⟨i, hi, k, ⟨hk, h⟩, rfl⟩

theorem not_blk {C R : Nat} {c : CutA} {j : Nat} (hj : R * C ≤ j) : j ∉ blkL C c R := by
  simp only [blkL, cutRow, List.mem_flatMap, List.mem_map, List.mem_filter, List.mem_range]
  rintro ⟨i', hi', k', ⟨hk', h⟩, e⟩
  have := cell_lt hi' hk'
  omega

theorem brings_blk (t : Tab) (c : CutA) (x : Nat → Nat → Int) : t.brings (blkL t.C c t.R) x = sumN t.R fun i => sumN t.C fun k => if c.l1.getD i false && c.l2.getD k false then x i k else 0 := by
  unfold Tab.brings brings
  rw [show t.net.n = t.R * t.C + t.R + t.C from rfl, net_sum]
  rw [sumN_zero (n := t.R) (f := fun i => pickG (blkL t.C c t.R) (t.R * t.C + i) * t.flow x (t.R * t.C + i)) fun i _ => by
      unfold pickG; rw [if_neg (not_blk (by omega))]; omega,
    sumN_zero (n := t.C) (f := fun k => pickG (blkL t.C c t.R) (t.R * t.C + t.R + k) * t.flow x (t.R * t.C + t.R + k)) fun i _ => by
      unfold pickG; rw [if_neg (not_blk (by omega))]; omega, Int.add_zero, Int.add_zero]
  refine sumN_congr fun i hi => sumN_congr fun k hk => ?_
  rw [t.flow_cell x hi hk]
  unfold pickG
  by_cases h : (c.l1.getD i false && c.l2.getD k false) = true
  · rw [if_pos ((mem_blk hi hk).2 h), if_pos h]; omega
  · rw [if_neg fun e => h ((mem_blk hi hk).1 e), if_neg h]; omega

theorem brings_total (t : Tab) (x : Nat → Nat → Int) : t.brings (rowsL t t.R) x = sumN t.R fun i => sumN t.C (x i) := by
  have m1 : ∀ j, j < t.R * t.C → j ∉ rowsL t t.R := by
    intro j hj h
    simp only [rowsL, List.mem_map, List.mem_range] at h
    obtain ⟨i, _, e⟩ := h
    omega
  have m2 : ∀ i, i < t.R → t.R * t.C + i ∈ rowsL t t.R := by
    intro i hi
    simp only [rowsL, List.mem_map, List.mem_range]
    exact ⟨i, hi, rfl⟩
  have m3 : ∀ k, t.R * t.C + t.R + k ∉ rowsL t t.R := by
    intro k h
    simp only [rowsL, List.mem_map, List.mem_range] at h
    obtain ⟨i, hi, e⟩ := h
    omega
  unfold Tab.brings brings
  rw [show t.net.n = t.R * t.C + t.R + t.C from rfl, net_sum]
  rw [sumN_zero (n := t.R) (f := fun i => sumN t.C fun k => pickG (rowsL t t.R) (i * t.C + k) * t.flow x (i * t.C + k)) fun i hi => sumN_zero fun k hk => by
      unfold pickG; rw [if_neg (m1 _ (cell_lt hi hk))]; omega,
    sumN_zero (n := t.C) (f := fun k => pickG (rowsL t t.R) (t.R * t.C + t.R + k) * t.flow x (t.R * t.C + t.R + k)) fun k _ => by
      unfold pickG; rw [if_neg (m3 k)]; omega, Int.add_zero, Int.zero_add]
  refine sumN_congr fun i hi => ?_
  rw [t.flow_row x hi]
  unfold pickG
  rw [if_pos (m2 i hi)]; omega

def EndsP (t : Tab) (μ : (Nat → Nat → Int) → Int) (x : Spn) : Prop := (∃ s, Fits t s ∧ μ s = x.lo) ∧ (∃ s, Fits t s ∧ μ s = x.hi) ∧ ∀ s, Fits t s → x.lo ≤ μ s ∧ μ s ≤ x.hi

theorem EndsP.of {t : Tab} {l : List Nat} {lo hi : Int} (h : IsEnds t.net l lo hi) {μ : (Nat → Nat → Int) → Int} (e : ∀ s, t.brings l s = μ s) : EndsP t μ ⟨lo, hi⟩ := by
  obtain ⟨⟨s1, h1, e1⟩, ⟨s2, h2, e2⟩, h3⟩ := isEnds_iff.1 h
  exact ⟨⟨s1, h1, by rw [← e, e1]⟩, ⟨s2, h2, by rw [← e, e2]⟩, fun s hs => by rw [← e]; exact h3 s hs⟩

theorem EndsP.unique {t : Tab} {μ ν : (Nat → Nat → Int) → Int} {x y : Spn} (h : EndsP t μ x) (h' : EndsP t ν y) (e : ∀ s, Fits t s → μ s = ν s) : x = y := by
  obtain ⟨⟨s1, a1, b1⟩, ⟨s2, a2, b2⟩, c⟩ := h
  obtain ⟨⟨s3, a3, b3⟩, ⟨s4, a4, b4⟩, c'⟩ := h'
  have e1 := c' s1 a1
  have e2 := c' s2 a2
  have e3 := c s3 a3
  have e4 := c s4 a4
  rw [← e _ a1] at e1
  rw [← e _ a2] at e2
  rw [e _ a3] at e3
  rw [e _ a4] at e4
  have q1 : x.lo = y.lo := by omega
  have q2 : x.hi = y.hi := by omega
  cases x; cases y
  simp only at q1 q2
  rw [q1, q2]

theorem EndsP.le {t : Tab} {μ : (Nat → Nat → Int) → Int} {x : Spn} (h : EndsP t μ x) : x.lo ≤ x.hi := by
  obtain ⟨⟨s1, a1, b1⟩, _, c⟩ := h
  have := c s1 a1
  omega

def blkM (t : Tab) (p q : Nat → Bool) (x : Nat → Nat → Int) : Int := sumN t.R fun i => sumN t.C fun k => if p i && q k then x i k else 0

theorem blkM_congr {t : Tab} {p p' q q' : Nat → Bool} (hp : ∀ i, i < t.R → p i = p' i) (hq : ∀ k, k < t.C → q k = q' k) (x : Nat → Nat → Int) : blkM t p q x = blkM t p' q' x :=
  sumN_congr fun i hi => sumN_congr fun k hk => by rw [hp i hi, hq k hk]

theorem blkM_row {t : Tab} {r : Nat} (hr : r < t.R) (x : Nat → Nat → Int) : blkM t (fun i => decide (i = r)) (fun _ => true) x = sumN t.C (x r) := by
  unfold blkM
  rw [← sumN_one hr (sumN t.C (x r))]
  refine sumN_congr fun i _ => ?_
  by_cases h : i = r
  · subst h; simp
  · simp only [h, decide_false, Bool.false_and, Bool.false_eq_true, if_false]
    exact sumN_zero fun _ _ => rfl
theorem blkM_col {t : Tab} {c : Nat} (hc : c < t.C) (x : Nat → Nat → Int) : blkM t (fun _ => true) (fun k => decide (k = c)) x = sumN t.R fun i => x i c := by
  unfold blkM
  refine sumN_congr fun i _ => ?_
  rw [← sumN_one hc (x i c)]
  refine sumN_congr fun k _ => ?_
  by_cases h : k = c
  · subst h; simp
  · simp [h]
theorem blkM_cell {t : Tab} {r c : Nat} (hr : r < t.R) (hc : c < t.C) (x : Nat → Nat → Int) : blkM t (fun i => decide (i = r)) (fun k => decide (k = c)) x = x r c := by
  unfold blkM
  rw [← sumN_one hr (x r c)]
  refine sumN_congr fun i _ => ?_
  by_cases h : i = r
  · subst h
    rw [if_pos rfl, ← sumN_one hc (x i c)]
    refine sumN_congr fun k _ => ?_
    by_cases h2 : k = c
    · subst h2; simp
    · simp [h2]
  · simp only [h, decide_false, Bool.false_and, Bool.false_eq_true, if_false]
    exact sumN_zero fun _ _ => rfl
end Go.Proofs.Ytgfejpngfikjiaa.Tidy

namespace Go.Proofs.Ytgfejpngfikjiaa.Tidy
open Go Go.IntWalk
set_option maxRecDepth 10000
set_option linter.unusedSimpArgs false
set_option maxHeartbeats 2000000

noncomputable def blkS (t : Tab) (c : CutA) : Int := if t.ok then (if canB t then (if fitC t c then 0 else 61) else 31) else 60

theorem block_run {T : TabV} (hT : T.Wf) {c : CutA} (hc' : c.Wf) : ∃ (v : AVal) (H' : Heap), runT env 32 [T.v, c.v] [] 0 = some (.ret v, H') ∧ EndsAns T.tab (blkS T.tab c) (blkL T.tab.C c T.tab.R) v := by
  rcases settled_call hT 0 [boxT T, .cells 0 2 false [c.v], .cells 0 2 true [.agg [.int .i64 0, .int .i64 0]]] 3 with ⟨hok, us, hc, X, rfl⟩ | ⟨hO, hcan, us, hc, X, rfl⟩ | ⟨hO, hcan, f, g, _, hin, hci, hc⟩
  · have ha : blkS T.tab c = 60 := by unfold blkS; rw [hok]; rfl
    rw [ha]
    have : ∃ H', runT env 32 [T.v, c.v] [] 0 = some (.ret (.tuple [.agg [.int .i64 0, .int .i64 0], .int .i64 60]), H') := by
      have hp := putU_end X [boxT T, .cells 0 2 false [c.v], .cells 0 2 true [.agg [.int .i64 0, .int .i64 0]]]
      simp only [boxT, List.length_cons, List.length_nil, Nat.zero_add, Nat.reduceAdd, List.cons_append, List.nil_append] at hc hp
      rw [run_unfold fn32 rfl]
      simp only [go_sem, simprocAttr, Try.f32, hc, hp, unwind, modeEx, resultsOf, one]
      exact ⟨_, rfl⟩
    obtain ⟨H', h⟩ := this
    exact ⟨_, _, h, .inl ⟨by decide, rfl⟩⟩
  · have hok := Tab.ok_iff.2 hO
    have ha : blkS T.tab c = 31 := by unfold blkS; rw [hok, hcan]; rfl
    rw [ha]
    have : ∃ H', runT env 32 [T.v, c.v] [] 0 = some (.ret (.tuple [.agg [.int .i64 0, .int .i64 0], .int .i64 31]), H') := by
      have hp := putU_end X [boxT T, .cells 0 2 false [c.v], .cells 0 2 true [.agg [.int .i64 0, .int .i64 0]]]
      simp only [boxT, List.length_cons, List.length_nil, Nat.zero_add, Nat.reduceAdd, List.cons_append, List.nil_append] at hc hp
      rw [run_unfold fn32 rfl]
      simp only [go_sem, simprocAttr, Try.f32, hc, hp, unwind, modeEx, resultsOf, one]
      exact ⟨_, rfl⟩
    obtain ⟨H', h⟩ := this
    exact ⟨_, _, h, .inl ⟨by decide, rfl⟩⟩
  · have hok := Tab.ok_iff.2 hO
    have hf := fits_call T c
    cases hfc : fitC T.tab c with
    | false =>
      have ha : blkS T.tab c = 61 := by unfold blkS; rw [hok, hcan, hfc]; rfl
      rw [ha]
      have : ∃ H', runT env 32 [T.v, c.v] [] 0 = some (.ret (.tuple [.agg [.int .i64 0, .int .i64 0], .int .i64 61]), H') := by
        simp only [setX, boxT, netB, arcB, cellP88] at hc
        rw [run_unfold fn32 rfl]
        simp only [go_sem, simprocAttr, Try.f32, hc, numbered, hf, hfc, unwind, modeEx, resultsOf, one]
        exact ⟨_, rfl⟩
      obtain ⟨H', h⟩ := this
      exact ⟨_, _, h, .inl ⟨by decide, rfl⟩⟩
    | true =>
      have ha : blkS T.tab c = 0 := by unfold blkS; rw [hok, hcan, hfc]; rfl
      rw [ha]
      obtain ⟨h1, h2⟩ := fitC_iff.1 hfc
      have hR8 := hO.R8
      have hC8 := hO.C8
      have hl := blkL_length T.tab.C c T.tab.R
      have hl2 : T.tab.R * T.tab.C ≤ 8 * 8 := Nat.mul_le_mul hR8 hC8
      obtain ⟨e1, t1, hx1, hp1⟩ := blk_outer hO hc' h1 h2 g f T.tab.R 0 0 _ _ _ _ _ _ _ _ _ _ _ _ _ _ _ _ _ _ _ _ _ _ _ _ _ _ _ _ _ _ _ _ _ _ _ _ _ _ _ _ _ _ _ _ _ _ _ _ _ _ _ _ _ _ _ _ _ (by omega)
      obtain ⟨rfl, gt, jp, rfl⟩ := hp1
      obtain ⟨sz, hsz, hle⟩ := lend_acc (H := blkH T c g f gt (blkL T.tab.C c T.tab.R)) (p := 6) (q := 8) (g := gt) (l := blkL T.tab.C c T.tab.R) rfl
      obtain ⟨lo, hi, he, f', ec⟩ := ends_call (gn := g) (cl := false) (sz := sz) (l := blkL T.tab.C c T.tab.R) (netOk_tab hO) (net_pos hO) hin hci hsz (fun j hj => by
        simp only [blkL, cutRow, List.mem_flatMap, List.mem_map, List.mem_filter, List.mem_range] at hj
        obtain ⟨i, hi, k, ⟨hk, _⟩, rfl⟩ := hj
        have := cell_lt hi hk
        show _ < T.tab.R * T.tab.C + T.tab.R + T.tab.C
        omega) (by omega)
      have hA : NetAt (blkH T c g f gt (blkL T.tab.C c T.tab.R)) 6 5 T.tab.R T.tab.C g T.tab.net.n (arcB g T.tab.net f) := ⟨rfl, rfl, by decide, flat_arcB _ _ _⟩
      have ec := ec hA hle (by simp) 9
      have e0 : blkL T.tab.C c 0 = [] := rfl
      have en : natsV [] = [] := rfl
      simp only [setX, boxT, netB, arcB, cellP88] at hc
      simp only [blkH, boxT, netB, arcB, cellP88] at ec
      simp only [go_sem, simprocAttr, Try.f32, blkH, boxT, netB, arcB, cellP88, e0, en, accB_nil, accG_nil, List.length_nil, Int.natCast_zero, Int.ofNat_zero] at hx1
      have : ∃ H', runT env 32 [T.v, c.v] [] 0 = some (.ret (.tuple [.agg [.int .i64 lo, .int .i64 hi], .int .i64 0]), H') := by
        rw [run_unfold fn32 rfl]
        simp only [go_sem, simprocAttr, Try.f32, hc, numbered, hf, hfc]
        rw [hx1]
        simp only [go_sem, simprocAttr, blkH, boxT, netB, arcB, cellP88, ec, unwind, modeEx, resultsOf, one]
        exact ⟨_, rfl⟩
      obtain ⟨H', h⟩ := this
      exact ⟨_, _, h, .inr ⟨rfl, hO, lo, hi, he, rfl⟩⟩

theorem block_call {T : TabV} (hT : T.Wf) {c : CutA} (hc : c.Wf) : ∃ v, EndsAns T.tab (blkS T.tab c) (blkL T.tab.C c T.tab.R) v ∧ ∀ ro H nx, callT env 32 [T.v, c.v] ro H nx = some (.ret v, .ups []) := by
  obtain ⟨v, H', hr, hv⟩ := block_run hT hc
  exact ⟨v, hv, fun ro H nx => call_pure rfl rfl rfl (tc_pure T c) hr hv.pure.2 ro H nx⟩

set_option maxRecDepth 10000
set_option maxHeartbeats 2000000

def oneI (r : Nat) : Int := IntKind.u8.wrap (1 * 2 ^ (min (r : Int).toNat 8))
theorem shl_b (r : Nat) (z : AVal) : binOp env .shl 5 ⟨.int .u8, 1, 1, z⟩ (.int .u8 1) (.int .i64 (r : Int)) = some (.int .u8 (oneI r)) := by
  simp only [binOp]
  rw [if_neg (by omega)]
  rfl
theorem one_all : ∀ r, r < 8 → (0 ≤ oneI r ∧ oneI r < 256) ∧ ∀ i, i < 8 → bitU (oneI r) i = decide (i = r) := by decide +kernel
theorem all_bits : ∀ i, i < 8 → bitU 255 i = true := by decide +kernel
theorem EndsAns.zero {t : Tab} {code : Int} {l : List Nat} {v : AVal} (h : EndsAns t code l v) (hc : code = 0) : ∃ lo hi, IsEnds t.net l lo hi ∧ v = .tuple [.agg [.int .i64 lo, .int .i64 hi], .int .i64 0] := by
  rcases h with ⟨h1, _⟩ | ⟨_, _, lo, hi, h2, rfl⟩
  · exact absurd hc h1
  · exact ⟨lo, hi, h2, rfl⟩

theorem blkM_bd {t : Tab} (hO : t.Ok) {s : Nat → Nat → Int} (h : Fits t s) (p q : Nat → Bool) : 0 ≤ blkM t p q s ∧ blkM t p q s ≤ 2 ^ 36 := by
  have hR8 := hO.R8
  have hC8 := hO.C8
  have h1 : ∀ i, i < t.R → 0 ≤ (sumN t.C fun k => if p i && q k then s i k else 0) ∧ (sumN t.C fun k => if p i && q k then s i k else 0) ≤ 2 ^ 33 := fun i hi => by
    have := sumN_bd (n := t.C) (f := fun k => if p i && q k then s i k else 0) (B := 2 ^ 30) fun k hk => by
      have h2 := h.cell i k hi hk
      have h3 := hO.cell_ok hi hk
      cases p i && q k <;> simp <;> omega
    omega
  have := sumN_bd (n := t.R) (f := fun i => sumN t.C fun k => if p i && q k then s i k else 0) (B := 2 ^ 33) h1
  unfold blkM
  omega

theorem EndsP.bd {t : Tab} (hO : t.Ok) {p q : Nat → Bool} {x : Spn} (h : EndsP t (blkM t p q) x) : (0 ≤ x.lo ∧ x.lo ≤ 2 ^ 36) ∧ 0 ≤ x.hi ∧ x.hi ≤ 2 ^ 36 := by
  obtain ⟨⟨s1, a1, b1⟩, ⟨s2, a2, b2⟩, _⟩ := h
  have c1 := blkM_bd hO a1 p q
  have c2 := blkM_bd hO a2 p q
  omega

theorem blk_ends {T : TabV} (hT : T.Wf) (hO : T.tab.Ok) (hcan : canB T.tab = true) (a b : Int) : ∃ x : Spn, EndsP T.tab (blkM T.tab (bitU a) (bitU b)) x ∧ ∀ ro H nx, callT env 32 [T.v, (bitC T.tab a b).v] ro H nx = some (.ret (.tuple [.agg [.int .i64 x.lo, .int .i64 x.hi], .int .i64 0]), .ups []) := by
  obtain ⟨v, hv, hc⟩ := block_call hT (bitC_wf hO a b)
  have hf : fitC T.tab (bitC T.tab a b) = true := fitC_iff.2 ⟨bitsL_length _ _, bitsL_length _ _⟩
  obtain ⟨lo, hi, he, rfl⟩ := hv.zero (by unfold blkS; rw [Tab.ok_iff.2 hO, hcan, hf]; rfl)
  refine ⟨⟨lo, hi⟩, EndsP.of he fun s => ?_, hc⟩
  rw [brings_blk]
  exact blkM_congr (fun i hi => bitsL_getD hi) (fun k hk => bitsL_getD hk) s

set_option maxRecDepth 10000
set_option maxHeartbeats 4000000

def cutS (c : CutA) (f : Nat → Nat → Int) (i k : Nat) : Int := sumN k fun k => if c.l1.getD i false && c.l2.getD k false then f i k else 0
theorem cutS_succ (c : CutA) (f : Nat → Nat → Int) (i k : Nat) : cutS c f i (k + 1) = cutS c f i k + if c.l1.getD i false && c.l2.getD k false then f i k else 0 := rfl

theorem cutS_bd {t : Tab} (hO : t.Ok) {f : Nat → Nat → Int} (hf : Fits t f) (c : CutA) {i : Nat} (hi : i < t.R) : ∀ {k : Nat}, k ≤ t.C → 0 ≤ cutS c f i k ∧ cutS c f i k ≤ k * 2 ^ 30 := by
  intro k hk
  have := sumN_bd (n := k) (f := fun k => if c.l1.getD i false && c.l2.getD k false then f i k else 0) (B := 2 ^ 30) fun k' hk' => by
    have h2 := hf.cell i k' hi (by omega)
    have h3 := hO.cell_ok hi (show k' < t.C by omega)
    cases c.l1.getD i false && c.l2.getD k' false <;> simp <;> omega
  unfold cutS
  omega

theorem sum_inner {T : TabV} {M : MatV} (hO : T.tab.Ok) (hM : M.Wf) (hD : DimsOk T M) (hf : Fits T.tab (matOf M.m)) {c : CutA} (hc : c.Wf) (h1 : c.l1.length = T.tab.R) (h2 : c.l2.length = T.tab.C) {i : Nat} (hi : i < T.tab.R) {b : SlI} (hb : M.rows[i]? = some b) {a : Int} (ha : 0 ≤ a ∧ a ≤ i * (2 ^ 30 * 8)) : ∀ (n k : Nat) (j0 j1 j2 j4 j7 j8 j9 j13 j14 j15 j16 j20 j21 j22 j23 j24 j25 j26 j27 j28 j29 j30 j31 j32 j33 j34 j35 j36 j37 j38 j39 j40 j41 j42 j43 j44 j45 j46 j47 j48 j49 j50 j51 j52 j53 j54 j55 : AVal), k + n = T.tab.C →
    Goes (execT env (Try.f73.at [1, 1, 0, 1, 0, 0, 1, 1, 0, 0, 1, 1, 0]) ⟨[j0, j1, j2, .ptr 0 0 0 0, j4, .int .i64 (a + cutS c (matOf M.m) i k), .int .i64 i, j7, j8, j9, .lit M.cl M.sz (M.rows.map SlI.v), .int .i64 T.tab.R, .int .i64 i, j13, j14, j15, j16, .lit b.cl b.sz (b.l.map (AVal.int .i64)), .int .i64 T.tab.C, .int .i64 k, j20, j21, j22, j23, j24, j25, j26, j27, j28, j29, j30, j31, j32, j33, j34, j35, j36, j37, j38, j39, j40, j41, j42, j43, j44, j45, j46, j47, j48, j49, j50, j51, j52, j53, j54, j55], [.cells 0 2 false [c.v]], [], 0, []⟩) fun e s =>
      e = .exit 2 ∧ FrP 56 [(3, .ptr 0 0 0 0), (5, .int .i64 (a + cutS c (matOf M.m) i T.tab.C)), (10, .lit M.cl M.sz (M.rows.map SlI.v)), (11, .int .i64 T.tab.R), (12, .int .i64 i)] ([.cells 0 2 false [c.v]]) [] 0 [] s := by
  have hR8 := hO.R8
  have hC8 := hO.C8
  intro n
  induction n with
  | zero =>
    intro k; intros; rename_i hk
    have hd : decide ((k : Int) < (T.tab.C : Int)) = false := by simp; omega
    have : k = T.tab.C := by omega
    subst this
    simp only [go_sem, simprocAttr, Try.f73]
    rw [exec_loop]
    simp only [go_sem, simprocAttr, hd]
    exact frP (by kernel_rfl)
  | succ n ih =>
    intro k; intros; rename_i hk
    have hkC : k < T.tab.C := by omega
    have hd : decide ((k : Int) < (T.tab.C : Int)) = true := by simp; omega
    have k0 : (0 : Int) ≤ (k : Int) := by omega
    have i0 : (0 : Int) ≤ (i : Int) := by omega
    have l1 : decide ((i : Int) < (c.l1.length : Int)) = true := by simp; omega
    have l2 : decide ((k : Int) < (c.l2.length : Int)) = true := by simp; omega
    have n1 := boolsV_length c.l1
    have n2 := boolsV_length c.l2
    have hz1 := sz_of hc.s1 (List.getElem?_eq_getElem (show i < c.l1.length by omega))
    have hz2 := sz_of hc.s2 (List.getElem?_eq_getElem (show k < c.l2.length by omega))
    have g1 := boolsV_get (l := c.l1) (i := i) (by omega)
    have g2 := boolsV_get (l := c.l2) (i := k) (by omega)
    obtain ⟨b', _, hb', hb1, hb2, hb3, hb4, _⟩ := MatV.at hM hD hi hkC
    rw [hb] at hb'; cases hb'
    have e := cutS_succ c (matOf M.m) i k
    have b1 := cutS_bd hO hf c hi (k := k + 1) (by omega)
    have hi8 : (i : Int) * (2 ^ 30 * 8) ≤ 8 * (2 ^ 30 * 8) := by omega
    have hw : IntKind.i64.wrap (a + cutS c (matOf M.m) i (k + 1)) = a + cutS c (matOf M.m) i (k + 1) := i64_in _ (by omega)
    have ih' := ih (k + 1)
    cases q1 : c.l1.getD i false <;> cases q2 : c.l2.getD k false <;> rw [q1] at g1 e <;> rw [q2] at g2 e <;>
      simp only [Bool.and_true, Bool.and_false, Bool.and_self, Bool.false_eq_true, if_false, if_true, Int.add_zero] at e <;>
      rw [e] at ih' hw <;> (try rw [← Int.add_assoc] at ih' hw) <;>
      simp only [go_sem, simprocAttr, Try.f73, hb3, hb4] at ih' ⊢ <;>
      rw [exec_loop] <;>
      simp only [go_sem, simprocAttr, hd, k0, i0, Int.toNat_natCast, l1, l2, n1, n2, hz1, hz2, g1, g2, hb2, hb4, hw, wrap_succ (show k < 2 ^ 63 - 1 by omega)] <;>
      exact ih' _ _ _ _ _ _ _ _ _ _ _ _ _ _ _ _ _ _ _ _ _ _ _ _ _ _ _ _ _ _ _ _ _ _ _ _ _ _ _ _ _ _ _ _ _ _ _ (by omega)

def cutT (c : CutA) (f : Nat → Nat → Int) (C n : Nat) : Int := sumN n fun i => cutS c f i C
theorem cutT_succ (c : CutA) (f : Nat → Nat → Int) (C n : Nat) : cutT c f C (n + 1) = cutT c f C n + cutS c f n C := rfl
theorem cutT_bd {t : Tab} (hO : t.Ok) {f : Nat → Nat → Int} (hf : Fits t f) (c : CutA) : ∀ {n : Nat}, n ≤ t.R → 0 ≤ cutT c f t.C n ∧ cutT c f t.C n ≤ n * (2 ^ 30 * 8) := by
  intro n hn
  have := sumN_bd (n := n) (f := fun i => cutS c f i t.C) (B := 2 ^ 30 * 8) fun i hi => by
    have := cutS_bd hO hf c (show i < t.R by omega) (Nat.le_refl t.C)
    have hC8 := hO.C8
    omega
  unfold cutT
  omega

theorem sum_outer {T : TabV} {M : MatV} (hO : T.tab.Ok) (hM : M.Wf) (hD : DimsOk T M) (hf : Fits T.tab (matOf M.m)) {c : CutA} (hc : c.Wf) (h1 : c.l1.length = T.tab.R) (h2 : c.l2.length = T.tab.C) : ∀ (n i : Nat) (j0 j1 j2 j4 j6 j7 j8 j9 j13 j14 j15 j16 j17 j18 j19 j20 j21 j22 j23 j24 j25 j26 j27 j28 j29 j30 j31 j32 j33 j34 j35 j36 j37 j38 j39 j40 j41 j42 j43 j44 j45 j46 j47 j48 j49 j50 j51 j52 j53 j54 j55 : AVal), i + n = T.tab.R →
    Goes (execT env (Try.f73.at [1, 1, 0, 1, 0]) ⟨[j0, j1, j2, .ptr 0 0 0 0, j4, .int .i64 (cutT c (matOf M.m) T.tab.C i), j6, j7, j8, j9, .lit M.cl M.sz (M.rows.map SlI.v), .int .i64 T.tab.R, .int .i64 i, j13, j14, j15, j16, j17, j18, j19, j20, j21, j22, j23, j24, j25, j26, j27, j28, j29, j30, j31, j32, j33, j34, j35, j36, j37, j38, j39, j40, j41, j42, j43, j44, j45, j46, j47, j48, j49, j50, j51, j52, j53, j54, j55], [.cells 0 2 false [c.v]], [], 0, []⟩) fun e s =>
      e = .exit 0 ∧ FrP 56 [(5, .int .i64 (cutT c (matOf M.m) T.tab.C T.tab.R))] ([.cells 0 2 false [c.v]]) [] 0 [] s := by
  have hR8 := hO.R8
  have hC8 := hO.C8
  have hC1 := hO.C1
  intro n
  induction n with
  | zero =>
    intro i; intros; rename_i hi
    have hd : decide ((i : Int) < (T.tab.R : Int)) = false := by simp; omega
    have : i = T.tab.R := by omega
    subst this
    simp only [go_sem, simprocAttr, Try.f73]
    rw [exec_loop]
    simp only [go_sem, simprocAttr, hd]
    exact frP (by kernel_rfl)
  | succ n ih =>
    intro i; intros; rename_i hi
    have hiR : i < T.tab.R := by omega
    have hd : decide ((i : Int) < (T.tab.R : Int)) = true := by simp; omega
    have i0 : (0 : Int) ≤ (i : Int) := by omega
    obtain ⟨b, hbm, hb, hb1, _, hb3, hb4, hb5⟩ := MatV.at hM hD hiR hC1
    have hbl : (b.l.map (AVal.int .i64)).length = T.tab.C := by rw [List.length_map, hb5]
    have ih' := ih (i + 1)
    rw [cutT_succ] at ih'
    obtain ⟨ex, st, hx, hp⟩ := sum_inner hO hM hD hf hc h1 h2 hiR hb (cutT_bd hO hf c (Nat.le_of_lt hiR)) T.tab.C 0 _ _ _ _ _ _ _ _ _ _ _ _ _ _ _ _ _ _ _ _ _ _ _ _ _ _ _ _ _ _ _ _ _ _ _ _ _ _ _ _ _ _ _ _ _ _ _ (by omega)
    obtain ⟨rfl, jp, rfl⟩ := hp
    have z : cutS c (matOf M.m) i 0 = 0 := rfl
    simp only [go_sem, simprocAttr, Try.f73, z, Int.add_zero, hb3, hb4, Int.ofNat_zero, Int.natCast_zero] at hx
    simp only [go_sem, simprocAttr, Try.f73, hb3] at ih' ⊢
    rw [exec_loop]
    simp only [go_sem, simprocAttr, hd, i0, Int.toNat_natCast, hb1, hb3, hb4, hbl, hb5, List.length_map]
    rw [hx]
    simp only [go_sem, simprocAttr, trunc, wrap_succ (show i < 2 ^ 63 - 1 by omega)]
    exact ih' _ _ _ _ _ _ _ _ _ _ _ _ _ _ _ _ _ _ _ _ _ _ _ _ _ _ _ _ _ _ _ _ _ _ _ _ _ _ _ _ _ _ _ _ _ _ _ _ _ _ _ (by omega)

theorem sum_call {T : TabV} {M : MatV} (hO : T.tab.Ok) (hM : M.Wf) (hD : DimsOk T M) (hf : Fits T.tab (matOf M.m)) {c : CutA} (hc : c.Wf) (h1 : c.l1.length = T.tab.R) (h2 : c.l2.length = T.tab.C) (ro : Nat) (H : Heap) (nx : Nat) : callT env 73 [M.v, c.v] ro H nx = some (.ret (.int .i64 (cutT c (matOf M.m) T.tab.C T.tab.R)), .ups []) := by
  have : ∃ H', runT env 73 [M.v, c.v] [] 0 = some (.ret (.int .i64 (cutT c (matOf M.m) T.tab.C T.tab.R)), H') := by
    obtain ⟨ex, st, hx, hp⟩ := sum_outer hO hM hD hf hc h1 h2 T.tab.R 0 _ _ _ _ _ _ _ _ _ _ _ _ _ _ _ _ _ _ _ _ _ _ _ _ _ _ _ _ _ _ _ _ _ _ _ _ _ _ _ _ _ _ _ _ _ _ _ _ _ _ _ (by omega)
    obtain ⟨rfl, jp, rfl⟩ := hp
    have z : cutT c (matOf M.m) T.tab.C 0 = 0 := rfl
    have hl := hD.len
    rw [run_unfold fn73 rfl]
    simp only [go_sem, simprocAttr, Try.f73, z, Int.ofNat_zero, Int.natCast_zero] at hx
    simp only [go_sem, simprocAttr, Try.f73, MatV.v, List.length_map, hl]
    rw [hx]
    simp only [go_sem, simprocAttr, unwind, modeEx, resultsOf, one]
    exact ⟨_, rfl⟩
  obtain ⟨H', h⟩ := this
  exact call_pure rfl rfl rfl (by simp only [underL, MatV.under, CutA.under, Bool.and_self]) h rfl ro H nx

theorem sum_bits {T : TabV} {M : MatV} (hO : T.tab.Ok) (hM : M.Wf) (hD : DimsOk T M) (hf : Fits T.tab (matOf M.m)) (a b : Int) (ro : Nat) (H : Heap) (nx : Nat) : callT env 73 [M.v, (bitC T.tab a b).v] ro H nx = some (.ret (.int .i64 (blkM T.tab (bitU a) (bitU b) (matOf M.m))), .ups []) := by
  rw [sum_call hO hM hD hf (bitC_wf hO a b) (bitsL_length _ _) (bitsL_length _ _)]
  congr 4
  exact blkM_congr (fun i hi => bitsL_getD hi) (fun k hk => bitsL_getD hk) (matOf M.m)
end Go.Proofs.Ytgfejpngfikjiaa.Tidy

namespace Go.Proofs.Ytgfejpngfikjiaa.Tidy
open Go

def apartW (bf : Array Nat) : List Foot → Bool
  | [] => true
  | a :: l => (l.all fun b => (a.writes.isEmpty && b.writes.isEmpty) || (bf.getD b.i 0).testBit a.i) && apartW bf l
theorem apart_of_W {bf : Array Nat} : ∀ {l : List Foot}, apartW bf l = true → apart bf l = true
  | [], _ => rfl
  | a :: l, h => by
    simp only [apartW, Bool.and_eq_true, List.all_eq_true] at h
    simp only [apart, Bool.and_eq_true, List.all_eq_true]
    refine ⟨fun b hb => ?_, apart_of_W h.2⟩
    have := h.1 b hb
    rw [Bool.or_eq_true] at this ⊢
    rcases this with h1 | h1
    · left
      simp only [Bool.and_eq_true, List.isEmpty_iff] at h1
      simp [clash, meets, h1.1, h1.2]
    · exact .inr h1

abbrev RowD := Nat × List AVal

def rowT (sz : Nat) : Nat → List RowD → Heap
  | _, [] => []
  | p, r :: rs => .cells r.1 sz true r.2 :: .cells 0 1 false [.ref p r.1 0 r.2.length false] :: rowT sz (p + 2) rs
def rowR : Nat → List RowD → List AVal
  | _, [] => []
  | p, r :: rs => .ref p r.1 0 r.2.length false :: rowR (p + 2) rs

theorem rowT_length (sz : Nat) : ∀ (rs : List RowD) (p : Nat), (rowT sz p rs).length = 2 * rs.length
  | [], _ => rfl
  | r :: rs, p => by simp only [rowT, List.length_cons, rowT_length sz rs]; omega
theorem rowR_length : ∀ (rs : List RowD) (p : Nat), (rowR p rs).length = rs.length
  | [], _ => rfl
  | r :: rs, p => by simp only [rowR, List.length_cons, rowR_length rs]
theorem rowT_snoc (sz : Nat) (r : RowD) : ∀ (rs : List RowD) (p : Nat), rowT sz p (rs ++ [r]) = rowT sz p rs ++ [.cells r.1 sz true r.2, .cells 0 1 false [.ref (p + 2 * rs.length) r.1 0 r.2.length false]]
  | [], p => rfl
  | x :: rs, p => by
    simp only [List.cons_append, rowT, rowT_snoc sz r rs, List.length_cons]
    rw [show p + 2 + 2 * rs.length = p + 2 * (rs.length + 1) by omega]
theorem rowR_snoc (r : RowD) : ∀ (rs : List RowD) (p : Nat), rowR p (rs ++ [r]) = rowR p rs ++ [.ref (p + 2 * rs.length) r.1 0 r.2.length false]
  | [], p => rfl
  | x :: rs, p => by
    simp only [List.cons_append, rowR, rowR_snoc r rs, List.length_cons]
    rw [show p + 2 + 2 * rs.length = p + 2 * (rs.length + 1) by omega]
theorem rowT_get (sz : Nat) : ∀ (rs : List RowD) (p i : Nat) (r : RowD), rs[i]? = some r → (rowT sz p rs)[2 * i]? = some (.cells r.1 sz true r.2)
  | [], _, i, r, h => by simp at h
  | x :: rs, p, 0, r, h => by simp at h; subst h; rfl
  | x :: rs, p, i + 1, r, h => by
    simp only [List.getElem?_cons_succ] at h
    have := rowT_get sz rs (p + 2) i r h
    rw [show 2 * (i + 1) = 2 * i + 1 + 1 by omega]
    simpa [rowT] using this
theorem rowR_get : ∀ (rs : List RowD) (p i : Nat) (r : RowD), rs[i]? = some r → (rowR p rs)[i]? = some (.ref (p + 2 * i) r.1 0 r.2.length false)
  | [], _, i, r, h => by simp at h
  | x :: rs, p, 0, r, h => by simp at h; subst h; rfl
  | x :: rs, p, i + 1, r, h => by
    simp only [List.getElem?_cons_succ] at h
    have := rowR_get rs (p + 2) i r h
    rw [show p + 2 * (i + 1) = p + 2 + 2 * i by omega]
    simpa [rowR] using this

def accR (g p : Nat) (rs : List RowD) : Blk := if rs = [] then .cells 0 0 false [] else .cells g 1 false (rowR p rs)
def gR (g : Nat) (rs : List RowD) : Nat := if rs = [] then 0 else g
theorem accR_nil (g p : Nat) : accR g p [] = .cells 0 0 false [] := rfl
theorem gR_nil (g : Nat) : gR g [] = 0 := rfl

theorem append_row {t e n m : Nat} {z : AVal} {te : TI} (ht : env.ti t = some ⟨.slice e, n, m, z⟩) (he : env.ti e = some te) (hz : te.sz = 1 ∧ te.bytes = 24 ∧ te.zero.cellsOf.length = 1 ∧ te.zero.isTuple = false) (hfl : flatTy env 8 e = false)
    {H : Heap} {q j g p : Nat} {rs : List RowD} {r : RowD} {cl : Bool} (hH : H[q]? = some (accR g p rs)) (hj : H[j]? = some (.cells 0 1 false [.ref (p + 2 * rs.length) r.1 0 r.2.length false])) (hb : rs.length < 2 ^ 20) (nx : Nat) {ro : Nat} (hro : ro ≤ q) :
    ∃ g', appendOp env ro nx t (.ref q (gR g rs) 0 rs.length false) (.ref j 0 0 1 cl) H = some (.ref q (gR g' (rs ++ [r])) 0 (rs ++ [r]).length false, [(q, accR g' p (rs ++ [r]))]) := by
  have hne : ∀ l : List RowD, l ++ [r] ≠ [] := by simp
  obtain ⟨z1, z2, z3, z4⟩ := hz
  have hel : elems H (.ref j 0 0 1 cl) = some (1, [.ref (p + 2 * rs.length) r.1 0 r.2.length false]) := by simp [elems, hj]
  by_cases h : rs = []
  · subst h
    refine ⟨1, ?_⟩
    simp only [List.length_nil] at hel
    simp only [accR, gR, if_true, List.nil_append] at hH ⊢
    simp [appendOp, ht, he, hel, z1, z2, z3, z4, hH, hfl, hro, rowR, maxBytes]
  · have hgr := append_ref (E := env) (ro := ro) (nx := nx) (t := t) (e := e) (n := n) (m := m) (z := z) (te := te) (H := H) (id := q) (g := g) (len := rs.length) (x := .ref j 0 0 1 cl) (nsz := 1) (new := [.ref (p + 2 * rs.length) r.1 0 r.2.length false]) (fl := false) (bs := rowR p rs) ht he hel ⟨by omega, by omega, z4⟩ z1.symm (by simp)
      (by rw [hH, accR, if_neg h, z1]) (rowR_length rs p) (List.length_pos_iff.2 h) hro (by rw [z2]; simp only [List.length_singleton, maxBytes]; omega) (fun h => by cases h)
    refine ⟨g + 1, ?_⟩
    simp only [gR, if_neg h, if_neg (hne rs), accR]
    rw [hgr, z1, rowR_snoc]
    simp

def rwH (A B : Heap) (g sz : Nat) (rs : List RowD) : Heap := A ++ (accR g (A.length + 1 + B.length) rs :: (B ++ rowT sz (A.length + 1 + B.length) rs))

section
variable {A B : Heap} {g sz : Nat} {rs : List RowD}
theorem rwH_len : (rwH A B g sz rs).length = A.length + 1 + B.length + 2 * rs.length := by
  simp only [rwH, List.length_append, List.length_cons, rowT_length]; omega
theorem rwH_acc (Z : Heap) : (rwH A B g sz rs ++ Z)[A.length]? = some (accR g (A.length + 1 + B.length) rs) := by
  simp [rwH]
theorem rwH_A (Z : Heap) {i : Nat} (h : i < A.length) : (rwH A B g sz rs ++ Z)[i]? = A[i]? := by
  unfold rwH
  rw [List.append_assoc, List.getElem?_append_left h]
theorem rwH_row (Z : Heap) {i : Nat} {r : RowD} (h : rs[i]? = some r) : (rwH A B g sz rs ++ Z)[A.length + 1 + B.length + 2 * i]? = some (.cells r.1 sz true r.2) := by
  have hi : i < rs.length := (List.getElem?_eq_some_iff.1 h).1
  have hl := rowT_length sz rs (A.length + 1 + B.length)
  unfold rwH
  rw [List.append_assoc, List.getElem?_append_right (by omega), show A.length + 1 + B.length + 2 * i - A.length = B.length + 2 * i + 1 by omega, List.cons_append, List.getElem?_cons_succ, List.append_assoc, List.getElem?_append_right (by omega), show B.length + 2 * i - B.length = 2 * i by omega, List.getElem?_append_left (by omega)]
  exact rowT_get sz rs _ i r h
theorem rwH_push {r : RowD} (g' : Nat) : ((rwH A B g sz rs ++ [Blk.cells r.1 sz true r.2]) ++ [Blk.cells 0 1 false [.ref (A.length + 1 + B.length + 2 * rs.length) r.1 0 r.2.length false]]).set A.length (accR g' (A.length + 1 + B.length) (rs ++ [r])) = rwH A B g' sz (rs ++ [r]) := by
  unfold rwH
  rw [List.append_assoc, List.append_assoc, List.set_append_right _ _ (by omega), Nat.sub_self, List.cons_append, List.set_cons_zero, rowT_snoc]
  simp
theorem rwH_trunc {r : RowD} {m : Nat} (hm : m = A.length + 1 + B.length + 2 * rs.length) (T : List AVal) (ro : Nat) (V : List Nat) : trunc m ⟨T, rwH A B g sz (rs ++ [r]), [], ro, V⟩ = ⟨T, rwH A B g sz (rs ++ [r]), [], ro, V⟩ := by
  have hr : rs ++ [r] ≠ [] := by simp
  unfold trunc
  have h1 : ¬ (rwH A B g sz (rs ++ [r])).length ≤ m := by rw [rwH_len, List.length_append, List.length_singleton]; omega
  have h2 : ((rwH A B g sz (rs ++ [r])).take m).all (underB m) = false := by
    cases h : ((rwH A B g sz (rs ++ [r])).take m).all (underB m) with
    | false => rfl
    | true =>
      have h3 : ((rwH A B g sz (rs ++ [r])).take m)[A.length]? = some (.cells g 1 false (rowR (A.length + 1 + B.length) (rs ++ [r]))) := by
        rw [List.getElem?_take, if_pos (by omega)]
        have := rwH_acc (A := A) (B := B) (g := g) (sz := sz) (rs := rs ++ [r]) []
        rw [List.append_nil] at this
        rw [this, accR, if_neg hr]
      have h4 := List.all_eq_true.1 h _ (List.mem_of_getElem? h3)
      simp only [underB, Bool.false_or] at h4
      have h5 : (rowR (A.length + 1 + B.length) (rs ++ [r]))[rs.length]? = some (.ref (A.length + 1 + B.length + 2 * rs.length) r.1 0 r.2.length false) := rowR_get _ _ _ _ (by simp)
      have h6 := underL_mem h4 _ (List.mem_of_getElem? h5)
      simp only [AVal.under, decide_eq_true_eq] at h6
      omega
  simp only [h1, if_false, h2, Bool.false_and, Bool.false_eq_true]
end

theorem trunc_keep {m : Nat} {T : List AVal} {H : Heap} {df : List (Nat × List AVal)} {ro : Nat} {V : List Nat} {i g sz : Nat} {es : List AVal} {p g' o n : Nat} {cl : Bool} (hi : i < m) (hb : H[i]? = some (.cells g sz false es)) (hr : AVal.ref p g' o n cl ∈ es) (hp : m ≤ p) : trunc m ⟨T, H, df, ro, V⟩ = ⟨T, H, df, ro, V⟩ := by
  unfold trunc
  by_cases h1 : H.length ≤ m
  · simp only [h1, if_true]
  · have h2 : (H.take m).all (underB m) = false := by
      cases h : (H.take m).all (underB m) with
      | false => rfl
      | true =>
        have h3 : (H.take m)[i]? = some (.cells g sz false es) := by rw [List.getElem?_take, if_pos hi, hb]
        have h4 := List.all_eq_true.1 h _ (List.mem_of_getElem? h3)
        simp only [underB, Bool.false_or] at h4
        have h5 := underL_mem h4 _ hr
        simp only [AVal.under, decide_eq_true_eq] at h5
        omega
    simp only [h1, if_false, h2, Bool.false_and, Bool.false_eq_true]

theorem mapO_rows {H : Heap} {ok : Nat → Bool} {sz n : Nat} : ∀ (rs : List RowD) (p : Nat), (∀ i r, rs[i]? = some r → H[p + 2 * i]? = some (.cells r.1 sz true r.2)) → (∀ j, p ≤ j → ok j = true) → mapO (toLit ok H (n + 1)) (rowR p rs) = some (rs.map fun r => .lit false sz r.2)
  | [], _, _, _ => rfl
  | r :: rs, p, h, hok => by
    have h0 := h 0 r rfl
    have ih := mapO_rows (H := H) (ok := ok) (sz := sz) (n := n) rs (p + 2) (fun i x hx => by
      have := h (i + 1) x (by simpa using hx)
      rw [show p + 2 + 2 * i = p + 2 * (i + 1) by omega]; exact this) fun j hj => hok j (by omega)
    simp only [Nat.mul_zero, Nat.add_zero] at h0
    have ht : (r.2.drop 0).take r.2.length = r.2 := by simp
    simp only [rowR, mapO, ih, List.map_cons]
    simp [toLit, noRef, AVal.under, h0, hok p (Nat.le_refl _)]

theorem set_snoc {X : Heap} {nx : Nat} (hX : X.length = nx) (b b' : Blk) : (X ++ [b]).set nx b' = X ++ [b'] := by
  subst hX
  rw [List.set_append_right _ _ (by omega), Nat.sub_self]; rfl
theorem get_snoc {X : Heap} {nx : Nat} (hX : X.length = nx) (b : Blk) : (X ++ [b])[nx]? = some b := by
  subst hX; simp
theorem len_snoc {X : Heap} {nx : Nat} (hX : X.length = nx) (b : Blk) : (X ++ [b]).length = nx + 1 := by simp [hX]
theorem low_snoc {X : Heap} {nx i : Nat} (hX : X.length = nx) (b : Blk) (hi : i < nx) : (X ++ [b])[i]? = X[i]? := by
  rw [List.getElem?_append_left (by omega)]

def rowsLit (sz : Nat) (rs : List RowD) : AVal := .lit false (if rs = [] then 0 else 1) (rs.map fun r => .lit false sz r.2)

theorem toLit_rows {A B Z : Heap} {ok : Nat → Bool} {g sz n : Nat} {rs : List RowD} (h1 : ok A.length = true) (h2 : ∀ j, A.length + 1 + B.length ≤ j → ok j = true) : toLit ok (rwH A B g sz rs ++ Z) (n + 2) (.ref A.length (gR g rs) 0 rs.length false) = some (rowsLit sz rs) := by
  have ha := rwH_acc (A := A) (B := B) (g := g) (sz := sz) (rs := rs) Z
  by_cases h : rs = []
  · subst h
    rw [accR_nil] at ha
    simp [toLit, noRef, AVal.under, ha, h1, gR, mapO, rowsLit]
  · rw [accR, if_neg h] at ha
    have hm := mapO_rows (H := rwH A B g sz rs ++ Z) (ok := ok) (sz := sz) (n := n) rs (A.length + 1 + B.length) (fun i r hr => rwH_row Z hr) h2
    have ht : (rowR (A.length + 1 + B.length) rs).take rs.length = rowR (A.length + 1 + B.length) rs := List.take_of_length_le (by rw [rowR_length]; exact Nat.le_refl _)
    unfold toLit
    simp only [noRef, AVal.under, Nat.not_lt_zero, decide_false, Bool.false_eq_true, if_false, ha, h1, gR, if_neg h, decide_true, Nat.zero_add, rowR_length, Nat.le_refl, if_true, List.drop_zero, ht, hm, rowsLit, Bool.and_true]
    rfl
end Go.Proofs.Ytgfejpngfikjiaa.Tidy

namespace Go.Proofs.Ytgfejpngfikjiaa.Tidy
open Go Go.IntWalk
set_option maxRecDepth 10000
set_option linter.unusedSimpArgs false
set_option maxHeartbeats 4000000

theorem putList_full {bs new : List AVal} (h : new.length = bs.length) : putList bs 0 new = new := by
  have := putList_append [] new bs (by omega)
  rw [List.nil_append, List.length_nil] at this
  rw [this, List.drop_eq_nil_of_le (by omega)]; simp

def rowA (t : Tab) (i : Nat) : List AVal := (t.cells.getD i []).map spV
theorem rowA_pure (t : Tab) (i : Nat) : (rowA t i).all noRef = true := by
  unfold rowA
  rw [List.all_eq_true]
  intro x hx
  obtain ⟨y, _, rfl⟩ := List.mem_map.1 hx
  rfl
def clD (t : Tab) (n : Nat) : List RowD := (List.range n).map fun i => (0, rowA t (i + 1))
theorem clD_succ (t : Tab) (n : Nat) : clD t (n + 1) = clD t n ++ [(0, rowA t (n + 1))] := by simp [clD, List.range_succ]
theorem clD_length (t : Tab) (n : Nat) : (clD t n).length = n := by simp [clD]

def clH (T : TabV) (g n : Nat) : Heap := [boxT T, .cells 0 3 false [.agg [.lit true 0 [], .lit true 0 [], .lit true 0 []]], .cells 0 2 true (T.rows.l.map spV), .cells 0 2 true (T.cols.l.map spV), .cells 0 0 false [], .cells 0 0 false [], .cells 0 0 false [],
  .cells 0 3 false [.agg [.ref 2 0 0 T.tab.R false, .ref 3 0 0 T.tab.C false, .ref 10 g 0 (n + 1) false]], .cells 0 2 true (rowA T.tab 0), .cells 0 1 false [.ref 8 0 0 T.tab.C false], .cells g 1 false (.ref 8 0 0 T.tab.C false :: rowR 11 (clD T.tab n))] ++ rowT 2 11 (clD T.tab n)

theorem clone_loop {T : TabV} (hT : T.Wf) (hO : T.tab.Ok) : ∀ (n m g : Nat) (j0 j4 j5 j6 j7 j8 j9 j10 j11 j12 j13 j14 j15 j16 j17 j18 j19 j20 j21 j22 j23 j24 j25 j26 j30 j31 j32 j33 j34 j35 j36 j37 j38 j39 j40 j41 j42 j43 j44 j45 j46 : AVal), m + 1 + n = T.tab.R →
    Goes (execT env (Try.f96.at [1, 1, 1, 1, 0, 1, 0]) ⟨[j0, .ptr 0 0 0 0, .ptr 1 0 0 0, .ptr 7 0 0 0, j4, j5, j6, j7, j8, j9, j10, j11, j12, j13, j14, j15, j16, j17, j18, j19, j20, j21, j22, j23, j24, j25, j26, .lit T.cl T.sz (T.cells.map SlV.v), .int .i64 T.tab.R, .int .i64 (m + 1 : Nat), j30, j31, j32, j33, j34, j35, j36, j37, j38, j39, j40, j41, j42, j43, j44, j45, j46], clH T g m, [], 0, [3, 42]⟩) fun ex st =>
      ex = .exit 0 ∧ ∃ (g : Nat), FrP 47 [(2, .ptr 1 0 0 0), (3, .ptr 7 0 0 0)] (clH T g (T.tab.R - 1)) [] 0 [3, 42] st := by
  have hR8 := hO.R8
  have hC8 := hO.C8
  intro n
  induction n with
  | zero =>
    intro m g; intros; rename_i hm
    have hd : decide (((m + 1 : Nat) : Int) < (T.tab.R : Int)) = false := by simp; omega
    have e : T.tab.R - 1 = m := by omega
    rw [e]
    simp only [go_sem, simprocAttr, Try.f96]
    rw [exec_loop]
    simp only [go_sem, simprocAttr, hd]
    exact ⟨g, frP (by kernel_rfl)⟩
  | succ n ih =>
    intro m g; intros; rename_i hm
    have hmR : m + 1 < T.tab.R := by omega
    have hd : decide (((m + 1 : Nat) : Int) < (T.tab.R : Int)) = true := by simp; omega
    have i0 : (0 : Int) ≤ ((m + 1 : Nat) : Int) := by omega
    have c0 : (0 : Int) ≤ (T.tab.C : Int) := by omega
    have m1 : T.tab.C * 17 ≤ maxBytes := by unfold maxBytes; omega
    obtain ⟨c, hcm, hc1, _, hsz, hcl, hce⟩ := TabV.at hT hO hmR (show 0 < T.tab.C from hO.C1)
    have hra : c.l.map spV = rowA T.tab (m + 1) := by unfold rowA; rw [hce]
    have hrl : (rowA T.tab (m + 1)).length = T.tab.C := by rw [← hra, List.length_map, hcl]
    have htk : (rowA T.tab (m + 1)).take T.tab.C = rowA T.tab (m + 1) := List.take_of_length_le (by omega)
    have hpl : putList (List.replicate T.tab.C (AVal.agg [.int .i64 0, .int .i64 0])) 0 (rowA T.tab (m + 1)) = rowA T.tab (m + 1) := putList_full (by rw [hrl, List.length_replicate])
    have hnr : (rowA T.tab (m + 1)).all noRef = true := rowA_pure _ _
    have hTl : (rowT 2 11 (clD T.tab m)).length = 2 * m := by rw [rowT_length, clD_length]
    have hl1 : ∀ b, (rowT 2 11 (clD T.tab m) ++ [b]).length = 2 * m + 1 := fun b => len_snoc hTl b
    have hg1 : ∀ b, (rowT 2 11 (clD T.tab m) ++ [b])[2 * m]? = some b := fun b => get_snoc hTl b
    have hs1 : ∀ b b', (rowT 2 11 (clD T.tab m) ++ [b]).set (2 * m) b' = rowT 2 11 (clD T.tab m) ++ [b'] := fun b b' => set_snoc hTl b b'
    have z0 : (2 * m + 1 + 1 + 1 + 1 + 1 + 1 + 1 + 1 + 1 + 1 + 1 < 2 * m + 1 + 1 + 1 + 1 + 1 + 1 + 1 + 1 + 1 + 1 + 1 + 1) = True := eq_true (Nat.lt_succ_self _)
    have hCl : (clH T g m).length = 2 * m + 1 + 1 + 1 + 1 + 1 + 1 + 1 + 1 + 1 + 1 + 1 := by unfold clH; rw [List.length_append, hTl]; simp only [List.length_cons, List.length_nil]; omega
    have hel : elems ((clH T g m ++ [.cells 0 2 true (rowA T.tab (m + 1))]) ++ [.cells 0 1 false [.ref (2 * m + 1 + 1 + 1 + 1 + 1 + 1 + 1 + 1 + 1 + 1 + 1) 0 0 T.tab.C false]]) (.ref (2 * m + 1 + 1 + 1 + 1 + 1 + 1 + 1 + 1 + 1 + 1 + 1 + 1) 0 0 1 false) = some (1, [.ref (2 * m + 1 + 1 + 1 + 1 + 1 + 1 + 1 + 1 + 1 + 1 + 1) 0 0 T.tab.C false]) := by
      have := get_snoc (len_snoc hCl (.cells 0 2 true (rowA T.tab (m + 1)))) (.cells 0 1 false [.ref (2 * m + 1 + 1 + 1 + 1 + 1 + 1 + 1 + 1 + 1 + 1 + 1) 0 0 T.tab.C false])
      simp only [elems, this]
      rfl
    have hl2 : ∀ b b', (rowT 2 11 (clD T.tab m) ++ [b] ++ [b']).length = 2 * m + 1 + 1 := fun b b' => len_snoc (hl1 b) b'
    have ap := append_ref (E := env) (ro := 0) (nx := 2 * m + 1 + 1 + 1 + 1 + 1 + 1 + 1 + 1 + 1 + 1 + 1 + 1 + 1) (g := g) (id := 10) (len := m + 1) (fl := false) (bs := .ref 8 0 0 T.tab.C false :: rowR 11 (clD T.tab m)) ti23 ti22 hel ⟨by decide, rfl, rfl⟩ rfl (by simp) rfl (by simp [rowR_length, clD_length]) (by omega) (Nat.zero_le _) (by unfold maxBytes; simp only [List.length_singleton]; omega) (fun h => by cases h)
    have hr1 : (AVal.ref 8 0 0 T.tab.C false :: rowR 11 (clD T.tab m)) ++ [.ref (2 * m + 1 + 1 + 1 + 1 + 1 + 1 + 1 + 1 + 1 + 1 + 1) 0 0 T.tab.C false] = .ref 8 0 0 T.tab.C false :: rowR 11 (clD T.tab (m + 1)) := by
      rw [clD_succ, rowR_snoc, clD_length, hrl, show 11 + 2 * m = 2 * m + 1 + 1 + 1 + 1 + 1 + 1 + 1 + 1 + 1 + 1 + 1 by omega]; rfl
    have ht1 : rowT 2 11 (clD T.tab m) ++ [.cells 0 2 true (rowA T.tab (m + 1))] ++ [.cells 0 1 false [.ref (2 * m + 1 + 1 + 1 + 1 + 1 + 1 + 1 + 1 + 1 + 1 + 1) 0 0 T.tab.C false]] = rowT 2 11 (clD T.tab (m + 1)) := by
      rw [clD_succ, rowT_snoc, clD_length, hrl, show 11 + 2 * m = 2 * m + 1 + 1 + 1 + 1 + 1 + 1 + 1 + 1 + 1 + 1 + 1 by omega]; simp
    have hTl' : (rowT 2 11 (clD T.tab (m + 1))).length = 2 * m + 1 + 1 := by rw [rowT_length, clD_length]; omega
    rw [hr1] at ap
    simp only [clH, boxT, List.cons_append, List.nil_append, List.length_singleton, ht1] at ap
    have hmem : AVal.ref (2 * m + 1 + 1 + 1 + 1 + 1 + 1 + 1 + 1 + 1 + 1 + 1) 0 0 T.tab.C false ∈ (AVal.ref 8 0 0 T.tab.C false :: rowR 11 (clD T.tab (m + 1))) := by rw [← hr1]; simp
    have htr : ∀ Tm V, trunc (2 * m + 1 + 1 + 1 + 1 + 1 + 1 + 1 + 1 + 1 + 1 + 1) ⟨Tm, clH T (g + 1) (m + 1), [], 0, V⟩ = ⟨Tm, clH T (g + 1) (m + 1), [], 0, V⟩ := fun Tm V => trunc_keep (i := 10) (by omega) (by unfold clH; rfl) hmem (Nat.le_refl _)
    simp only [clH, boxT, List.cons_append, List.nil_append] at htr
    have wi : IntKind.i64.wrap (((m + 1 : Nat) : Int) + 1) = ((m + 1 + 1 : Nat) : Int) := wrap_succ (by omega)
    have z1 : (10 < 2 * m + 1 + 1 + 1 + 1 + 1 + 1 + 1 + 1 + 1 + 1 + 1 + 1 + 1) = True := eq_true (by omega)
    have z2 : (7 < 2 * m + 1 + 1 + 1 + 1 + 1 + 1 + 1 + 1 + 1 + 1 + 1 + 1 + 1) = True := eq_true (by omega)
    have ih' := ih (m + 1) (g + 1)
    simp only [go_sem, simprocAttr, Try.f96, clH, boxT, hsz] at ih' ⊢
    rw [exec_loop]
    simp only [go_sem, simprocAttr, hd, i0, Int.toNat_natCast, hc1, hcl, List.length_map, c0, m1, hra, hTl, hl1, hg1, hs1, htk, hpl, hrl, hnr, z0, hl2, ap, ht1, hTl', z1, z2, wi, htr]
    exact ih' _ _ _ _ _ _ _ _ _ _ _ _ _ _ _ _ _ _ _ _ _ _ _ _ _ _ _ _ _ _ _ _ _ _ _ _ _ _ _ _ _ (by omega)

theorem bd25 (a b c d a' b' c' d' : Nat) (e e' : Bool) : build env ⟨.struct [(22, 0), (22, 1), (23, 2)], 3, 72, .agg [.lit true 0 [], .lit true 0 [], .lit true 0 []]⟩ [(0, .ref a b c d e), (1, .ref a' b' c' d' e')] = some (.agg [.ref a b c d e, .ref a' b' c' d' e', .lit true 0 []]) := rfl

def clX (T : TabV) (nx g : Nat) : Heap := [boxT T, .cells 0 3 false [.agg [.ref (nx + 2) 0 0 T.tab.R false, .ref (nx + 3) 0 0 T.tab.C false, .ref (nx + 10) g 0 T.tab.R false]], .cells 0 2 true (T.rows.l.map spV), .cells 0 2 true (T.cols.l.map spV), .cells 0 0 false [], .cells 0 0 false [], .cells 0 0 false [],
  .cells 0 3 false [.agg [.ref (nx + 2) 0 0 T.tab.R false, .ref (nx + 3) 0 0 T.tab.C false, .ref (nx + 10) g 0 T.tab.R false]], .cells 0 2 true (rowA T.tab 0), .cells 0 1 false [.ref (nx + 8) 0 0 T.tab.C false], .cells g 1 false (.ref (nx + 8) 0 0 T.tab.C false :: rowR (nx + 11) (clD T.tab (T.tab.R - 1)))] ++ rowT 2 (nx + 11) (clD T.tab (T.tab.R - 1))

def clP (T : TabV) : Heap := [boxT T, .cells 0 3 false [.agg [.lit true 0 [], .lit true 0 [], .lit true 0 []]], .cells 0 2 true (T.rows.l.map spV), .cells 0 2 true (T.cols.l.map spV), .cells 0 0 false [], .cells 0 0 false [], .cells 0 0 false [],
  .cells 0 3 false [.agg [.ref 2 0 0 T.tab.R false, .ref 3 0 0 T.tab.C false, .lit true 0 []]], .cells 0 2 true (rowA T.tab 0), .cells 0 1 false [.ref 8 0 0 T.tab.C false]]
theorem append_first (T : TabV) : appendOp env 0 10 23 (.lit true 0 []) (.ref 9 0 0 1 false) (clP T) = some (.ref 10 0 0 1 false, [(10, .cells 0 1 false [.ref 8 0 0 T.tab.C false])]) := by
  have h := append_lit (E := env) (ro := 0) (nx := 10) (sz := 0) (es := []) (H := clP T) (x := .ref 9 0 0 1 false) (nsz := 1) (new := [.ref 8 0 0 T.tab.C false]) ti23 ti22 rfl ⟨by decide, rfl, rfl⟩ rfl (by simp) (.inl rfl) (show (0 + 1) * 25 ≤ maxBytes by decide) (fun h => by cases h)
  rw [h]; rfl

theorem clone_run {T : TabV} (hT : T.Wf) (hO : T.tab.Ok) : ∃ g, runT env 96 [T.v] [] 0 = some (.ret (.agg [.ref 2 0 0 T.tab.R false, .ref 3 0 0 T.tab.C false, .ref 10 g 0 T.tab.R false]), clX T 0 g) := by
  have hR8 := hO.R8
  have hC8 := hO.C8
  have hR1 := hO.R1
  have hd : decide ((0 : Int) < (T.tab.R : Int)) = true := by simp; omega
  have lr : T.rows.l.length = T.tab.R := rfl
  have lc : T.cols.l.length = T.tab.C := rfl
  have ll : T.cells.length = T.tab.R := by have := hO.len; simpa [TabV.tab] using this
  have r0 : (0 : Int) ≤ (T.tab.R : Int) := by omega
  have c0 : (0 : Int) ≤ (T.tab.C : Int) := by omega
  have m0 : T.tab.R * 17 ≤ maxBytes := by unfold maxBytes; omega
  have m1 : T.tab.C * 17 ≤ maxBytes := by unfold maxBytes; omega
  obtain ⟨c, hcm, hc1, _, hsz, hcl, hce⟩ := TabV.at hT hO hR1 (show 0 < T.tab.C from hO.C1)
  have hra : c.l.map spV = rowA T.tab 0 := by unfold rowA; rw [hce]
  have hrl : (rowA T.tab 0).length = T.tab.C := by rw [← hra, List.length_map, hcl]
  have htk : (rowA T.tab 0).take T.tab.C = rowA T.tab 0 := List.take_of_length_le (by omega)
  have hpl : putList (List.replicate T.tab.C (AVal.agg [.int .i64 0, .int .i64 0])) 0 (rowA T.tab 0) = rowA T.tab 0 := putList_full (by rw [hrl, List.length_replicate])
  have hnr : (rowA T.tab 0).all noRef = true := rowA_pure _ _
  have tk1 : (T.rows.l.map spV).take T.tab.R = T.rows.l.map spV := List.take_of_length_le (by rw [List.length_map]; exact Nat.le_refl _)
  have tk2 : (T.cols.l.map spV).take T.tab.C = T.cols.l.map spV := List.take_of_length_le (by rw [List.length_map]; exact Nat.le_refl _)
  have pl1 : putList (List.replicate T.tab.R (AVal.agg [.int .i64 0, .int .i64 0])) 0 (T.rows.l.map spV) = T.rows.l.map spV := putList_full (by rw [List.length_map, List.length_replicate]; rfl)
  have pl2 : putList (List.replicate T.tab.C (AVal.agg [.int .i64 0, .int .i64 0])) 0 (T.cols.l.map spV) = T.cols.l.map spV := putList_full (by rw [List.length_map, List.length_replicate]; rfl)
  have all_pure : ∀ l : List Spn, (l.map spV).all noRef = true := fun l => by
    rw [List.all_eq_true]
    intro x hx
    obtain ⟨y, _, rfl⟩ := List.mem_map.1 hx
    rfl
  have hs1 : ∀ {α : Type} (l : List α), l = [] ∨ (2 : Nat) = 2 := fun _ => .inr rfl
  have hzr : (T.rows.l.map spV).isEmpty = false := by
    cases h : T.rows.l with
    | nil => rw [h] at lr; simp at lr; omega
    | cons a l => rfl
  have hzc : (T.cols.l.map spV).isEmpty = false := by
    cases h : T.cols.l with
    | nil => rw [h] at lc; simp at lc; have := hO.C1; omega
    | cons a l => rfl
  have z1 : T.rows.sz = 2 := (TabV.rowAt hT hR1).2
  have z2 : T.cols.sz = 2 := (TabV.colAt hT (show 0 < T.tab.C from hO.C1)).2
  obtain ⟨ex, st, hx, hp⟩ := clone_loop hT hO (T.tab.R - 1) 0 0 _ _ _ _ _ _ _ _ _ _ _ _ _ _ _ _ _ _ _ _ _ _ _ _ _ _ _ _ _ _ _ _ _ _ _ _ _ _ _ _ _ (by omega)
  obtain ⟨rfl, g, jp, rfl⟩ := hp
  refine ⟨g, ?_⟩
  have e0 : clD T.tab 0 = [] := rfl
  have e1 : ((0 + 1 : Nat) : Int) = 1 := rfl
  have eR : T.tab.R - 1 + 1 = T.tab.R := by omega
  simp only [go_sem, simprocAttr, Try.f96, clH, boxT, hsz, e0, rowR, rowT, e1] at hx
  have htr : ∀ Tm V, trunc 8 ⟨Tm, clH T 0 0, [], 0, V⟩ = ⟨Tm, clH T 0 0, [], 0, V⟩ := fun Tm V => by
    unfold trunc clH
    simp [clD, rowT, rowR, underB, underL, AVal.under, boxT]
  have w1 : IntKind.i64.wrap 1 = 1 := by decide
  simp only [clH, boxT, e0, rowR, rowT, List.cons_append, List.nil_append] at htr
  have ap := append_first T
  simp only [clP, boxT] at ap
  rw [run_unfold fn96 rfl]
  simp only [go_sem, simprocAttr, Try.f96, virtual, List.length_map, lr, lc, r0, c0, m0, m1, Int.toNat_natCast, bd25]
  rw [apart_ok]
  · simp only [go_sem, simprocAttr, virtual, List.length_map, lr, lc, z1, z2, hzr, hzc, tk1, tk2, pl1, pl2, all_pure, ll]
    rw [exec_loop]
    simp only [go_sem, simprocAttr, hd, hc1, hsz, hcl, List.length_map, c0, m1, Int.toNat_natCast, hra, hrl, htk, hpl, hnr, ap, htr, w1]
    rw [hx]
    simp only [go_sem, simprocAttr, unwind, modeEx, resultsOf, one, eR]
    rfl
  · kernel_rfl

set_option maxRecDepth 10000
set_option maxHeartbeats 2000000

theorem reach_some {H : Heap} : ∀ (ids seen : List Nat) (n : Nat), (∀ id ∈ ids, ∃ g sz es, H[id]? = some (.cells g sz true es)) → ids.length ≤ n → ∃ l, reach H n ids seen = some l
  | [], seen, n, _, _ => by cases n <;> exact ⟨_, rfl⟩
  | id :: ids, seen, n, hf, hl => by
    obtain ⟨n, rfl⟩ : ∃ m, n = m + 1 := ⟨n - 1, by simp at hl; omega⟩
    obtain ⟨g, sz, es, hH⟩ := hf id (by simp)
    have ih := fun seen => reach_some (H := H) ids seen n (fun x hx => hf x (by simp [hx])) (by simp at hl; omega)
    simp only [reach, hH, if_true]
    split
    · exact ih _
    · exact ih _

theorem call_lent {f : Nat} {args qs : List AVal} {lent : List Nat} {v w : AVal} {H H' : Heap} (hw : (env.hint f).whole = false) (hka : (env.hint f).keepAll = false) (hk : (env.hint f).keep = []) (hro : (env.hint f).ro = false)
    (hl : lend H (env.hint f).lits args 0 = some (qs, lent)) (hq : underL 0 qs = true) (hr : runT env f qs [] 0 = some (.ret v, H')) (hb : handBack H' 0 [] 4 v = some w) (hn : noRef w = true) (nx : Nat) :
    ∃ us, callT env f args 0 H nx = some (.ret w, .ups us) ∧ (w.noLit = true → us = []) := by
  unfold callT
  rw [callF_small hw, hl]
  have h0 : (lent.all fun id => decide (0 ≤ id)) = true := List.all_eq_true.2 fun _ _ => by simp
  have h1 : (lent.all fun id => !([] : List Nat).contains id) = true := List.all_eq_true.2 fun _ _ => by simp
  simp only [refs_noRef.2 qs hq, reach, getAll, h1, hro, List.all_nil, Bool.not_true, Bool.or_false, Bool.and_false, Bool.false_eq_true, if_false, List.map_nil, List.length_nil, (ren_noRef (idx [])).2 qs hq]
  rw [hr]
  simp only [Option.bind_some, callBack, keepOf, hka, hk, Bool.false_eq_true, if_false, List.filter_nil, uniq, getAll, List.length_nil, hb, h0, if_true]
  rw [(ren_noRef _).1 w hn]
  cases hnl : w.noLit with
  | true =>
    refine ⟨[], ?_, fun _ => rfl⟩
    simp [callUpd, hro, numbered]
  | false =>
    simp only [Bool.false_and, Bool.or_false]
    split
    · exact ⟨_, rfl, fun h => by cases h⟩
    · exact ⟨_, rfl, fun h => by cases h⟩

structure TbAt (H : Heap) (a b q ga gb g : Nat) (ps : Nat → Nat) (t : Tab) : Prop where
  rows : H[a]? = some (.cells ga 2 true (t.rows.map spV))
  cols : H[b]? = some (.cells gb 2 true (t.cols.map spV))
  acc : H[q]? = some (.cells g 1 false (vecA t.R fun i => .ref (ps i) 0 0 t.C false))
  row : ∀ i, i < t.R → H[ps i]? = some (.cells 0 2 true (rowA t i))
  ab : a ≠ b
  aq : a ≠ q
  bq : b ≠ q
  pa : ∀ i, i < t.R → ps i ≠ a ∧ ps i ≠ b ∧ ps i ≠ q
  pp : ∀ i j, i < t.R → j < t.R → ps i = ps j → i = j

def memT (t : Tab) (a b q ga gb g : Nat) : AVal := .agg [.ref a ga 0 t.R false, .ref b gb 0 t.C false, .ref q g 0 t.R false]

def canon (t : Tab) : TabV := ⟨⟨false, 2, t.rows⟩, ⟨false, 2, t.cols⟩, false, 1, t.cells.map fun l => ⟨false, 2, l⟩⟩
theorem canon_tab (t : Tab) : (canon t).tab = t := by
  unfold canon TabV.tab
  simp [Function.comp_def]

theorem canon_wf {t : Tab} (hR : t.R ≤ 8) (hC : t.C ≤ 8) (hl : t.cells.length = t.R) (hw : ∀ l ∈ t.cells, l.length = t.C) : (canon t).Wf where
  rows := .inr rfl
  cols := .inr rfl
  cells := .inr rfl
  each s hs := by obtain ⟨l, _, rfl⟩ := List.mem_map.1 hs; exact .inr rfl
  lr := by show t.R < _; omega
  lc := by show t.C < _; omega
  ll := by simp only [canon, List.length_map]; omega
  le s hs := by
    obtain ⟨l, hl, rfl⟩ := List.mem_map.1 hs
    have := hw l hl
    show l.length < _; omega

theorem rowA_length {t : Tab} (hl : t.cells.length = t.R) (hw : ∀ l ∈ t.cells, l.length = t.C) {i : Nat} (hi : i < t.R) : (rowA t i).length = t.C := by
  unfold rowA
  rw [List.length_map]
  exact hw _ (getD_mem (by omega) _)

section
variable {H : Heap} {a b q ga gb g : Nat} {ps : Nat → Nat} {t : Tab}

theorem TbAt.mono (h : TbAt H a b q ga gb g ps t) {H' : Heap} (e : ∀ i, i = a ∨ i = b ∨ i = q ∨ (∃ j, j < t.R ∧ i = ps j) → H'[i]? = H[i]?) : TbAt H' a b q ga gb g ps t where
  rows := by rw [e a (.inl rfl)]; exact h.rows
  cols := by rw [e b (.inr (.inl rfl))]; exact h.cols
  acc := by rw [e q (.inr (.inr (.inl rfl)))]; exact h.acc
  row i hi := by rw [e _ (.inr (.inr (.inr ⟨i, hi, rfl⟩)))]; exact h.row i hi
  ab := h.ab
  aq := h.aq
  bq := h.bq
  pa := h.pa
  pp := h.pp

theorem TbAt.lt (h : TbAt H a b q ga gb g ps t) : a < H.length ∧ b < H.length ∧ q < H.length ∧ ∀ i, i < t.R → ps i < H.length :=
  ⟨(List.getElem?_eq_some_iff.1 h.rows).1, (List.getElem?_eq_some_iff.1 h.cols).1, (List.getElem?_eq_some_iff.1 h.acc).1, fun i hi => (List.getElem?_eq_some_iff.1 (h.row i hi)).1⟩

theorem TbAt.more (h : TbAt H a b q ga gb g ps t) (Z : Heap) : TbAt (H ++ Z) a b q ga gb g ps t := by
  obtain ⟨l1, l2, l3, l4⟩ := h.lt
  refine h.mono fun i hi => ?_
  rw [List.getElem?_append_left]
  rcases hi with rfl | rfl | rfl | ⟨j, hj, rfl⟩
  · exact l1
  · exact l2
  · exact l3
  · exact l4 j hj

theorem TbAt.toLit (h : TbAt H a b q ga gb g ps t) (hl : t.cells.length = t.R) (hw : ∀ l ∈ t.cells, l.length = t.C) (ok : Nat → Bool) (ha : ok a = true) (hb : ok b = true) (hq : ok q = true) (hp : ∀ i, i < t.R → ok (ps i) = true) (n : Nat) : toLit ok H (n + 3) (memT t a b q ga gb g) = some (canon t).v := by
  have t1 : (t.rows.map spV).take t.R = t.rows.map spV := List.take_of_length_le (by simp)
  have t2 : (t.cols.map spV).take t.C = t.cols.map spV := List.take_of_length_le (by simp)
  have t3 : (vecA t.R fun i => AVal.ref (ps i) 0 0 t.C false).take t.R = vecA t.R fun i => AVal.ref (ps i) 0 0 t.C false := List.take_of_length_le (by rw [vecA_length]; exact Nat.le_refl _)
  have hm : mapO (Tidy.toLit ok H (n + 1)) (vecA t.R fun i => AVal.ref (ps i) 0 0 t.C false) = some (vecA t.R fun i => AVal.lit false 2 (rowA t i)) := by
    have : ∀ (m : Nat), m ≤ t.R → mapO (Tidy.toLit ok H (n + 1)) ((List.range m).map fun i => AVal.ref (ps i) 0 0 t.C false) = some ((List.range m).map fun i => AVal.lit false 2 (rowA t i)) := by
      intro m hm
      have gen : ∀ l : List Nat, (∀ i ∈ l, i < t.R) → mapO (Tidy.toLit ok H (n + 1)) (l.map fun i => AVal.ref (ps i) 0 0 t.C false) = some (l.map fun i => AVal.lit false 2 (rowA t i)) := by
        intro l
        induction l with
        | nil => intro _; rfl
        | cons i l ih =>
          intro hl'
          have hi := hl' i (by simp)
          have hr := h.row i hi
          have hrl := rowA_length hl hw hi
          have htk : (rowA t i).take t.C = rowA t i := List.take_of_length_le (by omega)
          simp only [List.map_cons, mapO, ih fun j hj => hl' j (by simp [hj])]
          simp [Tidy.toLit, noRef, AVal.under, hr, hp i hi, hrl, htk]
      exact gen _ fun i hi => by rw [List.mem_range] at hi; omega
    exact this t.R (Nat.le_refl _)
  have ec : (canon t).v = .agg [.lit false 2 (t.rows.map spV), .lit false 2 (t.cols.map spV), .lit false 1 (vecA t.R fun i => AVal.lit false 2 (rowA t i))] := by
    show AVal.agg [_, _, .lit false 1 ((t.cells.map fun l => (⟨false, 2, l⟩ : SlV)).map SlV.v)] = _
    have e : (t.cells.map fun l => (⟨false, 2, l⟩ : SlV)).map SlV.v = vecA t.R fun i => AVal.lit false 2 (rowA t i) := ?_
    · rw [e]; rfl
    unfold vecA
    rw [List.map_map]
    apply List.ext_getElem
    · simp [hl]
    · intro i h1 h2
      have hi : i < t.cells.length := by simpa using h1
      simp [rowA, SlV.v, hi]
  have ea : Tidy.toLit ok H (n + 2) (.ref a ga 0 t.R false) = some (.lit false 2 (t.rows.map spV)) := by
    simp [Tidy.toLit, noRef, AVal.under, h.rows, ha, t1]
  have eb : Tidy.toLit ok H (n + 2) (.ref b gb 0 t.C false) = some (.lit false 2 (t.cols.map spV)) := by
    simp [Tidy.toLit, noRef, AVal.under, h.cols, hb, t2]
  have eq : Tidy.toLit ok H (n + 2) (.ref q g 0 t.R false) = some (.lit false 1 (vecA t.R fun i => AVal.lit false 2 (rowA t i))) := by
    unfold Tidy.toLit
    simp only [noRef, AVal.under, Nat.not_lt_zero, decide_false, Bool.false_eq_true, if_false, h.acc, hq, decide_true, Nat.zero_add, vecA_length, Nat.le_refl, Bool.and_true, if_true, List.drop_zero, t3, hm]
    rfl
  rw [ec]
  unfold Tidy.toLit
  simp only [memT, noRef, AVal.under, underL, Nat.not_lt_zero, decide_false, Bool.false_and, Bool.false_eq_true, if_false, mapO, ea, eb, eq]
  rfl

theorem TbAt.lend (h : TbAt H a b q ga gb g ps t) (hR : t.R ≤ 8) (hl : t.cells.length = t.R) (hw : ∀ l ∈ t.cells, l.length = t.C) {lits : List Nat} (h0 : lits.contains 0 = true) {args : List AVal} (ha : underL 0 args = true) : ∃ ids, lend H lits (memT t a b q ga gb g :: args) 0 = some ((canon t).v :: args, ids) := by
  have hlit := h.toLit hl hw (fun _ => true) rfl rfl rfl (fun _ _ => rfl) 5
  have hre : ∃ l, reach H fuel0 (memT t a b q ga gb g).refs [] = some l := by
    have hrefs : (memT t a b q ga gb g).refs = [a, b, q] := rfl
    rw [hrefs]
    have hab : b ≠ a := Ne.symm h.ab
    have haq : q ≠ a := Ne.symm h.aq
    have hbq : q ≠ b := Ne.symm h.bq
    have hrl : refsL (vecA t.R fun i => AVal.ref (ps i) 0 0 t.C false) = vecA t.R ps := by
      unfold vecA
      induction (List.range t.R) with
      | nil => rfl
      | cons i l ih => simp [refsL, AVal.refs, ih]
    obtain ⟨l, hl⟩ := reach_some (H := H) (vecA t.R ps) [a, b, q] 61 (fun id hid => by
      unfold vecA at hid
      obtain ⟨i, hi, rfl⟩ := List.mem_map.1 hid
      exact ⟨_, _, _, h.row i (List.mem_range.1 hi)⟩) (by rw [vecA_length]; omega)
    refine ⟨l, ?_⟩
    unfold fuel0
    simp [reach, h.rows, h.cols, h.acc, hab, haq, hbq, hrl, hl]
  obtain ⟨l, hre⟩ := hre
  have hnr : noRef (memT t a b q ga gb g) = false := rfl
  refine ⟨l ++ [], ?_⟩
  unfold Tidy.lend
  rw [lend_noRef H lits args 1 ha]
  simp only [h0, hnr, Bool.not_false, Bool.and_self, if_true, hlit, hre]
end

theorem renR_rows (f : Nat → Option Nat) (nx : Nat) : ∀ (rs : List RowD) (p : Nat), (∀ i, i < rs.length → f (p + 2 * i) = some (nx + p + 2 * i)) → renL f (rowR p rs) = rowR (nx + p) rs
  | [], _, _ => rfl
  | r :: rs, p, h => by
    have h0 := h 0 (by simp)
    have ih := renR_rows f nx rs (p + 2) fun i hi => by
      have := h (i + 1) (by simp; omega)
      rw [show p + 2 + 2 * i = p + 2 * (i + 1) by omega, this, show nx + p + 2 * (i + 1) = nx + (p + 2) + 2 * i by omega]
    simp only [Nat.mul_zero, Nat.add_zero] at h0
    simp only [rowR, renL, AVal.ren, h0, ih, Nat.add_assoc]

theorem renT_rows (f : Nat → Option Nat) (nx sz : Nat) : ∀ (rs : List RowD) (p : Nat), (∀ i, i < rs.length → f (p + 2 * i) = some (nx + p + 2 * i)) → (rowT sz p rs).map (renB f) = rowT sz (nx + p) rs
  | [], _, _ => rfl
  | r :: rs, p, h => by
    have h0 := h 0 (by simp)
    have ih := renT_rows f nx sz rs (p + 2) fun i hi => by
      have := h (i + 1) (by simp; omega)
      rw [show p + 2 + 2 * i = p + 2 * (i + 1) by omega, this, show nx + p + 2 * (i + 1) = nx + (p + 2) + 2 * i by omega]
    simp only [Nat.mul_zero, Nat.add_zero] at h0
    simp only [rowT, List.map_cons, renB, renL, AVal.ren, h0, ih, Nat.add_assoc, if_true, Bool.false_eq_true, if_false]

def clP' (nx i : Nat) : Nat := if i = 0 then nx + 8 else nx + 9 + 2 * i

theorem clX_len (T : TabV) (nx g : Nat) (hR : 1 ≤ T.tab.R) : (clX T nx g).length = 9 + 2 * T.tab.R := by
  unfold clX
  rw [List.length_append, rowT_length, clD_length]
  simp only [List.length_cons, List.length_nil]; omega

theorem clone_call {T : TabV} (hT : T.Wf) (hO : T.tab.Ok) : ∃ g, ∀ (ro : Nat) (H : Heap) (nx : Nat), callT env 96 [T.v] ro H nx = some (.ret (memT T.tab (nx + 2) (nx + 3) (nx + 10) 0 0 g), .ups (numbered nx (clX T nx g))) := by
  have hR1 := hO.R1
  obtain ⟨g, hr⟩ := clone_run hT hO
  refine ⟨g, fun ro H nx => ?_⟩
  have hlen := clX_len T 0 g hR1
  have hc : ∀ j, j < 9 + 2 * T.tab.R → (List.range' 0 (clX T 0 g).length).contains j = true := fun j hj => by
    rw [hlen]; simp; omega
  have hf : ∀ j, j < 9 + 2 * T.tab.R → nxF nx (clX T 0 g).length j = some (nx + j) := fun j hj => by
    unfold nxF; rw [hlen, if_pos hj]
  rw [call_keepAll rfl rfl rfl tv_pure hr (w := .agg [.ref 2 0 0 T.tab.R false, .ref 3 0 0 T.tab.C false, .ref 10 g 0 T.tab.R false]) (by
    simp only [handBack, mapO, hc 2 (by omega), hc 3 (by omega), hc 10 (by omega), Bool.or_true, if_true, Option.map_some])]
  have e1 : (clX T 0 g).map (renB (nxF nx (clX T 0 g).length)) = clX T nx g := by
    generalize hF : nxF nx (clX T 0 g).length = F at hf ⊢
    have r1 := renT_rows F nx 2 (clD T.tab (T.tab.R - 1)) 11 fun i hi => by
      rw [clD_length] at hi
      rw [hf _ (by omega)]; congr 1; omega
    have r2 := renR_rows F nx (clD T.tab (T.tab.R - 1)) 11 fun i hi => by
      rw [clD_length] at hi
      rw [hf _ (by omega)]; congr 1; omega
    unfold clX
    simp only [List.map_append, List.map_cons, List.map_nil, Nat.zero_add, r1, renB_box]
    simp only [renB, renL, AVal.ren, hf 2 (by omega), hf 3 (by omega), hf 8 (by omega), hf 10 (by omega), r2, if_true, Bool.false_eq_true, if_false]
  rw [e1]
  simp only [AVal.ren, renL, hf 2 (by omega), hf 3 (by omega), hf 10 (by omega), memT]

theorem clone_at {T : TabV} (hO : T.tab.Ok) (H : Heap) (g : Nat) : TbAt (H ++ clX T H.length g) (H.length + 2) (H.length + 3) (H.length + 10) 0 0 g (clP' H.length) T.tab := by
  have hR1 := hO.R1
  have hg : ∀ i, (H ++ clX T H.length g)[H.length + i]? = (clX T H.length g)[i]? := fun i => by
    rw [List.getElem?_append_right (by omega), Nat.add_sub_cancel_left]
  have hacc : AVal.ref (H.length + 8) 0 0 T.tab.C false :: rowR (H.length + 11) (clD T.tab (T.tab.R - 1)) = vecA T.tab.R fun i => .ref (clP' H.length i) 0 0 T.tab.C false := by
    apply List.ext_getElem?
    intro i
    cases i with
    | zero => rw [vecA_get _ (by omega)]; rfl
    | succ i =>
      rw [List.getElem?_cons_succ]
      by_cases hi : i + 1 < T.tab.R
      · rw [vecA_get _ hi]
        have hd : (clD T.tab (T.tab.R - 1))[i]? = some (0, rowA T.tab (i + 1)) := by
          unfold clD
          rw [List.getElem?_map, List.getElem?_range (by omega)]; rfl
        rw [rowR_get _ _ _ _ hd]
        have hrl := rowA_length (t := T.tab) hO.len hO.wid hi
        show some (AVal.ref (H.length + 11 + 2 * i) 0 0 (rowA T.tab (i + 1)).length false) = _
        rw [hrl]
        unfold clP'
        rw [if_neg (by omega), show H.length + 9 + 2 * (i + 1) = H.length + 11 + 2 * i by omega]
      · rw [List.getElem?_eq_none (by rw [rowR_length, clD_length]; omega), List.getElem?_eq_none (by rw [vecA_length]; omega)]
  refine ⟨?_, ?_, ?_, fun i hi => ?_, by omega, by omega, by omega, fun i hi => ?_, fun i j hi hj e => ?_⟩
  · rw [hg]; rfl
  · rw [hg]; rfl
  · rw [hg, ← hacc]; rfl
  · unfold clP'
    by_cases h0 : i = 0
    · subst h0; rw [if_pos rfl, hg]; rfl
    · rw [if_neg h0, Nat.add_assoc, hg]
      have hd : (clD T.tab (T.tab.R - 1))[i - 1]? = some (0, rowA T.tab i) := by
        unfold clD
        rw [List.getElem?_map, List.getElem?_range (by omega)]
        simp only [Option.map_some]
        rw [show i - 1 + 1 = i by omega]
      have := rowT_get 2 (clD T.tab (T.tab.R - 1)) (H.length + 11) (i - 1) _ hd
      unfold clX
      rw [List.getElem?_append_right (by simp; omega)]
      simp only [List.length_cons, List.length_nil]
      rw [show 9 + 2 * i - (0 + 1 + 1 + 1 + 1 + 1 + 1 + 1 + 1 + 1 + 1 + 1) = 2 * (i - 1) by omega]
      exact this
  · unfold clP'
    split <;> omega
  · unfold clP' at e
    split at e <;> split at e <;> omega

set_option maxRecDepth 10000
set_option maxHeartbeats 2000000

def fillV (C : Nat) (φ : Nat → Int) (k : Nat) : List AVal := intsV C fun i => if i < k then φ i else 0

theorem fillV_zero (C : Nat) (φ : Nat → Int) : List.replicate C (AVal.int .i64 0) = fillV C φ 0 := by
  rw [intsV_rep]
  exact intsV_congr fun i _ => by simp

theorem fillV_full (C : Nat) (φ : Nat → Int) : fillV C φ C = intsV C φ := intsV_congr fun i hi => if_pos hi

theorem fillV_set {C : Nat} (φ : Nat → Int) {k : Nat} : (fillV C φ k).set k (.int .i64 (φ k)) = fillV C φ (k + 1) := by
  unfold fillV
  refine intsV_set fun i _ => ?_
  by_cases h : i = k
  · subst h; rw [if_pos rfl, if_pos (by omega)]
  · rw [if_neg h]
    by_cases h2 : i < k
    · rw [if_pos h2, if_pos (by omega)]
    · rw [if_neg h2, if_neg (by omega)]
theorem fillV_length (C : Nat) (φ : Nat → Int) (k : Nat) : (fillV C φ k).length = C := intsV_length _ _
theorem fillV_get {C k i : Nat} (φ : Nat → Int) (h : i < C) : (fillV C φ k)[i]? = some (.int .i64 (if i < k then φ i else 0)) := intsV_get h

theorem looks_net {H : Heap} {R C g n gn : Nat} {G : Net} {f : Nat → Int} (h : NetAt H 0 1 R C g n (arcB gn G f)) : looks H fuel0 [0] [] = some [0, 1] := by
  have h1 := h.net
  have h2 := h.arcs
  simp only [netB, arcB] at h1 h2
  unfold fuel0
  simp [looks, h1, h2, refsL, AVal.refs]

theorem mat_inner {t : Tab} {gn : Nat} {f : Nat → Int} {X : Heap} {nx : Nat} (hX : X.length = nx) (h0 : X[0]? = some (netB t.R t.C 1 gn t.net.n)) (h1 : X[1]? = some (arcB gn t.net f)) (h2 : 2 ≤ nx) (hC8 : t.C ≤ 8) {i : Nat} (hi : i < t.R) (hR8 : t.R ≤ 8) (v3 v10 v11 : AVal) : ∀ (n k : Nat) (j1 j2 j6 j7 j8 j9 j12 j13 j14 j15 j16 j17 j18 j19 j22 j23 j24 j25 j26 j27 j28 j29 j30 j31 j32 j33 j34 j35 j36 j37 j38 j39 j40 j41 j42 j43 j44 : AVal), k + n = t.C →
    Goes (execT env (Try.f106.at [1, 1, 0, 1, 0, 0, 1, 1, 0, 0, 1, 1, 0, 1, 0]) ⟨[.ptr 0 0 0 0, j1, j2, v3, .int .i64 i, .ref nx 0 0 t.C false, j6, j7, j8, j9, v10, v11, j12, j13, j14, j15, j16, j17, j18, j19, .int .i64 t.C, .int .i64 k, j22, j23, j24, j25, j26, j27, j28, j29, j30, j31, j32, j33, j34, j35, j36, j37, j38, j39, j40, j41, j42, j43, j44], X ++ [.cells 0 1 true (fillV t.C (t.mat f i) k)], [], 2, [3, 41]⟩) fun ex st =>
      ex = .exit 2 ∧ FrP 45 [(0, .ptr 0 0 0 0), (3, v3), (5, .ref nx 0 0 t.C false), (10, v10), (11, v11)] (X ++ [.cells 0 1 true (intsV t.C (t.mat f i))]) [] 2 [3, 41] st := by
  intro n
  induction n with
  | zero =>
    intro k; intros; rename_i hk
    have hd : decide ((k : Int) < (t.C : Int)) = false := by simp; omega
    have : k = t.C := by omega
    subst this
    simp only [go_sem, simprocAttr, Try.f106]
    rw [exec_loop]
    simp only [go_sem, simprocAttr, hd, fillV_full]
    exact frP (by kernel_rfl)
  | succ n ih =>
    intro k; intros; rename_i hk
    have hkC : k < t.C := by omega
    have hd : decide ((k : Int) < (t.C : Int)) = true := by simp; omega
    have k0 : (0 : Int) ≤ (k : Int) := by omega
    have hlt := cell_lt hi hkC
    have hj : i * t.C + k < t.net.n := by show _ < t.R * t.C + t.R + t.C; omega
    have hA : NetAt (X ++ [Blk.cells 0 1 true (fillV t.C (t.mat f i) k)]) 0 1 t.R t.C gn t.net.n (arcB gn t.net f) := ⟨by rw [low_snoc hX _ (by omega), h0], by rw [low_snoc hX _ (by omega), h1], by decide, flat_arcB _ _ _⟩
    have cc := cellArc_call hA (i := i) (k := k) (by omega) hC8 (by omega) 2 (nx + 1)
    have hN := hA.net
    have hB := hA.arcs
    have hlk := looks_net hA
    have hS := get_snoc hX (Blk.cells 0 1 true (fillV t.C (t.mat f i) k))
    have hL := len_snoc hX (Blk.cells 0 1 true (fillV t.C (t.mat f i) k))
    have ha := arcsV_get (f := f) hj
    have hg : (fillV t.C (t.mat f i) k)[k]? = some (.int .i64 0) := by rw [fillV_get _ hkC, if_neg (Nat.lt_irrefl k)]
    have z0 : decide (0 < nx + 1) = true := decide_eq_true (by omega)
    have z1 : decide (1 < nx + 1) = true := decide_eq_true (by omega)
    have z2 : decide (nx < nx + 1) = true := decide_eq_true (by omega)
    have hdj : decide (((i * t.C + k : Nat) : Int) < (t.net.n : Int)) = true := by simp only [decide_eq_true_eq]; omega
    have j0 : (0 : Int) ≤ ((i * t.C + k : Nat) : Int) := by omega
    have hst : ∀ b', (X ++ [Blk.cells 0 1 true (fillV t.C (t.mat f i) k)]).set nx b' = X ++ [b'] := fun b' => set_snoc hX _ b'
    have hfs : (fillV t.C (t.mat f i) k).set k (.int .i64 (f (i * t.C + k))) = fillV t.C (t.mat f i) (k + 1) := fillV_set (t.mat f i)
    have ro2 : decide (2 ≤ nx) = true := decide_eq_true h2
    have lt1 : (nx < nx + 1) = True := eq_true (by omega)
    have htr : ∀ T, trunc (nx + 1) ⟨T, X ++ [Blk.cells 0 1 true (fillV t.C (t.mat f i) (k + 1))], [], 2, [3, 41]⟩ = ⟨T, X ++ [Blk.cells 0 1 true (fillV t.C (t.mat f i) (k + 1))], [], 2, [3, 41]⟩ := fun T => by
      unfold trunc
      rw [if_pos (by rw [len_snoc hX]; exact Nat.le_refl _)]
    have ih' := ih (k + 1)
    simp only [netB, arcB] at cc hN hB
    simp only [go_sem, simprocAttr, Try.f106] at ih' ⊢
    rw [exec_loop]
    simp only [go_sem, simprocAttr, hd, k0, Int.toNat_natCast, cc, hN, hB, hS, hL, ha, hg, hdj, j0, hst, hfs, ro2, lt1, z0, z1, z2, hlk, fillV_length, arcsV_length, h2]
    rw [apart_ok]
    · simp only [go_sem, simprocAttr, htr, hL, wrap_succ (show k < 2 ^ 63 - 1 by omega)]
      exact ih' _ _ _ _ _ _ _ _ _ _ _ _ _ _ _ _ _ _ _ _ _ _ _ _ _ _ _ _ _ _ _ _ _ _ _ _ _ (by omega)
    · exact apart_of_W (by kernel_rfl)

def matD (t : Tab) (f : Nat → Int) (n : Nat) : List RowD := (List.range n).map fun i => (0, intsV t.C (t.mat f i))
theorem matD_succ (t : Tab) (f : Nat → Int) (n : Nat) : matD t f (n + 1) = matD t f n ++ [(0, intsV t.C (t.mat f n))] := by simp [matD, List.range_succ]
theorem matD_length (t : Tab) (f : Nat → Int) (n : Nat) : (matD t f n).length = n := by simp [matD]

def mtH (t : Tab) (gn : Nat) (f : Nat → Int) (g n : Nat) : Heap := rwH [netB t.R t.C 1 gn t.net.n, arcB gn t.net f] [] g 1 (matD t f n)

theorem mat_outer {t : Tab} {gn : Nat} {f : Nat → Int} (hC8 : t.C ≤ 8) (hR8 : t.R ≤ 8) : ∀ (n i g : Nat) (j1 j2 j4 j5 j6 j7 j8 j9 j12 j13 j14 j15 j16 j17 j18 j19 j20 j21 j22 j23 j24 j25 j26 j27 j28 j29 j30 j31 j32 j33 j34 j35 j36 j37 j38 j39 j40 j41 j42 j43 j44 : AVal), i + n = t.R →
    Goes (execT env (Try.f106.at [1, 1, 0, 1, 0]) ⟨[.ptr 0 0 0 0, j1, j2, .ref 2 (gR g (matD t f i)) 0 (matD t f i).length false, j4, j5, j6, j7, j8, j9, .int .i64 t.R, .int .i64 i, j12, j13, j14, j15, j16, j17, j18, j19, j20, j21, j22, j23, j24, j25, j26, j27, j28, j29, j30, j31, j32, j33, j34, j35, j36, j37, j38, j39, j40, j41, j42, j43, j44], mtH t gn f g i, [], 2, [3, 41]⟩) fun ex st =>
      ex = .exit 0 ∧ ∃ (g : Nat), FrP 45 [(3, .ref 2 (gR g (matD t f t.R)) 0 (matD t f t.R).length false)] (mtH t gn f g t.R) [] 2 [3, 41] st := by
  intro n
  induction n with
  | zero =>
    intro i g; intros; rename_i hi
    have hd : decide ((i : Int) < (t.R : Int)) = false := by simp; omega
    have : i = t.R := by omega
    subst this
    simp only [go_sem, simprocAttr, Try.f106]
    rw [exec_loop]
    simp only [go_sem, simprocAttr, hd]
    exact ⟨g, frP (by kernel_rfl)⟩
  | succ n ih =>
    intro i g; intros; rename_i hi
    have hiR : i < t.R := by omega
    have hd : decide ((i : Int) < (t.R : Int)) = true := by simp; omega
    have c0 : (0 : Int) ≤ (t.C : Int) := by omega
    have m1 : t.C * 9 ≤ maxBytes := by unfold maxBytes; omega
    have hX : (mtH t gn f g i).length = 3 + 2 * i := by unfold mtH; rw [rwH_len, matD_length]; rfl
    have h0 : ∀ Z : Heap, (mtH t gn f g i ++ Z)[0]? = some (netB t.R t.C 1 gn t.net.n) := fun Z => rwH_A Z (A := [netB t.R t.C 1 gn t.net.n, arcB gn t.net f]) (i := 0) (Nat.zero_lt_succ 1)
    have h1 : ∀ Z : Heap, (mtH t gn f g i ++ Z)[1]? = some (arcB gn t.net f) := fun Z => rwH_A Z (A := [netB t.R t.C 1 gn t.net.n, arcB gn t.net f]) (i := 1) (Nat.lt_succ_self 1)
    have h0' : (mtH t gn f g i)[0]? = some (netB t.R t.C 1 gn t.net.n) := by have := h0 []; rwa [List.append_nil] at this
    have h1' : (mtH t gn f g i)[1]? = some (arcB gn t.net f) := by have := h1 []; rwa [List.append_nil] at this
    obtain ⟨ex, st, hx, hp⟩ := mat_inner (t := t) (gn := gn) (f := f) hX h0' h1' (by omega) hC8 hiR hR8 (.ref 2 (gR g (matD t f i)) 0 (matD t f i).length false) (.int .i64 t.R) (.int .i64 i) t.C 0 _ _ _ _ _ _ _ _ _ _ _ _ _ _ _ _ _ _ _ _ _ _ _ _ _ _ _ _ _ _ _ _ _ _ _ _ _ (by omega)
    obtain ⟨rfl, jp, rfl⟩ := hp
    have hL := len_snoc hX (Blk.cells 0 1 true (intsV t.C (t.mat f i)))
    have hrl : ((0, intsV t.C (t.mat f i)) : RowD).2.length = t.C := intsV_length _ _
    have hacc : ∀ Z : Heap, (mtH t gn f g i ++ Z)[2]? = some (accR g 3 (matD t f i)) := fun Z => rwH_acc Z
    have hpos : ∀ b, ((mtH t gn f g i ++ [Blk.cells 0 1 true (intsV t.C (t.mat f i))]) ++ [b])[3 + 2 * i + 1]? = some b := fun b => get_snoc hL b
    obtain ⟨g', ap⟩ := append_row (t := 46) (H := (mtH t gn f g i ++ [Blk.cells 0 1 true (intsV t.C (t.mat f i))]) ++ [Blk.cells 0 1 false [AVal.ref (3 + 2 * i) 0 0 t.C false]]) (q := 2) (j := 3 + 2 * i + 1) (g := g) (p := 3) (rs := matD t f i) (r := (0, intsV t.C (t.mat f i))) (cl := false) (ro := 2) ti46 ti51 ⟨rfl, rfl, rfl, rfl⟩ rfl
      (by rw [List.append_assoc]; exact hacc _) (by rw [hpos, matD_length, hrl]) (by rw [matD_length]; omega) (3 + 2 * i + 2) (Nat.le_refl _)
    rw [← matD_succ] at ap
    have hpush := rwH_push (A := [netB t.R t.C 1 gn t.net.n, arcB gn t.net f]) (B := []) (g := g) (sz := 1) (rs := matD t f i) (r := (0, intsV t.C (t.mat f i))) g'
    rw [← matD_succ] at hpush
    have hpush : ((mtH t gn f g i ++ [Blk.cells 0 1 true (intsV t.C (t.mat f i))]) ++ [Blk.cells 0 1 false [AVal.ref (3 + 2 * i) 0 0 t.C false]]).set 2 (accR g' 3 (matD t f (i + 1))) = mtH t gn f g' (i + 1) := by
      rw [matD_length, hrl] at hpush
      exact hpush
    have htr := fun T => rwH_trunc (A := [netB t.R t.C 1 gn t.net.n, arcB gn t.net f]) (B := []) (g := g') (sz := 1) (rs := matD t f i) (r := (0, intsV t.C (t.mat f i))) (m := 3 + 2 * i) (by rw [matD_length]; rfl) T 2 [3, 41]
    rw [← matD_succ] at htr
    have htr : ∀ T, trunc (3 + 2 * i) ⟨T, mtH t gn f g' (i + 1), [], 2, [3, 41]⟩ = ⟨T, mtH t gn f g' (i + 1), [], 2, [3, 41]⟩ := htr
    have z1 : decide (2 < 3 + 2 * i + 1 + 1) = true := decide_eq_true (by omega)
    have z2 : (2 < 3 + 2 * i + 1 + 1) = True := eq_true (by omega)
    have hL2 : ∀ b, ((mtH t gn f g i ++ [Blk.cells 0 1 true (intsV t.C (t.mat f i))]) ++ [b]).length = 3 + 2 * i + 1 + 1 := fun b => len_snoc hL b
    have ih' := ih (i + 1) g'
    simp only [go_sem, simprocAttr, Try.f106, Int.ofNat_zero, Int.natCast_zero] at ih' hx ⊢
    rw [exec_loop]
    simp only [go_sem, simprocAttr, hd, h0', netB, c0, m1, Int.toNat_natCast, fillV_zero t.C (t.mat f i), hX]
    rw [hx]
    simp only [go_sem, simprocAttr, hL, hL2, ap, hpush, htr, z1, z2, wrap_succ (show i < 2 ^ 63 - 1 by omega)]
    exact ih' _ _ _ _ _ _ _ _ _ _ _ _ _ _ _ _ _ _ _ _ _ _ _ _ _ _ _ _ _ _ _ _ _ _ _ _ _ _ _ _ _ (by omega)

set_option maxRecDepth 10000
set_option maxHeartbeats 2000000

def matM (t : Tab) (x : Nat → Nat → Int) : MatV := ⟨false, 1, vecA t.R fun i => ⟨false, 1, vecA t.C (x i)⟩⟩

theorem matM_lit {t : Tab} (hR : 1 ≤ t.R) (f : Nat → Int) : rowsLit 1 (matD t f t.R) = (matM t (t.mat f)).v := by
  have hne : matD t f t.R ≠ [] := fun h => by
    have := matD_length t f t.R
    rw [h] at this; simp at this; omega
  unfold rowsLit
  rw [if_neg hne]
  unfold matM MatV.v matD
  simp only [List.map_map, vecA]
  congr 1
  refine List.map_congr_left fun i _ => ?_
  show AVal.lit false 1 (intsV t.C (t.mat f i)) = _
  rw [intsV_eq]; rfl

theorem matM_m (t : Tab) (x : Nat → Nat → Int) : (matM t x).m = vecA t.R fun i => vecA t.C (x i) := by
  unfold MatV.m matM
  rw [vecA_map]

theorem matM_of {t : Tab} {x : Nat → Nat → Int} {i k : Nat} (hi : i < t.R) (hk : k < t.C) : matOf (matM t x).m i k = x i k := by
  rw [matM_m]
  unfold matOf
  have h1 : (vecA t.R fun i => vecA t.C (x i)).getD i [] = vecA t.C (x i) := getD_some (vecA_get _ hi)
  rw [h1]
  exact getD_some (vecA_get _ hk)

theorem matM_dims (t : Tab) (x : Nat → Nat → Int) : dimsB t (matM t x).m = true := by
  rw [matM_m]
  unfold dimsB
  simp [vecA]

theorem fits_congr {t : Tab} {x y : Nat → Nat → Int} (h : ∀ i k, i < t.R → k < t.C → x i k = y i k) (hx : Fits t x) : Fits t y where
  cell i k hi hk := by rw [← h i k hi hk]; exact hx.cell i k hi hk
  row i hi := by
    have := hx.row i hi
    rwa [sumN_congr fun k hk => h i k hi hk] at this
  col k hk := by
    have := hx.col k hk
    rwa [sumN_congr fun i hi => h i k hi hk] at this

theorem matM_fits {t : Tab} {x : Nat → Nat → Int} (h : Fits t x) : fitsB t (matOf (matM t x).m) = true :=
  fitsB_iff.2 (fits_congr (fun i k hi hk => (matM_of hi hk).symm) h)

theorem matM_wf {t : Tab} (hO : t.Ok) {x : Nat → Nat → Int} (h : Fits t x) : (matM t x).Wf := by
  have hR8 := hO.R8
  have hC8 := hO.C8
  have hm : ∀ s ∈ (matM t x).rows, ∃ i, i < t.R ∧ s = ⟨false, 1, vecA t.C (x i)⟩ := by
    intro s hs
    unfold matM vecA at hs
    obtain ⟨i, hi, rfl⟩ := List.mem_map.1 hs
    exact ⟨i, List.mem_range.1 hi, rfl⟩
  refine ⟨.inr rfl, fun s hs => ?_, ?_, fun s hs => ?_, fun s hs y hy => ?_⟩
  · obtain ⟨i, _, rfl⟩ := hm s hs; exact .inr rfl
  · unfold matM; simp only [vecA_length]; omega
  · obtain ⟨i, _, rfl⟩ := hm s hs
    simp only [vecA_length]; omega
  · obtain ⟨i, hi, rfl⟩ := hm s hs
    simp only [vecA, List.mem_map, List.mem_range] at hy
    obtain ⟨k, hk, rfl⟩ := hy
    have h1 := h.cell i k hi hk
    have h2 := hO.cell_ok hi hk
    omega

theorem matrix_call {H : Heap} {p a gn : Nat} {t : Tab} {f : Nat → Int} (h : NetAt H p a t.R t.C gn t.net.n (arcB gn t.net f)) (hO : t.Ok) (ro nx : Nat) : callT env 106 [.ptr p 0 0 0] ro H nx = some (.ret (matM t (t.mat f)).v, .ups []) := by
  have hR1 := hO.R1
  obtain ⟨ex, st, hx, hp⟩ := mat_outer (t := t) (gn := gn) (f := f) hO.C8 hO.R8 t.R 0 0 _ _ _ _ _ _ _ _ _ _ _ _ _ _ _ _ _ _ _ _ _ _ _ _ _ _ _ _ _ _ _ _ _ _ _ _ _ _ _ _ _ (by omega)
  obtain ⟨rfl, g, jp, rfl⟩ := hp
  refine call_netro (H' := mtH t gn f g t.R) (v := .ref 2 (gR g (matD t f t.R)) 0 (matD t f t.R).length false) rfl rfl rfl rfl h (lend_ptr rfl rfl) rfl ?_ ?_ rfl
  · have e0 : matD t f 0 = [] := rfl
    have e1 : mtH t gn f 0 0 = [netB t.R t.C 1 gn t.net.n, arcB gn t.net f, .cells 0 0 false []] := rfl
    simp only [go_sem, simprocAttr, Try.f106, e0, e1, gR_nil, List.length_nil, Int.natCast_zero, Int.ofNat_zero, netB, arcB] at hx
    rw [run_unfold fn106 rfl]
    simp only [go_sem, simprocAttr, Try.f106, netB, arcB]
    rw [hx]
    simp only [go_sem, simprocAttr, unwind, modeEx, resultsOf, one]
  · have h1 := toLit_rows (A := [netB t.R t.C 1 gn t.net.n, arcB gn t.net f]) (B := []) (Z := []) (ok := fun j => decide (2 ≤ j) && !([] : List Nat).contains j) (g := g) (sz := 1) (n := 6) (rs := matD t f t.R) rfl (fun j hj => by
      have : 2 ≤ j := by simp at hj; omega
      simp [this])
    rw [List.append_nil] at h1
    rw [← matM_lit hR1, ← h1]
    rfl

def MatAns (t : Tab) (v : AVal) : Prop := (t.ok = false ∧ v = .tuple [.lit true 0 [], .bool false, .int .i64 60]) ∨ (t.Ok ∧ canB t = false ∧ v = .tuple [.lit true 0 [], .bool false, .int .i64 0]) ∨
  (t.Ok ∧ canB t = true ∧ ∃ x, Fits t x ∧ v = .tuple [(matM t x).v, .bool true, .int .i64 0])

theorem MatAns.pure {t : Tab} {v : AVal} (h : MatAns t v) : noRef v = true := by
  rcases h with ⟨_, rfl⟩ | ⟨_, _, rfl⟩ | ⟨_, _, x, _, rfl⟩ <;> rfl

theorem Matrix_run {T : TabV} (hT : T.Wf) : ∃ w H', MatAns T.tab w ∧ runT env 44 [T.v] [] 0 = some (.ret w, H') := by
  rcases settled_call hT 0 [boxT T] 1 with ⟨hok, us, hc, X, rfl⟩ | ⟨hO, hcan, us, hc, X, rfl⟩ | ⟨hO, hcan, f, g, _, hin, hci, hc⟩
  · refine ⟨.tuple [.lit true 0 [], .bool false, .int .i64 60], ?_⟩
    refine Exists.imp (fun H' h => ⟨.inl ⟨hok, rfl⟩, h⟩) ?_
    have hp := putU_end X [boxT T]
    simp only [boxT, List.length_cons, List.length_nil, Nat.zero_add, Nat.reduceAdd, List.cons_append, List.nil_append] at hc hp
    rw [run_unfold fn44 rfl]
    simp only [go_sem, simprocAttr, Try.f44, hc, hp, unwind, modeEx, resultsOf, one]
    exact ⟨_, rfl⟩
  · refine ⟨.tuple [.lit true 0 [], .bool false, .int .i64 0], ?_⟩
    refine Exists.imp (fun H' h => ⟨.inr (.inl ⟨hO, hcan, rfl⟩), h⟩) ?_
    have hp := putU_end X [boxT T]
    simp only [boxT, List.length_cons, List.length_nil, Nat.zero_add, Nat.reduceAdd, List.cons_append, List.nil_append] at hc hp
    rw [run_unfold fn44 rfl]
    simp only [go_sem, simprocAttr, Try.f44, hc, hp, unwind, modeEx, resultsOf, one]
    exact ⟨_, rfl⟩
  · refine ⟨.tuple [(matM T.tab (T.tab.mat f)).v, .bool true, .int .i64 0], ?_⟩
    refine Exists.imp (fun H' h => ⟨.inr (.inr ⟨hO, hcan, _, fits_of_flow hin hci, rfl⟩), h⟩) ?_
    have hA : NetAt (boxT T :: setX T 1 g f) 4 3 T.tab.R T.tab.C g T.tab.net.n (arcB g T.tab.net f) := ⟨rfl, rfl, by decide, flat_arcB _ _ _⟩
    have mc := matrix_call hA hO 0 6
    simp only [setX, boxT, netB, arcB, cellP88] at hc mc
    rw [run_unfold fn44 rfl]
    simp only [go_sem, simprocAttr, Try.f44, hc, numbered, mc, unwind, modeEx, resultsOf, one]
    exact ⟨_, rfl⟩

set_option maxRecDepth 10000
set_option maxHeartbeats 2000000

def Tab.setCell (t : Tab) (i k : Nat) (x : Spn) : Tab := ⟨t.rows, t.cols, t.cells.set i ((t.cells.getD i []).set k x)⟩

theorem setCell_R (t : Tab) (i k : Nat) (x : Spn) : (t.setCell i k x).R = t.R := rfl
theorem setCell_C (t : Tab) (i k : Nat) (x : Spn) : (t.setCell i k x).C = t.C := rfl

theorem setCell_ok {t : Tab} (hO : t.Ok) {i k : Nat} {x : Spn} (hi : i < t.R) (hx : x.ok = true) : (t.setCell i k x).Ok := by
  have hw : ∀ l ∈ t.cells.set i ((t.cells.getD i []).set k x), l.length = t.C ∧ ∀ y ∈ l, y.ok = true := by
    intro l hl
    rcases List.mem_or_eq_of_mem_set hl with h | rfl
    · exact ⟨hO.wid l h, hO.cel l h⟩
    · have h1 : t.cells.getD i [] ∈ t.cells := getD_mem (by rw [hO.len]; exact hi) _
      refine ⟨by rw [List.length_set]; exact hO.wid _ h1, fun y hy => ?_⟩
      rcases List.mem_or_eq_of_mem_set hy with h | rfl
      · exact hO.cel _ h1 y h
      · exact hx
  exact { hO with
    len := by show (t.cells.set i _).length = t.R; rw [List.length_set]; exact hO.len
    wid := fun l hl => (hw l hl).1
    cel := fun l hl => (hw l hl).2 }

theorem setCell_cell {t : Tab} (hO : t.Ok) {i k : Nat} (x : Spn) (hi : i < t.R) (hk : k < t.C) (i' k' : Nat) : (t.setCell i k x).cell i' k' = if i' = i ∧ k' = k then x else t.cell i' k' := by
  have hl := hO.len
  have h1 : t.cells.getD i [] ∈ t.cells := getD_mem (by omega) _
  have hw := hO.wid _ h1
  unfold Tab.cell Tab.setCell
  simp only
  by_cases h : i' = i
  · subst h
    have e1 : (t.cells.set i' ((t.cells.getD i' []).set k x)).getD i' [] = (t.cells.getD i' []).set k x := by
      rw [List.getD_eq_getElem?_getD, List.getElem?_set_self (by omega)]; rfl
    rw [e1]
    by_cases h2 : k' = k
    · subst h2
      rw [if_pos ⟨rfl, rfl⟩, List.getD_eq_getElem?_getD, List.getElem?_set_self (by omega)]; rfl
    · rw [if_neg (fun e => h2 e.2), List.getD_eq_getElem?_getD, List.getElem?_set_ne (Ne.symm h2), ← List.getD_eq_getElem?_getD]
  · rw [if_neg (fun e => h e.1)]
    have e1 : (t.cells.set i ((t.cells.getD i []).set k x)).getD i' [] = t.cells.getD i' [] := by
      rw [List.getD_eq_getElem?_getD, List.getElem?_set_ne (Ne.symm h), ← List.getD_eq_getElem?_getD]
    rw [e1]

theorem rowA_set {t : Tab} (hl : t.cells.length = t.R) {i k : Nat} (x : Spn) (hi : i < t.R) (i' : Nat) : rowA (t.setCell i k x) i' = if i' = i then (rowA t i).set k (spV x) else rowA t i' := by
  unfold rowA Tab.setCell
  simp only
  by_cases h : i' = i
  · subst h
    rw [if_pos rfl, List.getD_eq_getElem?_getD (l := t.cells.set _ _), List.getElem?_set_self (by omega)]
    simp only [Option.getD_some]
    rw [List.map_set]
  · rw [if_neg h, List.getD_eq_getElem?_getD (l := t.cells.set _ _), List.getElem?_set_ne (Ne.symm h), ← List.getD_eq_getElem?_getD]

theorem TbAt.write {H : Heap} {a b q ga gb g : Nat} {ps : Nat → Nat} {t : Tab} (h : TbAt H a b q ga gb g ps t) (hl : t.cells.length = t.R) {i k : Nat} (hi : i < t.R) (x : Spn) :
    TbAt (H.set (ps i) (.cells 0 2 true ((rowA t i).set k (spV x)))) a b q ga gb g ps (t.setCell i k x) := by
  obtain ⟨l1, l2, l3, l4⟩ := h.lt
  obtain ⟨p1, p2, p3⟩ := h.pa i hi
  refine ⟨?_, ?_, ?_, fun j hj => ?_, h.ab, h.aq, h.bq, h.pa, h.pp⟩
  · rw [List.getElem?_set_ne p1]; exact h.rows
  · rw [List.getElem?_set_ne p2]; exact h.cols
  · rw [List.getElem?_set_ne p3]; exact h.acc
  · rw [rowA_set hl x hi]
    by_cases e : j = i
    · subst e; rw [if_pos rfl, List.getElem?_set_self (l4 j hi)]
    · rw [if_neg e, List.getElem?_set_ne (fun e' => e (h.pp i j hi hj e').symm)]
      exact h.row j hj

theorem rowA_get {t : Tab} (hO : t.Ok) {i k : Nat} (hi : i < t.R) (hk : k < t.C) : (rowA t i)[k]? = some (spV (t.cell i k)) := by
  have h1 : t.cells.getD i [] ∈ t.cells := getD_mem (by rw [hO.len]; exact hi) _
  have hw := hO.wid _ h1
  unfold rowA Tab.cell
  rw [List.getElem?_map, List.getElem?_eq_getElem (by omega), List.getD_eq_getElem?_getD (l := t.cells.getD i []), List.getElem?_eq_getElem (by omega)]
  rfl

noncomputable def attB (t : Tab) (i k n : Int) : Bool := (t.cell i.toNat k.toNat).has n && canB (t.setCell i.toNat k.toNat ⟨n, n⟩)
def AttAns (t : Tab) (i k n : Int) (v : AVal) : Prop := (askS t i k ≠ 0 ∧ v = .tuple [.lit true 0 [], .bool false, .int .i64 (askS t i k)]) ∨
  (askS t i k = 0 ∧ attB t i k n = false ∧ v = .tuple [.lit true 0 [], .bool false, .int .i64 0]) ∨
  (askS t i k = 0 ∧ t.Ok ∧ outB t i k = false ∧ attB t i k n = true ∧ ∃ x, Fits (t.setCell i.toNat k.toNat ⟨n, n⟩) x ∧ v = .tuple [(matM t x).v, .bool true, .int .i64 0])
theorem AttAns.pure {t : Tab} {i k n : Int} {v : AVal} (h : AttAns t i k n v) : noRef v = true := by
  rcases h with ⟨_, rfl⟩ | ⟨_, _, rfl⟩ | ⟨_, _, _, _, x, _, rfl⟩ <;> rfl

theorem attain_call {T : TabV} (hT : T.Wf) (i k n : Int) : ∃ w, AttAns T.tab i k n w ∧ ∀ ro H nx, callT env 55 [T.v, .int .i64 i, .int .i64 k, .int .i64 n] ro H nx = some (.ret w, .ups []) := by
  have hu : underL 0 [T.v, .int .i64 i, .int .i64 k, .int .i64 n] = true := by simp [underL, AVal.under, TabV.under]
  have : ∃ w H', AttAns T.tab i k n w ∧ runT env 55 [T.v, .int .i64 i, .int .i64 k, .int .i64 n] [] 0 = some (.ret w, H') := by
    rcases asked_call hT i k 0 [boxT T] 1 with ⟨hz, us, hc, X, rfl⟩ | ⟨hz, hO, hcan, ho, f, gf, hin, hci, hc⟩
    · have hz' : decide (askS T.tab i k = 0) = false := decide_eq_false hz
      refine ⟨.tuple [.lit true 0 [], .bool false, .int .i64 (askS T.tab i k)], ?_⟩
      refine Exists.imp (fun H' h => ⟨.inl ⟨hz, rfl⟩, h⟩) ?_
      have hp := putU_end X [boxT T]
      simp only [boxT, List.length_cons, List.length_nil, Nat.zero_add, Nat.reduceAdd, List.cons_append, List.nil_append] at hc hp
      rw [run_unfold fn55 rfl]
      simp only [go_sem, simprocAttr, Try.f55, hc, hz', hp, unwind, modeEx, resultsOf, one]
      exact ⟨_, rfl⟩
    · obtain ⟨r, c, rfl, rfl, hr, hcc⟩ := outB_no ho
      have r0 : (0 : Int) ≤ (r : Int) := by omega
      have c0 : (0 : Int) ≤ (c : Int) := by omega
      obtain ⟨s, _, q1, q2, q3, _, _⟩ := TabV.at hT hO hr hcc
      have q3 := eq_true q3
      have dR : decide ((r : Int) < (T.tab.R : Int)) = true := by simp; omega
      have dC : decide ((c : Int) < (T.tab.C : Int)) = true := by simp; omega
      cases hh : (T.tab.cell r c).has n with
      | false =>
        refine ⟨.tuple [.lit true 0 [], .bool false, .int .i64 0], ?_⟩
        refine Exists.imp (fun H' h => ⟨.inr (.inl ⟨hz, by unfold attB; rw [Int.toNat_natCast, Int.toNat_natCast, hh]; rfl, rfl⟩), h⟩) ?_
        simp only [askX, setX, boxT, netB, arcB, cellP88, Nat.reduceAdd] at hc
        rw [run_unfold fn55 rfl]
        simp only [go_sem, simprocAttr, Try.f55, hc, numbered, r0, c0, Int.toNat_natCast, q1, q2, q3, hh, unwind, modeEx, resultsOf, one]
        exact ⟨_, rfl⟩
      | true =>
        obtain ⟨gc, cl⟩ := clone_call hT hO
        have H0len : (boxT T :: askX T 1 gf f).length = 7 := rfl
        have cl := cl 0 (boxT T :: askX T 1 gf f) 7
        have at0 := clone_at hO (boxT T :: askX T 1 gf f) gc
        rw [H0len] at at0
        have hpu := putU_end (clX T 7 gc) (boxT T :: askX T 1 gf f)
        rw [H0len] at hpu
        have hXl := clX_len T 7 gc hO.R1
        generalize hX : clX T 7 gc = X at cl at0 hpu hXl
        generalize hp : clP' 7 = ps at at0
        have at1 := at0.more [.cells 0 3 false [memT T.tab (7 + 2) (7 + 3) (7 + 10) 0 0 gc]]
        have at2 := at1.write (k := c) hO.len hr ⟨n, n⟩
        obtain ⟨l1, l2, l3, l4⟩ := at1.lt
        have l4 := l4 r hr
        have hlen2 : (((boxT T :: askX T 1 gf f) ++ X) ++ [Blk.cells 0 3 false [memT T.tab (7 + 2) (7 + 3) (7 + 10) 0 0 gc]]).length = 7 + X.length + 1 := by
          rw [List.length_append, List.length_append, H0len]; rfl
        have hO2 : (T.tab.setCell r c ⟨n, n⟩).Ok := setCell_ok hO hr (by
          have h1 := Spn.has_iff.1 hh
          have h2 := hO.cell_ok hr hcc
          simp [Spn.ok]; omega)
        have hpne : ps r ≠ 7 + X.length := fun e => by
          have := at0.lt.2.2.2 r hr
          rw [List.length_append, H0len] at this
          omega
        have hcell : ((((boxT T :: askX T 1 gf f) ++ X) ++ [Blk.cells 0 3 false [memT T.tab (7 + 2) (7 + 3) (7 + 10) 0 0 gc]]).set (ps r) (.cells 0 2 true ((rowA T.tab r).set c (spV ⟨n, n⟩))))[7 + X.length]? = some (.cells 0 3 false [memT T.tab (7 + 2) (7 + 3) (7 + 10) 0 0 gc]) := by
          rw [List.getElem?_set_ne hpne]
          exact get_snoc (by rw [List.length_append, H0len]) _
        obtain ⟨w, Hm, hw, mr⟩ := Matrix_run (canon_wf hO2.R8 hO2.C8 hO2.len hO2.wid)
        rw [canon_tab] at hw
        obtain ⟨ids, hle⟩ := at2.lend (lits := [0]) hO2.R8 hO2.len hO2.wid rfl (args := []) rfl
        obtain ⟨us, mc, _⟩ := call_lent (f := 44) rfl rfl rfl rfl hle tv_pure mr (handBack_noRef _ _ _ _ _ hw.pure) hw.pure (7 + X.length + 1)
        have hans : ∃ v, AttAns T.tab r c n v ∧ v = w := by
          have ha : attB T.tab r c n = canB (T.tab.setCell r c ⟨n, n⟩) := by unfold attB; rw [Int.toNat_natCast, Int.toNat_natCast, hh, Bool.true_and]
          rcases hw with ⟨h, _⟩ | ⟨_, h, rfl⟩ | ⟨_, h, x, hx, rfl⟩
          · rw [Tab.ok_iff.2 hO2] at h; cases h
          · exact ⟨_, .inr (.inl ⟨hz, by rw [ha, h], rfl⟩), rfl⟩
          · exact ⟨_, .inr (.inr ⟨hz, hO, ho, by rw [ha, h], x, hx, rfl⟩), rfl⟩
        obtain ⟨w3, hans, rfl⟩ := hans
        obtain ⟨x1, x2, x3, hw3⟩ : ∃ x1 x2 x3, w3 = .tuple [x1, x2, x3] := by
          rcases hans with ⟨_, rfl⟩ | ⟨_, _, rfl⟩ | ⟨_, _, _, _, x, _, rfl⟩ <;> exact ⟨_, _, _, rfl⟩
        refine ⟨w3, ?_⟩
        refine Exists.imp (fun H' h => ⟨hans, h⟩) ?_
        subst hw3
        have hacc := at1.acc
        have hrow := at1.row r hr
        have hget := rowA_get hO hr hcc
        have hva : (vecA T.tab.R fun i => AVal.ref (ps i) 0 0 T.tab.C false)[r]? = some (.ref (ps r) 0 0 T.tab.C false) := vecA_get _ hr
        have z1 : (ps r < X.length + 1 + 1 + 1 + 1 + 1 + 1 + 1 + 1) = True := eq_true (by rw [hlen2] at l4; omega)
        rw [show 7 + X.length = X.length + 1 + 1 + 1 + 1 + 1 + 1 + 1 by omega] at hcell mc
        have gs := fun b : Blk => get_snoc (X := X) rfl b
        have ss := fun b b' : Blk => set_snoc (X := X) rfl b b'
        have ls := fun b : Blk => len_snoc (X := X) rfl b
        simp only [askX, setX, boxT, netB, arcB, cellP88, Nat.reduceAdd, memT, setCell_R, setCell_C, List.cons_append, List.nil_append] at hc cl hpu hacc hrow hcell mc
        have wr : ∀ y : Spn, writeAt (spV y) 0 (.agg [.int .i64 n, .int .i64 n]) = some (spV ⟨n, n⟩) := fun _ => rfl
        rw [run_unfold fn55 rfl]
        simp only [go_sem, simprocAttr, Try.f55, hc, numbered, r0, c0, Int.toNat_natCast, q1, q2, q3, hh, wr, Nat.zero_le, cl, hpu, gs, ss, ls, hacc, hva, hrow, hget, dR, dC, rowA_length hO.len hO.wid hr, Nat.lt_add_one, z1, List.length_set, hcell, mc, unwind, modeEx, resultsOf, one]
        exact ⟨_, rfl⟩
  obtain ⟨w, H', hw, h⟩ := this
  exact ⟨w, hw, fun ro H nx => call_pure rfl rfl rfl hu h hw.pure ro H nx⟩

set_option maxRecDepth 10000
set_option maxHeartbeats 4000000

def apartV (bf : Array Nat) : List Foot → Bool
  | [] => true
  | a :: l => (l.all fun b => (bf.getD b.i 0).testBit a.i || !clash a b) && apartV bf l
theorem apart_of_V {bf : Array Nat} : ∀ {l : List Foot}, apartV bf l = true → apart bf l = true
  | [], _ => rfl
  | a :: l, h => by
    simp only [apartV, Bool.and_eq_true] at h
    simp only [apart, Bool.and_eq_true]
    refine ⟨?_, apart_of_V h.2⟩
    rw [← h.1]
    congr 1
    funext b
    exact Bool.or_comm _ _

set_option maxRecDepth 10000
set_option maxHeartbeats 2000000

set_option maxRecDepth 10000
set_option maxHeartbeats 2000000

def eR (t : Tab) (c : CutA) (e : Spn) (i : Nat) : Spn := if c.l1.getD i false then plusS e (t.row i) else e
set_option maxRecDepth 10000
set_option maxHeartbeats 2000000

end Go.Proofs.Ytgfejpngfikjiaa.Tidy


