/-
  What the functions that SharesParts reaches compute; the law, run.
-/
import Derived.Test.YtgfejpngfikjiaaCe
import Derived.Test.YtgfejpngfikjiaaCf
set_option linter.all false
namespace Go.Proofs.Ytgfejpngfikjiaa.Tidy
open Go Go.IntWalk
set_option maxRecDepth 10000
set_option linter.unusedSimpArgs false
set_option maxHeartbeats 2000000

def cutRow (C : Nat) (c : CutA) (i k : Nat) : List Nat := ((List.range k).filter fun k => c.l1.getD i false && c.l2.getD k false).map (i * C + ·)
theorem cutRow_succ (C : Nat) (c : CutA) (i k : Nat) : cutRow C c i (k + 1) = if c.l1.getD i false && c.l2.getD k false then cutRow C c i k ++ [i * C + k] else cutRow C c i k := by
  unfold cutRow
  rw [List.range_succ, List.filter_append, List.filter_cons, List.filter_nil]
  by_cases h : (c.l1.getD i false && c.l2.getD k false) = true
  · rw [if_pos h, if_pos h, List.map_append]; rfl
  · rw [if_neg h, if_neg h, List.append_nil]
theorem cutRow_length (C : Nat) (c : CutA) (i k : Nat) : (cutRow C c i k).length ≤ k := by
  unfold cutRow
  rw [List.length_map]
  have := List.length_filter_le (fun k => c.l1.getD i false && c.l2.getD k false) (List.range k)
  simpa using this

def blkH (T : TabV) (c : CutA) (g : Nat) (f : Nat → Int) (gt : Nat) (l : List Nat) : Heap := [boxT T, .cells 0 2 false [c.v], .cells 0 2 true [.agg [.int .i64 0, .int .i64 0]], boxT T, boxT T, arcB g T.tab.net f, netB T.tab.R T.tab.C 5 g T.tab.net.n, cellP88 6, accB 1 gt (natsV l)]

theorem blk_inner {T : TabV} (hO : T.tab.Ok) {c : CutA} (hc : c.Wf) (h1 : c.l1.length = T.tab.R) (h2 : c.l2.length = T.tab.C) (g : Nat) (f : Nat → Int) {i : Nat} (hi : i < T.tab.R) (l : List Nat) (hl : l.length ≤ 64) : ∀ (n k gt : Nat) (j0 j1 j2 j5 j7 j10 j11 j12 j13 j14 j15 j16 j17 j18 j19 j20 j21 j22 j23 j24 j25 j26 j27 j30 j31 j32 j33 j34 j37 j38 j39 j40 j41 j42 j43 j44 j45 j46 j47 j48 j49 j50 j51 j52 j53 j54 j55 j56 j57 j58 j59 j60 j61 j62 : AVal), k + n = T.tab.C →
    Goes (execT env (Try.f32.at [1, 1, 1, 1, 1, 0, 1, 0, 0, 1, 1, 0, 0, 1, 1, 0]) ⟨[j0, j1, j2, .ptr 1 0 0 0, .ptr 2 0 0 0, j5, .ptr 6 0 0 0, j7, .ref 8 (accG gt (natsV (l ++ cutRow T.tab.C c i k))) 0 (l ++ cutRow T.tab.C c i k).length false, .int .i64 i, j10, j11, j12, j13, j14, j15, j16, j17, j18, j19, j20, j21, j22, j23, j24, j25, j26, j27, .int .i64 T.tab.R, .int .i64 i, j30, j31, j32, j33, j34, .int .i64 T.tab.C, .int .i64 k, j37, j38, j39, j40, j41, j42, j43, j44, j45, j46, j47, j48, j49, j50, j51, j52, j53, j54, j55, j56, j57, j58, j59, j60, j61, j62], blkH T c g f gt (l ++ cutRow T.tab.C c i k), [], 0, [8]⟩) fun e s =>
      e = .exit 2 ∧ ∃ (gt : Nat), FrP 63 [(3, .ptr 1 0 0 0), (4, .ptr 2 0 0 0), (6, .ptr 6 0 0 0), (8, .ref 8 (accG gt (natsV (l ++ cutRow T.tab.C c i T.tab.C))) 0 (l ++ cutRow T.tab.C c i T.tab.C).length false), (28, .int .i64 T.tab.R), (29, .int .i64 i)] (blkH T c g f gt (l ++ cutRow T.tab.C c i T.tab.C)) [] 0 [8] s := by
  have hR8 := hO.R8
  have hC8 := hO.C8
  intro n
  induction n with
  | zero =>
    intro k gt; intros; rename_i hk
    have hd : decide ((k : Int) < (T.tab.C : Int)) = false := by simp; omega
    have : k = T.tab.C := by omega
    subst this
    simp only [go_sem, simprocAttr, Try.f32]
    rw [exec_loop]
    simp only [go_sem, simprocAttr, hd]
    exact ⟨gt, frP (by kernel_rfl)⟩
  | succ n ih =>
    intro k gt; intros; rename_i hk
    have hd : decide ((k : Int) < (T.tab.C : Int)) = true := by simp; omega
    have k0 : (0 : Int) ≤ (k : Int) := by omega
    have i0 : (0 : Int) ≤ (i : Int) := by omega
    have hz1 := sz_of hc.s1 (List.getElem?_eq_getElem (show i < c.l1.length by omega))
    have hz2 := sz_of hc.s2 (List.getElem?_eq_getElem (show k < c.l2.length by omega))
    have g1 := boolsV_get (l := c.l1) (i := i) (by omega)
    have g2 := boolsV_get (l := c.l2) (i := k) (by omega)
    have hlen := cutRow_length T.tab.C c i k
    have hll : (l ++ cutRow T.tab.C c i k).length < 2 ^ 30 := by rw [List.length_append]; omega
    have es := cutRow_succ T.tab.C c i k
    have hA : NetAt (blkH T c g f gt (l ++ cutRow T.tab.C c i k)) 6 5 T.tab.R T.tab.C g T.tab.net.n (arcB g T.tab.net f) := ⟨rfl, rfl, by decide, flat_arcB _ _ _⟩
    have cc := cellArc_call hA (i := i) (k := k) (by omega) hC8 (by omega) 0 9
    obtain ⟨gt', ap⟩ := append_nat (H := blkH T c g f gt (l ++ cutRow T.tab.C c i k)) (id := 8) (l := l ++ cutRow T.tab.C c i k) (j := i * T.tab.C + k) (cl := true) rfl hll 9 (ro := 0) (Nat.zero_le _)
    have iha := ih (k + 1) gt
    have ihb := ih (k + 1) gt'
    rw [es] at iha ihb
    rw [List.append_assoc] at ap
    simp only [blkH, boxT, netB, arcB, cellP88] at cc ap
    cases hb1 : c.l1.getD i false <;> cases hb2 : c.l2.getD k false <;> rw [hb1] at iha ihb g1 <;> rw [hb2] at iha ihb g2 <;>
      simp only [go_sem, simprocAttr, Try.f32, blkH, boxT, netB, arcB, cellP88, Bool.false_eq_true, if_false, if_true, Bool.and_true, Bool.and_false, Bool.and_self] at iha ihb ⊢ <;>
      rw [exec_loop] <;>
      simp only [go_sem, simprocAttr, hd, k0, i0, Int.toNat_natCast, hz1, hz2, g1, g2, cc, ap, wrap_succ (show k < 2 ^ 63 - 1 by omega)] <;>
      first
      | exact iha _ _ _ _ _ _ _ _ _ _ _ _ _ _ _ _ _ _ _ _ _ _ _ _ _ _ _ _ _ _ _ _ _ _ _ _ _ _ _ _ _ _ _ _ _ _ _ _ _ _ _ _ _ _ (by omega)
      | exact ihb _ _ _ _ _ _ _ _ _ _ _ _ _ _ _ _ _ _ _ _ _ _ _ _ _ _ _ _ _ _ _ _ _ _ _ _ _ _ _ _ _ _ _ _ _ _ _ _ _ _ _ _ _ _ (by omega)

def blkL (C : Nat) (c : CutA) (n : Nat) : List Nat := (List.range n).flatMap fun i => cutRow C c i C
theorem blkL_succ (C : Nat) (c : CutA) (n : Nat) : blkL C c (n + 1) = blkL C c n ++ cutRow C c n C := by simp [blkL, List.range_succ]
theorem blkL_length (C : Nat) (c : CutA) : ∀ n, (blkL C c n).length ≤ n * C
  | 0 => by simp [blkL]
  | n + 1 => by
    rw [blkL_succ, List.length_append, Nat.succ_mul]
    have := blkL_length C c n
    have := cutRow_length C c n C
    omega

theorem blk_outer {T : TabV} (hO : T.tab.Ok) {c : CutA} (hc : c.Wf) (h1 : c.l1.length = T.tab.R) (h2 : c.l2.length = T.tab.C) (g : Nat) (f : Nat → Int) : ∀ (n i gt : Nat) (j0 j1 j2 j5 j7 j9 j10 j11 j12 j13 j14 j15 j16 j17 j18 j19 j20 j21 j22 j23 j24 j25 j26 j27 j30 j31 j32 j33 j34 j35 j36 j37 j38 j39 j40 j41 j42 j43 j44 j45 j46 j47 j48 j49 j50 j51 j52 j53 j54 j55 j56 j57 j58 j59 j60 j61 j62 : AVal), i + n = T.tab.R →
    Goes (execT env (Try.f32.at [1, 1, 1, 1, 1, 0, 1, 0]) ⟨[j0, j1, j2, .ptr 1 0 0 0, .ptr 2 0 0 0, j5, .ptr 6 0 0 0, j7, .ref 8 (accG gt (natsV (blkL T.tab.C c i))) 0 (blkL T.tab.C c i).length false, j9, j10, j11, j12, j13, j14, j15, j16, j17, j18, j19, j20, j21, j22, j23, j24, j25, j26, j27, .int .i64 T.tab.R, .int .i64 i, j30, j31, j32, j33, j34, j35, j36, j37, j38, j39, j40, j41, j42, j43, j44, j45, j46, j47, j48, j49, j50, j51, j52, j53, j54, j55, j56, j57, j58, j59, j60, j61, j62], blkH T c g f gt (blkL T.tab.C c i), [], 0, [8]⟩) fun e s =>
      e = .exit 0 ∧ ∃ (gt : Nat), FrP 63 [(4, .ptr 2 0 0 0), (6, .ptr 6 0 0 0), (8, .ref 8 (accG gt (natsV (blkL T.tab.C c T.tab.R))) 0 (blkL T.tab.C c T.tab.R).length false)] (blkH T c g f gt (blkL T.tab.C c T.tab.R)) [] 0 [8] s := by
  have hR8 := hO.R8
  have hC8 := hO.C8
  intro n
  induction n with
  | zero =>
    intro i gt; intros; rename_i hi
    have hd : decide ((i : Int) < (T.tab.R : Int)) = false := by simp; omega
    have : i = T.tab.R := by omega
    subst this
    simp only [go_sem, simprocAttr, Try.f32]
    rw [exec_loop]
    simp only [go_sem, simprocAttr, hd]
    exact ⟨gt, frP (by kernel_rfl)⟩
  | succ n ih =>
    intro i gt; intros; rename_i hi
    have hiR : i < T.tab.R := by omega
    have hd : decide ((i : Int) < (T.tab.R : Int)) = true := by simp; omega
    have hl := blkL_length T.tab.C c i
    have hl2 : i * T.tab.C ≤ 8 * 8 := Nat.mul_le_mul (by omega) hC8
    obtain ⟨ex, st, hx, hp⟩ := blk_inner hO hc h1 h2 g f hiR (blkL T.tab.C c i) (by omega) T.tab.C 0 gt _ _ _ _ _ _ _ _ _ _ _ _ _ _ _ _ _ _ _ _ _ _ _ _ _ _ _ _ _ _ _ _ _ _ _ _ _ _ _ _ _ _ _ _ _ _ _ _ _ _ _ _ _ _ (by omega)
    obtain ⟨rfl, gt', jp, rfl⟩ := hp
    have z0 : cutRow T.tab.C c i 0 = [] := rfl
    have ih' := ih (i + 1) gt'
    rw [blkL_succ] at ih'
    simp only [go_sem, simprocAttr, Try.f32, blkH, boxT, netB, arcB, cellP88, z0, List.append_nil, Int.natCast_zero, Int.ofNat_zero] at hx
    simp only [go_sem, simprocAttr, Try.f32, blkH, boxT, netB, arcB, cellP88] at ih' ⊢
    rw [exec_loop]
    simp only [go_sem, simprocAttr, hd]
    rw [hx]
    simp only [go_sem, simprocAttr, blkH, boxT, netB, arcB, cellP88, wrap_succ (show i < 2 ^ 63 - 1 by omega)]
    exact ih' _ _ _ _ _ _ _ _ _ _ _ _ _ _ _ _ _ _ _ _ _ _ _ _ _ _ _ _ _ _ _ _ _ _ _ _ _ _ _ _ _ _ _ _ _ _ _ _ _ _ _ _ _ _ _ _ _ (by omega)

set_option maxRecDepth 10000
set_option maxHeartbeats 2000000

def shrI (a : Int) (i : Nat) : Int := a.fdiv (2 ^ min i 8)
def bitI (a : Int) (i : Nat) : Int := IntKind.u8.wrap ((BitVec.ofInt 8 (shrI a i)) &&& (BitVec.ofInt 8 1)).toNat
def bitU (a : Int) (i : Nat) : Bool := decide (bitI a i = 1)

theorem bit_all : ∀ a, a < 256 → ∀ i, i < 8 → decide (bitI (a : Nat) i = 1) = (BitVec.ofInt 8 (a : Nat)).getLsbD i := by decide +kernel

theorem bitU_eq {a : Int} (h0 : 0 ≤ a) (h1 : a < 256) {i : Nat} (hi : i < 8) : bitU a i = (BitVec.ofInt 8 a).getLsbD i := by
  have := bit_all a.toNat (by omega) i hi
  rw [show ((a.toNat : Nat) : Int) = a by omega] at this
  exact this

theorem shr_u8 (a : Int) (i : Nat) (z : AVal) : binOp env .shr 5 ⟨.int .u8, 1, 1, z⟩ (.int .u8 a) (.int .i64 (i : Int)) = some (.int .u8 (shrI a i)) := by
  simp only [binOp]
  rw [if_neg (by omega)]
  rfl
theorem and_u8 (a : Int) (i : Nat) (z : AVal) : binOp env .and 5 ⟨.int .u8, 1, 1, z⟩ (.int .u8 (shrI a i)) (.int .u8 1) = some (.int .u8 (bitI a i)) := rfl

def bitsL (a : Int) (n : Nat) : List Bool := (List.range n).map (bitU a)
theorem bitsL_succ (a : Int) (n : Nat) : bitsL a (n + 1) = bitsL a n ++ [bitU a n] := by simp [bitsL, List.range_succ]
theorem bitsL_length (a : Int) (n : Nat) : (bitsL a n).length = n := by simp [bitsL]
theorem bitsL_getD {a : Int} {n i : Nat} (h : i < n) : (bitsL a n).getD i false = bitU a i := getD_some (by simp [bitsL, h])

def ctH (T : TabV) (g1 g2 : Nat) (l1 l2 : List Bool) : Heap := [boxT T, .cells 0 2 false [.agg [.lit true 0 [], .lit true 0 []]], accB 1 g1 (boolsV l1), accB 1 g2 (boolsV l2), .cells 0 2 false [.agg [.ref 2 (accG g1 (boolsV l1)) 0 l1.length false, .ref 3 (accG g2 (boolsV l2)) 0 l2.length false]]]

theorem ct_rows {T : TabV} (hO : T.tab.Ok) (a b : Int) : ∀ (n i g1 : Nat) (j0 j4 j5 j8 j9 j10 j11 j14 j15 j16 j17 j18 j19 j20 j21 j22 j23 j24 j25 j26 j27 j28 j29 j30 j31 j32 j33 j34 j35 j36 j37 j38 j39 j40 j41 j42 j43 j44 : AVal), i + n = T.tab.R →
    Goes (execT env (Try.f42.at [1, 1, 0, 1, 0]) ⟨[j0, .int .u8 a, .int .u8 b, .ptr 0 0 0 0, j4, j5, .ptr 1 0 0 0, .ptr 4 0 0 0, j8, j9, j10, j11, .int .i64 T.tab.R, .int .i64 i, j14, j15, j16, j17, j18, j19, j20, j21, j22, j23, j24, j25, j26, j27, j28, j29, j30, j31, j32, j33, j34, j35, j36, j37, j38, j39, j40, j41, j42, j43, j44], ctH T g1 0 (bitsL a i) [], [], 0, [7]⟩) fun e s =>
      e = .exit 0 ∧ ∃ (g1 : Nat), FrP 45 [(1, .int .u8 a), (2, .int .u8 b), (3, .ptr 0 0 0 0), (6, .ptr 1 0 0 0), (7, .ptr 4 0 0 0)] (ctH T g1 0 (bitsL a T.tab.R) []) [] 0 [7] s := by
  have hR8 := hO.R8
  intro n
  induction n with
  | zero =>
    intro i g1; intros; rename_i hi
    have hd : decide ((i : Int) < (T.tab.R : Int)) = false := by simp; omega
    have : i = T.tab.R := by omega
    subst this
    simp only [go_sem, simprocAttr, Try.f42]
    rw [exec_loop]
    simp only [go_sem, simprocAttr, hd]
    exact ⟨g1, frP (by kernel_rfl)⟩
  | succ n ih =>
    intro i g1; intros; rename_i hi
    have hd : decide ((i : Int) < (T.tab.R : Int)) = true := by simp; omega
    obtain ⟨g1', ap⟩ := append_bool (H := ctH T g1 0 (bitsL a i) []) (id := 2) (l := bitsL a i) (b := bitU a i) (cl := true) rfl (by rw [bitsL_length]; omega) 5 (ro := 0) (Nat.zero_le _)
    rw [← bitsL_succ] at ap
    have hb : decide (bitI a i = 1) = bitU a i := rfl
    have ih' := ih (i + 1) g1'
    simp only [ctH, boxT, List.length_nil] at ap
    simp only [go_sem, simprocAttr, Try.f42, ctH, boxT, List.length_nil] at ih' ⊢
    rw [exec_loop]
    simp only [go_sem, simprocAttr, hd, shr_u8, and_u8, hb, ap]
    rw [apart_ok]
    · simp only [go_sem, simprocAttr, ctH, wrap_succ (show i < 2 ^ 63 - 1 by omega)]
      exact ih' _ _ _ _ _ _ _ _ _ _ _ _ _ _ _ _ _ _ _ _ _ _ _ _ _ _ _ _ _ _ _ _ _ _ _ _ _ _ (by omega)
    · kernel_rfl

theorem ct_cols {T : TabV} (hO : T.tab.Ok) (a b : Int) (g1 : Nat) (l1 : List Bool) : ∀ (n i g2 : Nat) (j0 j1 j4 j5 j8 j9 j10 j11 j12 j13 j14 j15 j16 j17 j18 j19 j20 j21 j22 j23 j24 j25 j26 j27 j28 j31 j32 j33 j34 j35 j36 j37 j38 j39 j40 j41 j42 j43 j44 : AVal), i + n = T.tab.C →
    Goes (execT env (Try.f42.at [1, 1, 1, 0, 1, 0]) ⟨[j0, j1, .int .u8 b, .ptr 0 0 0 0, j4, j5, .ptr 1 0 0 0, .ptr 4 0 0 0, j8, j9, j10, j11, j12, j13, j14, j15, j16, j17, j18, j19, j20, j21, j22, j23, j24, j25, j26, j27, j28, .int .i64 T.tab.C, .int .i64 i, j31, j32, j33, j34, j35, j36, j37, j38, j39, j40, j41, j42, j43, j44], ctH T g1 g2 l1 (bitsL b i), [], 0, [7]⟩) fun e s =>
      e = .exit 2 ∧ ∃ (g2 : Nat), FrP 45 [(6, .ptr 1 0 0 0), (7, .ptr 4 0 0 0)] (ctH T g1 g2 l1 (bitsL b T.tab.C)) [] 0 [7] s := by
  have hC8 := hO.C8
  intro n
  induction n with
  | zero =>
    intro i g2; intros; rename_i hi
    have hd : decide ((i : Int) < (T.tab.C : Int)) = false := by simp; omega
    have : i = T.tab.C := by omega
    subst this
    simp only [go_sem, simprocAttr, Try.f42]
    rw [exec_loop]
    simp only [go_sem, simprocAttr, hd]
    exact ⟨g2, frP (by kernel_rfl)⟩
  | succ n ih =>
    intro i g2; intros; rename_i hi
    have hd : decide ((i : Int) < (T.tab.C : Int)) = true := by simp; omega
    obtain ⟨g2', ap⟩ := append_bool (H := ctH T g1 g2 l1 (bitsL b i)) (id := 3) (l := bitsL b i) (b := bitU b i) (cl := true) rfl (by rw [bitsL_length]; omega) 5 (ro := 0) (Nat.zero_le _)
    rw [← bitsL_succ] at ap
    have hb : decide (bitI b i = 1) = bitU b i := rfl
    have ih' := ih (i + 1) g2'
    simp only [ctH, boxT] at ap
    simp only [go_sem, simprocAttr, Try.f42, ctH, boxT] at ih' ⊢
    rw [exec_loop]
    simp only [go_sem, simprocAttr, hd, shr_u8, and_u8, hb, ap]
    rw [apart_ok]
    · simp only [go_sem, simprocAttr, ctH, wrap_succ (show i < 2 ^ 63 - 1 by omega)]
      exact ih' _ _ _ _ _ _ _ _ _ _ _ _ _ _ _ _ _ _ _ _ _ _ _ _ _ _ _ _ _ _ _ _ _ _ _ _ _ _ _ (by omega)
    · kernel_rfl

def bitC (t : Tab) (a b : Int) : CutA := ⟨false, 1, bitsL a t.R, false, 1, bitsL b t.C⟩
theorem bitC_wf {t : Tab} (hO : t.Ok) (a b : Int) : (bitC t a b).Wf := by
  have := hO.R8
  have := hO.C8
  exact ⟨.inr rfl, .inr rfl, by simp only [bitC, bitsL_length]; omega, by simp only [bitC, bitsL_length]; omega⟩

theorem cut_call {T : TabV} (hO : T.tab.Ok) (a b : Int) (ro : Nat) (H : Heap) (nx : Nat) : callT env 42 [T.v, .int .u8 a, .int .u8 b] ro H nx = some (.ret (bitC T.tab a b).v, .ups []) := by
  have hR1 := hO.R1
  have hC1 := hO.C1
  obtain ⟨e1, t1, hx1, hp1⟩ := ct_rows hO a b T.tab.R 0 0 _ _ _ _ _ _ _ _ _ _ _ _ _ _ _ _ _ _ _ _ _ _ _ _ _ _ _ _ _ _ _ _ _ _ _ _ _ _ (by omega)
  obtain ⟨rfl, g1, jp, rfl⟩ := hp1
  obtain ⟨e2, t2, hx2, hp2⟩ := ct_cols hO a b g1 (bitsL a T.tab.R) T.tab.C 0 0 _ _ _ _ _ _ _ _ _ _ _ _ _ _ _ _ _ _ _ _ _ _ _ _ _ _ _ _ _ _ _ _ _ _ _ _ _ _ _ (by omega)
  obtain ⟨rfl, g2, jq, rfl⟩ := hp2
  have s0 : ∀ a, bitsL a 0 = [] := fun _ => rfl
  have b0 : boolsV [] = [] := rfl
  have n1 : boolsV (bitsL a T.tab.R) ≠ [] := by
    intro h; have := congrArg List.length h
    rw [boolsV_length, bitsL_length] at this; exact absurd this (by show T.tab.R ≠ 0; omega)
  have n2 : boolsV (bitsL b T.tab.C) ≠ [] := by
    intro h; have := congrArg List.length h
    rw [boolsV_length, bitsL_length] at this; exact absurd this (by show T.tab.C ≠ 0; omega)
  simp only [go_sem, simprocAttr, Try.f42, s0, b0, accB_nil, accG_nil, ctH, boxT, List.length_nil, Int.natCast_zero, Int.ofNat_zero] at hx1
  simp only [go_sem, simprocAttr, Try.f42, s0, b0, accB_nil, accG_nil, ctH, boxT, List.length_nil, Int.natCast_zero, Int.ofNat_zero] at hx2
  have : ∃ H' : Heap, H'[2]? = some (accB 1 g1 (boolsV (bitsL a T.tab.R))) ∧ H'[3]? = some (accB 1 g2 (boolsV (bitsL b T.tab.C))) ∧ runT env 42 [T.v, .int .u8 a, .int .u8 b] [] 0 = some (.ret (.agg [.ref 2 (accG g1 (boolsV (bitsL a T.tab.R))) 0 (bitsL a T.tab.R).length false, .ref 3 (accG g2 (boolsV (bitsL b T.tab.C))) 0 (bitsL b T.tab.C).length false]), H') := by
    refine ⟨?_, ?_, ?_, ?_⟩
    case refine_4 =>
      rw [run_unfold fn42 rfl]
      simp only [go_sem, simprocAttr, Try.f42, virtual, List.length_map, show T.rows.l.length = T.tab.R from rfl, show T.cols.l.length = T.tab.C from rfl]
      rw [hx1]
      simp only [go_sem, simprocAttr, ctH, boxT, b0, accB_nil, accG_nil, List.length_map, show T.cols.l.length = T.tab.C from rfl]
      rw [hx2]
      simp only [go_sem, simprocAttr, ctH, boxT, unwind, modeEx, resultsOf, one]
      rfl
    · rfl
    · rfl
  obtain ⟨H', h6, h7, h⟩ := this
  have t1 : (boolsV (bitsL a T.tab.R)).take (bitsL a T.tab.R).length = boolsV (bitsL a T.tab.R) := List.take_of_length_le (by rw [boolsV_length]; exact Nat.le_refl _)
  have t2 : (boolsV (bitsL b T.tab.C)).take (bitsL b T.tab.C).length = boolsV (bitsL b T.tab.C) := List.take_of_length_le (by rw [boolsV_length]; exact Nat.le_refl _)
  have a1 : accB 1 g1 (boolsV (bitsL a T.tab.R)) = .cells g1 1 true (boolsV (bitsL a T.tab.R)) := if_neg n1
  have a2 : accB 1 g2 (boolsV (bitsL b T.tab.C)) = .cells g2 1 true (boolsV (bitsL b T.tab.C)) := if_neg n2
  have c1 : accG g1 (boolsV (bitsL a T.tab.R)) = g1 := if_neg n1
  have c2 : accG g2 (boolsV (bitsL b T.tab.C)) = g2 := if_neg n2
  rw [a1] at h6
  rw [a2] at h7
  rw [c1, c2] at h
  refine call_back (w := (bitC T.tab a b).v) rfl rfl rfl (by simp [underL, AVal.under, TabV.under]) h ?_ ((bitC T.tab a b).under 0) ro H nx
  simp [handBack, toLit, noRef, AVal.under, mapO, h6, h7, t1, t2, CutA.v, bitC, boolsV_length]
end Go.Proofs.Ytgfejpngfikjiaa.Tidy

namespace Go.Proofs.Ytgfejpngfikjiaa.Tidy
open Go

theorem mem_blk {C R : Nat} {c : CutA} {i k : Nat} (hi : i < R) (hk : k < C) : (i * C + k ∈ blkL C c R) ↔ (c.l1.getD i false && c.l2.getD k false) = true := by
  simp only [blkL, cutRow, List.mem_flatMap, List.mem_map, List.mem_filter, List.mem_range]
  constructor
  · rintro ⟨i', hi', k', ⟨hk', h⟩, e⟩
    have e1 : i' = i := by rw [← cell_div (i := i') hk', ← cell_div (i := i) hk, e]
    subst e1
    have e2 : k' = k := by omega
    subst e2
    exact h
  · intro h
    exact ⟨i, hi, k, ⟨hk, h⟩, rfl⟩

theorem not_blk {C R : Nat} {c : CutA} {j : Nat} (hj : R * C ≤ j) : j ∉ blkL C c R := by
  simp only [blkL, cutRow, List.mem_flatMap, List.mem_map, List.mem_filter, List.mem_range]
  rintro ⟨i', hi', k', ⟨hk', h⟩, e⟩
  have := cell_lt hi' hk'
  omega

theorem brings_blk (t : Tab) (c : CutA) (x : Nat → Nat → Int) : t.brings (blkL t.C c t.R) x = sumN t.R fun i => sumN t.C fun k => if c.l1.getD i false && c.l2.getD k false then x i k else 0 := by
  unfold Tab.brings brings
  rw [show t.net.n = t.R * t.C + t.R + t.C from rfl, net_sum]
  rw [sumN_zero (n := t.R) (f := fun i => pickG (blkL t.C c t.R) (t.R * t.C + i) * t.flow x (t.R * t.C + i)) fun i _ => by
      unfold pickG; rw [if_neg (not_blk (by omega))]; omega,
    sumN_zero (n := t.C) (f := fun k => pickG (blkL t.C c t.R) (t.R * t.C + t.R + k) * t.flow x (t.R * t.C + t.R + k)) fun i _ => by
      unfold pickG; rw [if_neg (not_blk (by omega))]; omega, Int.add_zero, Int.add_zero]
  refine sumN_congr fun i hi => sumN_congr fun k hk => ?_
  rw [t.flow_cell x hi hk]
  unfold pickG
  by_cases h : (c.l1.getD i false && c.l2.getD k false) = true
  · rw [if_pos ((mem_blk hi hk).2 h), if_pos h]; omega
  · rw [if_neg fun e => h ((mem_blk hi hk).1 e), if_neg h]; omega

theorem brings_total (t : Tab) (x : Nat → Nat → Int) : t.brings (rowsL t t.R) x = sumN t.R fun i => sumN t.C (x i) := by
  have m1 : ∀ j, j < t.R * t.C → j ∉ rowsL t t.R := by
    intro j hj h
    simp only [rowsL, List.mem_map, List.mem_range] at h
    obtain ⟨i, _, e⟩ := h
    omega
  have m2 : ∀ i, i < t.R → t.R * t.C + i ∈ rowsL t t.R := by
    intro i hi
    simp only [rowsL, List.mem_map, List.mem_range]
    exact ⟨i, hi, rfl⟩
  have m3 : ∀ k, t.R * t.C + t.R + k ∉ rowsL t t.R := by
    intro k h
    simp only [rowsL, List.mem_map, List.mem_range] at h
    obtain ⟨i, hi, e⟩ := h
    omega
  unfold Tab.brings brings
  rw [show t.net.n = t.R * t.C + t.R + t.C from rfl, net_sum]
  rw [sumN_zero (n := t.R) (f := fun i => sumN t.C fun k => pickG (rowsL t t.R) (i * t.C + k) * t.flow x (i * t.C + k)) fun i hi => sumN_zero fun k hk => by
      unfold pickG; rw [if_neg (m1 _ (cell_lt hi hk))]; omega,
    sumN_zero (n := t.C) (f := fun k => pickG (rowsL t t.R) (t.R * t.C + t.R + k) * t.flow x (t.R * t.C + t.R + k)) fun k _ => by
      unfold pickG; rw [if_neg (m3 k)]; omega, Int.add_zero, Int.zero_add]
  refine sumN_congr fun i hi => ?_
  rw [t.flow_row x hi]
  unfold pickG
  rw [if_pos (m2 i hi)]; omega

def EndsP (t : Tab) (μ : (Nat → Nat → Int) → Int) (x : Spn) : Prop := (∃ s, Fits t s ∧ μ s = x.lo) ∧ (∃ s, Fits t s ∧ μ s = x.hi) ∧ ∀ s, Fits t s → x.lo ≤ μ s ∧ μ s ≤ x.hi

theorem EndsP.of {t : Tab} {l : List Nat} {lo hi : Int} (h : IsEnds t.net l lo hi) {μ : (Nat → Nat → Int) → Int} (e : ∀ s, t.brings l s = μ s) : EndsP t μ ⟨lo, hi⟩ := by
  obtain ⟨⟨s1, h1, e1⟩, ⟨s2, h2, e2⟩, h3⟩ := isEnds_iff.1 h
  exact ⟨⟨s1, h1, by rw [← e, e1]⟩, ⟨s2, h2, by rw [← e, e2]⟩, fun s hs => by rw [← e]; exact h3 s hs⟩

theorem EndsP.unique {t : Tab} {μ ν : (Nat → Nat → Int) → Int} {x y : Spn} (h : EndsP t μ x) (h' : EndsP t ν y) (e : ∀ s, Fits t s → μ s = ν s) : x = y := by
  obtain ⟨⟨s1, a1, b1⟩, ⟨s2, a2, b2⟩, c⟩ := h
  obtain ⟨⟨s3, a3, b3⟩, ⟨s4, a4, b4⟩, c'⟩ := h'
  have e1 := c' s1 a1
  have e2 := c' s2 a2
  have e3 := c s3 a3
  have e4 := c s4 a4
  rw [← e _ a1] at e1
  rw [← e _ a2] at e2
  rw [e _ a3] at e3
  rw [e _ a4] at e4
  have q1 : x.lo = y.lo := by omega
  have q2 : x.hi = y.hi := by omega
  cases x; cases y
  simp only at q1 q2
  rw [q1, q2]

theorem EndsP.le {t : Tab} {μ : (Nat → Nat → Int) → Int} {x : Spn} (h : EndsP t μ x) : x.lo ≤ x.hi := by
  obtain ⟨⟨s1, a1, b1⟩, _, c⟩ := h
  have := c s1 a1
  omega

def blkM (t : Tab) (p q : Nat → Bool) (x : Nat → Nat → Int) : Int := sumN t.R fun i => sumN t.C fun k => if p i && q k then x i k else 0

theorem blkM_congr {t : Tab} {p p' q q' : Nat → Bool} (hp : ∀ i, i < t.R → p i = p' i) (hq : ∀ k, k < t.C → q k = q' k) (x : Nat → Nat → Int) : blkM t p q x = blkM t p' q' x :=
  sumN_congr fun i hi => sumN_congr fun k hk => by rw [hp i hi, hq k hk]

theorem blkM_all (t : Tab) (x : Nat → Nat → Int) : blkM t (fun _ => true) (fun _ => true) x = sumN t.R fun i => sumN t.C (x i) := rfl
theorem blkM_row {t : Tab} {r : Nat} (hr : r < t.R) (x : Nat → Nat → Int) : blkM t (fun i => decide (i = r)) (fun _ => true) x = sumN t.C (x r) := by
  unfold blkM
  rw [← sumN_one hr (sumN t.C (x r))]
  refine sumN_congr fun i _ => ?_
  by_cases h : i = r
  · subst h; simp
  · simp only [h, decide_false, Bool.false_and, Bool.false_eq_true, if_false]
    exact sumN_zero fun _ _ => rfl
theorem blkM_col {t : Tab} {c : Nat} (hc : c < t.C) (x : Nat → Nat → Int) : blkM t (fun _ => true) (fun k => decide (k = c)) x = sumN t.R fun i => x i c := by
  unfold blkM
  refine sumN_congr fun i _ => ?_
  rw [← sumN_one hc (x i c)]
  refine sumN_congr fun k _ => ?_
  by_cases h : k = c
  · subst h; simp
  · simp [h]
theorem blkM_cell {t : Tab} {r c : Nat} (hr : r < t.R) (hc : c < t.C) (x : Nat → Nat → Int) : blkM t (fun i => decide (i = r)) (fun k => decide (k = c)) x = x r c := by
  unfold blkM
  rw [← sumN_one hr (x r c)]
  refine sumN_congr fun i _ => ?_
  by_cases h : i = r
  · subst h
    rw [if_pos rfl, ← sumN_one hc (x i c)]
    refine sumN_congr fun k _ => ?_
    by_cases h2 : k = c
    · subst h2; simp
    · simp [h2]
  · simp only [h, decide_false, Bool.false_and, Bool.false_eq_true, if_false]
    exact sumN_zero fun _ _ => rfl
theorem blkM_none (t : Tab) (q : Nat → Bool) (x : Nat → Nat → Int) : blkM t (fun _ => false) q x = 0 :=
  sumN_zero fun _ _ => sumN_zero fun _ _ => by simp
theorem blkM_parts (t : Tab) (p s q : Nat → Bool) (x : Nat → Nat → Int) : blkM t p q x = blkM t (fun i => p i && s i) q x + blkM t (fun i => p i && !s i) q x := by
  unfold blkM
  rw [← sumN_add]
  refine sumN_congr fun i _ => ?_
  rw [← sumN_add]
  refine sumN_congr fun k _ => ?_
  cases hp : p i <;> cases hs : s i <;> cases hq : q k <;> simp [hp, hs]
end Go.Proofs.Ytgfejpngfikjiaa.Tidy

namespace Go.Proofs.Ytgfejpngfikjiaa.Tidy
open Go Go.IntWalk
set_option maxRecDepth 10000
set_option linter.unusedSimpArgs false
set_option maxHeartbeats 2000000

noncomputable def blkS (t : Tab) (c : CutA) : Int := if t.ok then (if canB t then (if fitC t c then 0 else 61) else 31) else 60

theorem block_run {T : TabV} (hT : T.Wf) {c : CutA} (hc' : c.Wf) : ∃ (v : AVal) (H' : Heap), runT env 32 [T.v, c.v] [] 0 = some (.ret v, H') ∧ EndsAns T.tab (blkS T.tab c) (blkL T.tab.C c T.tab.R) v := by
  rcases settled_call hT 0 [boxT T, .cells 0 2 false [c.v], .cells 0 2 true [.agg [.int .i64 0, .int .i64 0]]] 3 with ⟨hok, us, hc, X, rfl⟩ | ⟨hO, hcan, us, hc, X, rfl⟩ | ⟨hO, hcan, f, g, _, hin, hci, hc⟩
  · have ha : blkS T.tab c = 60 := by unfold blkS; rw [hok]; rfl
    rw [ha]
    have : ∃ H', runT env 32 [T.v, c.v] [] 0 = some (.ret (.tuple [.agg [.int .i64 0, .int .i64 0], .int .i64 60]), H') := by
      have hp := putU_end X [boxT T, .cells 0 2 false [c.v], .cells 0 2 true [.agg [.int .i64 0, .int .i64 0]]]
      simp only [boxT, List.length_cons, List.length_nil, Nat.zero_add, Nat.reduceAdd, List.cons_append, List.nil_append] at hc hp
      rw [run_unfold fn32 rfl]
      simp only [go_sem, simprocAttr, Try.f32, hc, hp, unwind, modeEx, resultsOf, one]
      exact ⟨_, rfl⟩
    obtain ⟨H', h⟩ := this
    exact ⟨_, _, h, .inl ⟨by decide, rfl⟩⟩
  · have hok := Tab.ok_iff.2 hO
    have ha : blkS T.tab c = 31 := by unfold blkS; rw [hok, hcan]; rfl
    rw [ha]
    have : ∃ H', runT env 32 [T.v, c.v] [] 0 = some (.ret (.tuple [.agg [.int .i64 0, .int .i64 0], .int .i64 31]), H') := by
      have hp := putU_end X [boxT T, .cells 0 2 false [c.v], .cells 0 2 true [.agg [.int .i64 0, .int .i64 0]]]
      simp only [boxT, List.length_cons, List.length_nil, Nat.zero_add, Nat.reduceAdd, List.cons_append, List.nil_append] at hc hp
      rw [run_unfold fn32 rfl]
      simp only [go_sem, simprocAttr, Try.f32, hc, hp, unwind, modeEx, resultsOf, one]
      exact ⟨_, rfl⟩
    obtain ⟨H', h⟩ := this
    exact ⟨_, _, h, .inl ⟨by decide, rfl⟩⟩
  · have hok := Tab.ok_iff.2 hO
    have hf := fits_call T c
    cases hfc : fitC T.tab c with
    | false =>
      have ha : blkS T.tab c = 61 := by unfold blkS; rw [hok, hcan, hfc]; rfl
      rw [ha]
      have : ∃ H', runT env 32 [T.v, c.v] [] 0 = some (.ret (.tuple [.agg [.int .i64 0, .int .i64 0], .int .i64 61]), H') := by
        simp only [setX, boxT, netB, arcB, cellP88] at hc
        rw [run_unfold fn32 rfl]
        simp only [go_sem, simprocAttr, Try.f32, hc, numbered, hf, hfc, unwind, modeEx, resultsOf, one]
        exact ⟨_, rfl⟩
      obtain ⟨H', h⟩ := this
      exact ⟨_, _, h, .inl ⟨by decide, rfl⟩⟩
    | true =>
      have ha : blkS T.tab c = 0 := by unfold blkS; rw [hok, hcan, hfc]; rfl
      rw [ha]
      obtain ⟨h1, h2⟩ := fitC_iff.1 hfc
      have hR8 := hO.R8
      have hC8 := hO.C8
      have hl := blkL_length T.tab.C c T.tab.R
      have hl2 : T.tab.R * T.tab.C ≤ 8 * 8 := Nat.mul_le_mul hR8 hC8
      obtain ⟨e1, t1, hx1, hp1⟩ := blk_outer hO hc' h1 h2 g f T.tab.R 0 0 _ _ _ _ _ _ _ _ _ _ _ _ _ _ _ _ _ _ _ _ _ _ _ _ _ _ _ _ _ _ _ _ _ _ _ _ _ _ _ _ _ _ _ _ _ _ _ _ _ _ _ _ _ _ _ _ _ (by omega)
      obtain ⟨rfl, gt, jp, rfl⟩ := hp1
      obtain ⟨sz, hsz, hle⟩ := lend_acc (H := blkH T c g f gt (blkL T.tab.C c T.tab.R)) (p := 6) (q := 8) (g := gt) (l := blkL T.tab.C c T.tab.R) rfl
      obtain ⟨lo, hi, he, f', ec⟩ := ends_call (gn := g) (cl := false) (sz := sz) (l := blkL T.tab.C c T.tab.R) (netOk_tab hO) (net_pos hO) hin hci hsz (fun j hj => by
        simp only [blkL, cutRow, List.mem_flatMap, List.mem_map, List.mem_filter, List.mem_range] at hj
        obtain ⟨i, hi, k, ⟨hk, _⟩, rfl⟩ := hj
        have := cell_lt hi hk
        show _ < T.tab.R * T.tab.C + T.tab.R + T.tab.C
        omega) (by omega)
      have hA : NetAt (blkH T c g f gt (blkL T.tab.C c T.tab.R)) 6 5 T.tab.R T.tab.C g T.tab.net.n (arcB g T.tab.net f) := ⟨rfl, rfl, by decide, flat_arcB _ _ _⟩
      have ec := ec hA hle (by simp) 9
      have e0 : blkL T.tab.C c 0 = [] := rfl
      have en : natsV [] = [] := rfl
      simp only [setX, boxT, netB, arcB, cellP88] at hc
      simp only [blkH, boxT, netB, arcB, cellP88] at ec
      simp only [go_sem, simprocAttr, Try.f32, blkH, boxT, netB, arcB, cellP88, e0, en, accB_nil, accG_nil, List.length_nil, Int.natCast_zero, Int.ofNat_zero] at hx1
      have : ∃ H', runT env 32 [T.v, c.v] [] 0 = some (.ret (.tuple [.agg [.int .i64 lo, .int .i64 hi], .int .i64 0]), H') := by
        rw [run_unfold fn32 rfl]
        simp only [go_sem, simprocAttr, Try.f32, hc, numbered, hf, hfc]
        rw [hx1]
        simp only [go_sem, simprocAttr, blkH, boxT, netB, arcB, cellP88, ec, unwind, modeEx, resultsOf, one]
        exact ⟨_, rfl⟩
      obtain ⟨H', h⟩ := this
      exact ⟨_, _, h, .inr ⟨rfl, hO, lo, hi, he, rfl⟩⟩

theorem block_call {T : TabV} (hT : T.Wf) {c : CutA} (hc : c.Wf) : ∃ v, EndsAns T.tab (blkS T.tab c) (blkL T.tab.C c T.tab.R) v ∧ ∀ ro H nx, callT env 32 [T.v, c.v] ro H nx = some (.ret v, .ups []) := by
  obtain ⟨v, H', hr, hv⟩ := block_run hT hc
  exact ⟨v, hv, fun ro H nx => call_pure rfl rfl rfl (tc_pure T c) hr hv.pure.2 ro H nx⟩

set_option maxRecDepth 10000
set_option maxHeartbeats 2000000

theorem u8_nat : ∀ n : Nat, n < 256 → IntKind.u8.wrap (n : Int) = n := by decide +kernel

def ofB (x : BitVec 8) : Int := IntKind.u8.wrap (x.toNat : Int)
theorem ofB_eq (x : BitVec 8) : ofB x = x.toNat := u8_nat _ (by have := x.isLt; simpa using this)
theorem ofB_bd (x : BitVec 8) : 0 ≤ ofB x ∧ ofB x < 256 := by
  have := x.isLt
  rw [ofB_eq]; omega
theorem ofInt_ofB (x : BitVec 8) : BitVec.ofInt 8 (ofB x) = x := by
  rw [ofB_eq, BitVec.ofInt_natCast, BitVec.ofNat_toNat, BitVec.setWidth_eq]
theorem bitU_ofB (x : BitVec 8) {i : Nat} (hi : i < 8) : bitU (ofB x) i = x.getLsbD i := by
  rw [bitU_eq (ofB_bd x).1 (ofB_bd x).2 hi, ofInt_ofB]

def andI (a s : Int) : Int := ofB (BitVec.ofInt 8 a &&& BitVec.ofInt 8 s)
def anotI (a s : Int) : Int := ofB (BitVec.ofInt 8 a &&& ~~~ BitVec.ofInt 8 s)
theorem bitU_and {a s : Int} (ha : 0 ≤ a ∧ a < 256) (hs : 0 ≤ s ∧ s < 256) {i : Nat} (hi : i < 8) : bitU (andI a s) i = (bitU a i && bitU s i) := by
  unfold andI
  rw [bitU_ofB _ hi, BitVec.getLsbD_and, bitU_eq ha.1 ha.2 hi, bitU_eq hs.1 hs.2 hi]
theorem bitU_anot {a s : Int} (ha : 0 ≤ a ∧ a < 256) (hs : 0 ≤ s ∧ s < 256) {i : Nat} (hi : i < 8) : bitU (anotI a s) i = (bitU a i && !bitU s i) := by
  unfold anotI
  rw [bitU_ofB _ hi, BitVec.getLsbD_and, BitVec.getLsbD_not, bitU_eq ha.1 ha.2 hi, bitU_eq hs.1 hs.2 hi]
  simp [hi]
theorem and_b (a s : Int) (z : AVal) : binOp env .and 5 ⟨.int .u8, 1, 1, z⟩ (.int .u8 a) (.int .u8 s) = some (.int .u8 (andI a s)) := rfl
theorem anot_b (a s : Int) (z : AVal) : binOp env .andNot 5 ⟨.int .u8, 1, 1, z⟩ (.int .u8 a) (.int .u8 s) = some (.int .u8 (anotI a s)) := rfl

def oneI (r : Nat) : Int := IntKind.u8.wrap (1 * 2 ^ (min (r : Int).toNat 8))
theorem shl_b (r : Nat) (z : AVal) : binOp env .shl 5 ⟨.int .u8, 1, 1, z⟩ (.int .u8 1) (.int .i64 (r : Int)) = some (.int .u8 (oneI r)) := by
  simp only [binOp]
  rw [if_neg (by omega)]
  rfl
theorem one_all : ∀ r, r < 8 → (0 ≤ oneI r ∧ oneI r < 256) ∧ ∀ i, i < 8 → bitU (oneI r) i = decide (i = r) := by decide +kernel
theorem all_bits : ∀ i, i < 8 → bitU 255 i = true := by decide +kernel
theorem no_bits : ∀ i, i < 8 → bitU 0 i = false := by decide +kernel

theorem EndsAns.zero {t : Tab} {code : Int} {l : List Nat} {v : AVal} (h : EndsAns t code l v) (hc : code = 0) : ∃ lo hi, IsEnds t.net l lo hi ∧ v = .tuple [.agg [.int .i64 lo, .int .i64 hi], .int .i64 0] := by
  rcases h with ⟨h1, _⟩ | ⟨_, _, lo, hi, h2, rfl⟩
  · exact absurd hc h1
  · exact ⟨lo, hi, h2, rfl⟩

theorem blkM_bd {t : Tab} (hO : t.Ok) {s : Nat → Nat → Int} (h : Fits t s) (p q : Nat → Bool) : 0 ≤ blkM t p q s ∧ blkM t p q s ≤ 2 ^ 36 := by
  have hR8 := hO.R8
  have hC8 := hO.C8
  have h1 : ∀ i, i < t.R → 0 ≤ (sumN t.C fun k => if p i && q k then s i k else 0) ∧ (sumN t.C fun k => if p i && q k then s i k else 0) ≤ 2 ^ 33 := fun i hi => by
    have := sumN_bd (n := t.C) (f := fun k => if p i && q k then s i k else 0) (B := 2 ^ 30) fun k hk => by
      have h2 := h.cell i k hi hk
      have h3 := hO.cell_ok hi hk
      cases p i && q k <;> simp <;> omega
    omega
  have := sumN_bd (n := t.R) (f := fun i => sumN t.C fun k => if p i && q k then s i k else 0) (B := 2 ^ 33) h1
  unfold blkM
  omega

theorem EndsP.bd {t : Tab} (hO : t.Ok) {p q : Nat → Bool} {x : Spn} (h : EndsP t (blkM t p q) x) : (0 ≤ x.lo ∧ x.lo ≤ 2 ^ 36) ∧ 0 ≤ x.hi ∧ x.hi ≤ 2 ^ 36 := by
  obtain ⟨⟨s1, a1, b1⟩, ⟨s2, a2, b2⟩, _⟩ := h
  have c1 := blkM_bd hO a1 p q
  have c2 := blkM_bd hO a2 p q
  omega

theorem blk_ends {T : TabV} (hT : T.Wf) (hO : T.tab.Ok) (hcan : canB T.tab = true) (a b : Int) : ∃ x : Spn, EndsP T.tab (blkM T.tab (bitU a) (bitU b)) x ∧ ∀ ro H nx, callT env 32 [T.v, (bitC T.tab a b).v] ro H nx = some (.ret (.tuple [.agg [.int .i64 x.lo, .int .i64 x.hi], .int .i64 0]), .ups []) := by
  obtain ⟨v, hv, hc⟩ := block_call hT (bitC_wf hO a b)
  have hf : fitC T.tab (bitC T.tab a b) = true := fitC_iff.2 ⟨bitsL_length _ _, bitsL_length _ _⟩
  obtain ⟨lo, hi, he, rfl⟩ := hv.zero (by unfold blkS; rw [Tab.ok_iff.2 hO, hcan, hf]; rfl)
  refine ⟨⟨lo, hi⟩, EndsP.of he fun s => ?_, hc⟩
  rw [brings_blk]
  exact blkM_congr (fun i hi => bitsL_getD hi) (fun k hk => bitsL_getD hk) s

theorem parts_block {T : TabV} (hT : T.Wf) (hO : T.tab.Ok) (hcan : canB T.tab = true) (a b : Int) : ∃ x : Spn, EndsP T.tab (blkM T.tab (bitU a) (bitU b)) x ∧ ∀ {H : Heap} {p : Nat}, H[p]? = some (boxT T) → ∀ nx, callT env 57 [.int .u8 a, .int .u8 b, .ptr p 0 0 0] 0 H nx = some (.ret (.agg [.int .i64 x.lo, .int .i64 x.hi]), .ups [(p, boxT T)]) := by
  obtain ⟨x, hx, bc⟩ := blk_ends hT hO hcan a b
  refine ⟨x, hx, fun {H p} hp nx => ?_⟩
  have : ∃ X, runT env 57 [.int .u8 a, .int .u8 b, .ptr 0 0 0 0] [boxT T] 0 = some (.ret (.agg [.int .i64 x.lo, .int .i64 x.hi]), boxT T :: X) := by
    have ct := cut_call hO a b
    rw [run_unfold fn57 rfl]
    simp only [go_sem, simprocAttr, Try.f57, boxT, ct, bc]
    rw [apart_ok]
    · simp only [go_sem, simprocAttr, unwind, modeEx, resultsOf, one]
      exact ⟨_, rfl⟩
    · kernel_rfl
  obtain ⟨X, hr⟩ := this
  have hre : reach H fuel0 [p] [] = some [p] := by
    have hp' : H[p]? = some (.cells 0 3 false [T.v]) := hp
    unfold fuel0
    simp [reach, hp', refsL, TabV.refs]
  have h := call_fp (f := 57) (args := [.int .u8 a, .int .u8 b, .ptr p 0 0 0]) (qs := [.int .u8 a, .int .u8 b, .ptr p 0 0 0]) (lent := []) (fp := [p]) (bs := [boxT T]) (H := H) (H' := boxT T :: X) (v := .agg [.int .i64 x.lo, .int .i64 x.hi]) (w := .agg [.int .i64 x.lo, .int .i64 x.hi]) (ro := 0) (nx := nx) rfl rfl rfl
    (by rfl) (by simpa [refsL, AVal.refs] using hre) (by simp only [getAll, hp]) rfl
    (by
      have : renL (idx [p]) [.int .u8 a, .int .u8 b, .ptr p 0 0 0] = [.int .u8 a, .int .u8 b, .ptr 0 0 0 0] := by simp [renL, AVal.ren, idx]
      rw [this]
      simp only [List.map_cons, List.map_nil, renB_box]
      exact hr) rfl rfl (.inl rfl)
  rw [h]
  have e : renB (backF nx [p] []) (boxT T) = boxT T := renB_box T _
  show some (CRes.ret _, Out.ups [(p, renB (backF nx [p] []) (boxT T))]) = _
  rw [e]

set_option maxRecDepth 10000
set_option maxHeartbeats 4000000

theorem askS_in {t : Tab} {i k : Int} (hok : t.ok = true) (hcan : canB t = true) (h : outB t i k = false) : askS t i k = 0 := by
  unfold askS; rw [hok, hcan, h]; rfl
theorem outB_in {t : Tab} {i k : Nat} (hi : i < t.R) (hk : k < t.C) : outB t i k = false := by
  unfold outB
  rw [decide_eq_false (p := (i : Int) < 0) (by omega), decide_eq_false (p := (t.R : Int) ≤ i) (by omega), decide_eq_false (p := (k : Int) < 0) (by omega), decide_eq_false (p := (t.C : Int) ≤ k) (by omega)]; rfl

theorem total_ends {T : TabV} (hT : T.Wf) (hO : T.tab.Ok) (hcan : canB T.tab = true) : ∃ x : Spn, EndsP T.tab (blkM T.tab (fun _ => true) fun _ => true) x ∧ ∀ ro H nx, callT env 34 [T.v] ro H nx = some (.ret (.tuple [spV x, .int .i64 0]), .ups []) := by
  obtain ⟨v, hv, hc⟩ := total_call hT
  obtain ⟨lo, hi, he, rfl⟩ := hv.zero (askS_in (Tab.ok_iff.2 hO) hcan (outB_in hO.R1 hO.C1))
  exact ⟨⟨lo, hi⟩, EndsP.of he fun s => brings_total _ s, hc⟩
theorem row_ends {T : TabV} (hT : T.Wf) (hO : T.tab.Ok) (hcan : canB T.tab = true) {r : Nat} (hr : r < T.tab.R) : ∃ x : Spn, EndsP T.tab (blkM T.tab (fun i => decide (i = r)) fun _ => true) x ∧ ∀ ro H nx, callT env 28 [T.v, .int .i64 (r : Int)] ro H nx = some (.ret (.tuple [spV x, .int .i64 0]), .ups []) := by
  obtain ⟨v, hv, hc⟩ := rowE_call hT (r : Int)
  obtain ⟨lo, hi, he, rfl⟩ := hv.zero (askS_in (Tab.ok_iff.2 hO) hcan (outB_in hr hO.C1))
  exact ⟨⟨lo, hi⟩, EndsP.of he fun s => by rw [Int.toNat_natCast, brings_row _ _ hr, blkM_row hr], hc⟩
theorem col_ends {T : TabV} (hT : T.Wf) (hO : T.tab.Ok) (hcan : canB T.tab = true) {c : Nat} (hc' : c < T.tab.C) : ∃ x : Spn, EndsP T.tab (blkM T.tab (fun _ => true) fun k => decide (k = c)) x ∧ ∀ ro H nx, callT env 30 [T.v, .int .i64 (c : Int)] ro H nx = some (.ret (.tuple [spV x, .int .i64 0]), .ups []) := by
  obtain ⟨v, hv, hc⟩ := colE_call hT (c : Int)
  obtain ⟨lo, hi, he, rfl⟩ := hv.zero (askS_in (Tab.ok_iff.2 hO) hcan (outB_in (i := 0) hO.R1 hc'))
  exact ⟨⟨lo, hi⟩, EndsP.of he fun s => by rw [Int.toNat_natCast, brings_col _ _ hc', blkM_col hc'], hc⟩
theorem cell_ends {T : TabV} (hT : T.Wf) (hO : T.tab.Ok) (hcan : canB T.tab = true) {r c : Nat} (hr : r < T.tab.R) (hc' : c < T.tab.C) : ∃ x : Spn, EndsP T.tab (blkM T.tab (fun i => decide (i = r)) fun k => decide (k = c)) x ∧ ∀ ro H nx, callT env 26 [T.v, .int .i64 (r : Int), .int .i64 (c : Int)] ro H nx = some (.ret (.tuple [spV x, .int .i64 0]), .ups []) := by
  obtain ⟨v, hv, hc⟩ := cellE_call hT (r : Int) (c : Int)
  obtain ⟨lo, hi, he, rfl⟩ := hv.zero (askS_in (Tab.ok_iff.2 hO) hcan (outB_in hr hc'))
  exact ⟨⟨lo, hi⟩, EndsP.of he fun s => by rw [Int.toNat_natCast, Int.toNat_natCast, brings_cell _ _ hr hc', blkM_cell hr hc'], hc⟩

theorem parts_law (a0 a1 a2 a3 a4 a5 : List AVal) (h0 : FitT env 8 25 a0) (h1 : FitT env 8 3 a1) (h2 : FitT env 8 3 a2) (h3 : FitT env 8 5 a3) (h4 : FitT env 8 5 a4) (h5 : FitT env 8 5 a5) : ∃ H', runT env 14 [pack ⟨.struct [(22, 0), (22, 1), (23, 2)], 3, 72, .agg [.lit true 0 [], .lit true 0 [], .lit true 0 []]⟩ a0, pack ⟨.int .i64, 1, 8, .int .i64 (0)⟩ a1, pack ⟨.int .i64, 1, 8, .int .i64 (0)⟩ a2, pack ⟨.int .u8, 1, 1, .int .u8 (0)⟩ a3, pack ⟨.int .u8, 1, 1, .int .u8 (0)⟩ a4, pack ⟨.int .u8, 1, 1, .int .u8 (0)⟩ a5] [] 0 = some (.ret (.bool true), H') := by
  obtain ⟨T, hT, e0⟩ := fit_tab (m := 3) h0
  obtain ⟨row, rfl, _⟩ := fit_int ti3 h1
  obtain ⟨col, rfl, _⟩ := fit_int ti3 h2
  obtain ⟨rs, rfl, hrs⟩ := fit_int ti5 h3
  obtain ⟨cs, rfl, hcs⟩ := fit_int ti5 h4
  obtain ⟨so, rfl, hso⟩ := fit_int ti5 h5
  have hrs := wf_u8 hrs
  have hcs := wf_u8 hcs
  have hso := wf_u8 hso
  show ∃ H', runT env 14 [.agg a0, .int .i64 row, .int .i64 col, .int .u8 rs, .int .u8 cs, .int .u8 so] [] 0 = some (.ret (.bool true), H')
  rw [e0]
  have wk := work_call T hT
  have lr : T.rows.l.length = T.tab.R := rfl
  have lc : T.cols.l.length = T.tab.C := rfl
  rw [run_unfold fn14 rfl]
  cases hw : workB T.tab with
  | false =>
    simp only [go_sem, simprocAttr, Try.f14, wk, hw, unwind, modeEx, resultsOf, one]
    exact ⟨_, rfl⟩
  | true =>
    have hO := (work_ok hw).1
    have hR8 := hO.R8
    have hC8 := hO.C8
    have hok := Tab.ok_iff.2 hO
    cases d1 : decide (row < 0) with
    | true =>
      simp only [go_sem, simprocAttr, Try.f14, wk, hw, d1, unwind, modeEx, resultsOf, one]
      exact ⟨_, rfl⟩
    | false =>
    cases d2 : decide ((T.tab.R : Int) ≤ row) with
    | true =>
      simp only [go_sem, simprocAttr, Try.f14, wk, hw, d1, List.length_map, lr, d2, unwind, modeEx, resultsOf, one]
      exact ⟨_, rfl⟩
    | false =>
    cases d3 : decide (col < 0) with
    | true =>
      simp only [go_sem, simprocAttr, Try.f14, wk, hw, d1, List.length_map, lr, d2, d3, unwind, modeEx, resultsOf, one]
      exact ⟨_, rfl⟩
    | false =>
    cases d4 : decide ((T.tab.C : Int) ≤ col) with
    | true =>
      simp only [go_sem, simprocAttr, Try.f14, wk, hw, d1, List.length_map, lr, lc, d2, d3, d4, unwind, modeEx, resultsOf, one]
      exact ⟨_, rfl⟩
    | false =>
    have pc := poss_call hT
    unfold possV at pc
    rw [hok, ckS_ok hok, Bool.true_and] at pc
    cases hcan : canB T.tab with
    | false =>
      rw [hcan] at pc
      simp only [go_sem, simprocAttr, Try.f14, wk, hw, d1, List.length_map, lr, lc, d2, d3, d4, pc, unwind, modeEx, resultsOf, one]
      exact ⟨_, rfl⟩
    | true =>
    rw [hcan] at pc
    obtain ⟨r, rfl, hr⟩ : ∃ r : Nat, row = r ∧ r < T.tab.R := ⟨row.toNat, by simp at d1; omega, by simp at d1 d2; omega⟩
    obtain ⟨c, rfl, hc⟩ : ∃ c : Nat, col = c ∧ c < T.tab.C := ⟨col.toNat, by simp at d3; omega, by simp at d3 d4; omega⟩
    obtain ⟨r1, r2⟩ := one_all r (by omega)
    obtain ⟨c1, c2⟩ := one_all c (by omega)
    obtain ⟨xa, ha, ca⟩ := total_ends hT hO hcan
    obtain ⟨xb, hb, cb⟩ := row_ends hT hO hcan hr
    obtain ⟨xc, hc', cc⟩ := cell_ends hT hO hcan hr hc
    obtain ⟨xd, hd, cd⟩ := col_ends hT hO hcan hc
    obtain ⟨y1, k1, b1⟩ := parts_block hT hO hcan 255 255
    obtain ⟨y2, k2, b2⟩ := parts_block hT hO hcan (oneI r) 255
    obtain ⟨y3, k3, b3⟩ := parts_block hT hO hcan (oneI r) (oneI c)
    obtain ⟨y4, k4, b4⟩ := parts_block hT hO hcan 255 (oneI c)
    obtain ⟨y5, k5, b5⟩ := parts_block hT hO hcan 0 cs
    obtain ⟨x, kx, bx⟩ := parts_block hT hO hcan rs cs
    obtain ⟨y, ky, by_⟩ := parts_block hT hO hcan (andI rs so) cs
    obtain ⟨z, kz, bz⟩ := parts_block hT hO hcan (anotI rs so) cs
    have q1 : xa = y1 := ha.unique k1 fun s _ => blkM_congr (fun i hi => (all_bits i (by omega)).symm) (fun k hk => (all_bits k (by omega)).symm) s
    have q2 : xb = y2 := hb.unique k2 fun s _ => blkM_congr (fun i hi => (r2 i (by omega)).symm) (fun k hk => (all_bits k (by omega)).symm) s
    have q3 : xc = y3 := hc'.unique k3 fun s _ => blkM_congr (fun i hi => (r2 i (by omega)).symm) (fun k hk => (c2 k (by omega)).symm) s
    have q4 : xd = y4 := hd.unique k4 fun s _ => blkM_congr (fun i hi => (all_bits i (by omega)).symm) (fun k hk => (c2 k (by omega)).symm) s
    have q5 : y5 = ⟨0, 0⟩ := by
      obtain ⟨s, hs⟩ := canB_true.1 hcan
      refine k5.unique (ν := fun _ => 0) (y := ⟨0, 0⟩) ⟨⟨s, hs, rfl⟩, ⟨s, hs, rfl⟩, fun _ _ => ⟨Int.le_refl _, Int.le_refl _⟩⟩ fun s _ => ?_
      rw [blkM_congr (p' := fun _ => false) (q' := bitU cs) (fun i hi => no_bits i (by omega)) (fun _ _ => rfl), blkM_none]
    have hparts : ∀ s, blkM T.tab (bitU rs) (bitU cs) s = blkM T.tab (bitU (andI rs so)) (bitU cs) s + blkM T.tab (bitU (anotI rs so)) (bitU cs) s := fun s => by
      rw [blkM_parts T.tab (bitU rs) (bitU so) (bitU cs), blkM_congr (p' := fun i => bitU rs i && bitU so i) (q' := bitU cs) (fun i hi => bitU_and hrs hso (by omega)) (fun _ _ => rfl) s, blkM_congr (p' := fun i => bitU rs i && !bitU so i) (q' := bitU cs) (fun i hi => bitU_anot hrs hso (by omega)) (fun _ _ => rfl) s]
    have x1 := kx.le
    have y1' := ky.le
    have z1 := kz.le
    have yb := ky.bd hO
    have zb := kz.bd hO
    have w1 : IntKind.i64.wrap (y.lo + z.lo) = y.lo + z.lo := i64_in _ (by omega)
    have w2 : IntKind.i64.wrap (y.hi + z.hi) = y.hi + z.hi := i64_in _ (by omega)
    have s1 : y.lo + z.lo ≤ x.lo := by
      obtain ⟨⟨s, hs, e⟩, _, _⟩ := kx
      have e1 := ky.2.2 s hs
      have e2 := kz.2.2 s hs
      rw [hparts] at e; omega
    have s2 : x.hi ≤ y.hi + z.hi := by
      obtain ⟨_, ⟨s, hs, e⟩, _⟩ := kx
      have e1 := ky.2.2 s hs
      have e2 := kz.2.2 s hs
      rw [hparts] at e; omega
    subst q1 q2 q3 q4 q5
    have b1 := b1 (H := [boxT T, spB xa, spB xb, spB xc, spB xd]) (p := 0) rfl 5
    have b2 := b2 (H := [boxT T, spB xa, spB xb, spB xc, spB xd]) (p := 0) rfl 5
    have b3 := b3 (H := [boxT T, spB xa, spB xb, spB xc, spB xd]) (p := 0) rfl 5
    have b4 := b4 (H := [boxT T, spB xa, spB xb, spB xc, spB xd]) (p := 0) rfl 5
    have b5 := b5 (H := [boxT T, spB xa, spB xb, spB xc, spB xd]) (p := 0) rfl 5
    have bx := bx (H := [boxT T, spB xa, spB xb, spB xc, spB xd]) (p := 0) rfl 5
    have by_ := by_ (H := [boxT T, spB xa, spB xb, spB xc, spB xd]) (p := 0) rfl 5
    have bz := bz (H := [boxT T, spB xa, spB xb, spB xc, spB xd]) (p := 0) rfl 5
    simp only [boxT, spB, spV_fold] at b1 b2 b3 b4 b5 bx by_ bz
    have lk : ∀ Z : Heap, looks (.cells 0 3 false [T.v] :: Z) fuel0 [0] [] = some [0] := fun Z => by
      unfold fuel0
      simp [looks, refsL, TabV.refs]
    have f1 := decide_eq_true x1
    have f2 := decide_eq_true y1'
    have f3 := decide_eq_true z1
    have f4 := decide_eq_true s1
    have f5 := decide_eq_true s2
    have s0 : (spV ⟨0, 0⟩ : AVal) = .agg [.int .i64 0, .int .i64 0] := rfl
    simp only [go_sem, simprocAttr, Try.f14, wk, hw, d1, List.length_map, lr, lc, d2, d3, d4, pc, ca, cb, cc, cd, shl_b, b1, b2, b3, b4, b5, lk, neq_spV, s0, eq_spn, Option.map_some]
    rw [apart_ok]
    · simp only [go_sem, simprocAttr, and_b, anot_b, bx, by_, bz, w1, w2, f1, f2, f3, f4, f5, s0, unwind, modeEx, resultsOf, one]
      exact ⟨_, rfl⟩
    · kernel_rfl
end Go.Proofs.Ytgfejpngfikjiaa.Tidy
