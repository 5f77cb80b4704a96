/-
 What the functions that SharesMerged reaches compute; the law, run.
-/
import Derived.Test.YtgfejpngfikjiaaWa
import Derived.Test.YtgfejpngfikjiaaCf
import Derived.Test.YtgfejpngfikjiaaCe
import Derived.Test.YtgfejpngfikjiaaCb
set_option linter.all false
namespace Go.Proofs.Ytgfejpngfikjiaa.Tidy
open Go Go.IntWalk
set_option maxRecDepth 10000
set_option linter.unusedSimpArgs false
set_option maxHeartbeats 2000000
set_option maxRecDepth 10000
set_option maxHeartbeats 4000000
structure Least (t : Tab) (r c : Nat) (v : Int) : Prop where
 at_ : ∃ s, Fits t s ∧ s r c = v
 all : ∀ s, Fits t s → v ≤ s r c
structure Great (t : Tab) (r c : Nat) (v : Int) : Prop where
 at_ : ∃ s, Fits t s ∧ s r c = v
 all : ∀ s, Fits t s → s r c ≤ v
set_option maxRecDepth 10000
set_option maxHeartbeats 4000000
theorem Least.range {t : Tab} {r c : Nat} (hr : r < t.R) (hc : c < t.C) {v : Int} (h : Least t r c v) : (t.cell r c).lo ≤ v ∧ v ≤ (t.cell r c).hi := by
 obtain ⟨s, hs, rfl⟩ := h.at_
 exact hs.cell r c hr hc
theorem Great.range {t : Tab} {r c : Nat} (hr : r < t.R) (hc : c < t.C) {v : Int} (h : Great t r c v) : (t.cell r c).lo ≤ v ∧ v ≤ (t.cell r c).hi := by
 obtain ⟨s, hs, rfl⟩ := h.at_
 exact hs.cell r c hr hc
set_option maxRecDepth 10000
set_option maxHeartbeats 4000000
structure LeastF (t : Tab) (φ : (Nat → Nat → Int) → Int) (v : Int) : Prop where
 at_ : ∃ s, Fits t s ∧ φ s = v
 all : ∀ s, Fits t s → v ≤ φ s
structure GreatF (t : Tab) (φ : (Nat → Nat → Int) → Int) (v : Int) : Prop where
 at_ : ∃ s, Fits t s ∧ φ s = v
 all : ∀ s, Fits t s → φ s ≤ v
def rowF (t : Tab) (r : Nat) (s : Nat → Nat → Int) : Int := sumN t.C (s r)
set_option maxRecDepth 10000
set_option maxHeartbeats 4000000
theorem LeastF.range {t : Tab} {r : Nat} (hr : r < t.R) {v : Int} (h : LeastF t (rowF t r) v) : (t.row r).lo ≤ v ∧ v ≤ (t.row r).hi := by
 obtain ⟨s, hs, rfl⟩ := h.at_
 exact hs.row r hr
theorem GreatF.range {t : Tab} {r : Nat} (hr : r < t.R) {v : Int} (h : GreatF t (rowF t r) v) : (t.row r).lo ≤ v ∧ v ≤ (t.row r).hi := by
 obtain ⟨s, hs, rfl⟩ := h.at_
 exact hs.row r hr
set_option maxRecDepth 10000
set_option maxHeartbeats 4000000
set_option maxRecDepth 10000
set_option maxHeartbeats 4000000
section
variable {A : Heap} {x y : AVal} {r0 : RowD} {rs : List RowD}
end
set_option maxRecDepth 10000
set_option maxHeartbeats 4000000
set_option maxRecDepth 10000
set_option maxHeartbeats 4000000
def noTab : AVal := .agg [.lit true 0 [], .lit true 0 [], .lit true 0 []]
set_option maxRecDepth 10000
set_option maxHeartbeats 4000000
theorem zBh {t : Tab} (hl : t.cells.length = t.R) : (vecA t.R fun i => AVal.lit false 2 (rowA t i)) = t.cells.map fun l => .lit false 2 (l.map spV) := by
 unfold vecA
 apply List.ext_getElem
 · simp [hl]
 · intro i h1 h2
   have hi : i < t.cells.length := by simpa using h2
   simp [rowA, hi]
set_option maxRecDepth 10000
set_option maxHeartbeats 2000000
def z2G (C : Nat) (c : CutA) (i k : Nat) : List Nat := ((List.range k).filter fun k => c.l1.getD i false && c.l2.getD k false).map (i * C + ·)
theorem zDo (C : Nat) (c : CutA) (i k : Nat) : z2G C c i (k + 1) = if c.l1.getD i false && c.l2.getD k false then z2G C c i k ++ [i * C + k] else z2G C c i k := by
 unfold z2G
 rw [List.range_succ, List.filter_append, List.filter_cons, List.filter_nil]
 by_cases h : (c.l1.getD i false && c.l2.getD k false) = true
 · rw [if_pos h, if_pos h, List.map_append]; rfl
 · rw [if_neg h, if_neg h, List.append_nil]
theorem z6V (C : Nat) (c : CutA) (i k : Nat) : (z2G C c i k).length ≤ k := by
 unfold z2G
 rw [List.length_map]
 have := List.length_filter_le (fun k => c.l1.getD i false && c.l2.getD k false) (List.range k)
 simpa using this
def blkH (T : TabV) (c : CutA) (g : Nat) (f : Nat → Int) (gt : Nat) (l : List Nat) : Heap := [boxT T, .cells 0 2 false [c.v], .cells 0 2 true [.agg [.int .i64 0, .int .i64 0]], boxT T, boxT T, arcB g T.tab.net f, netB T.tab.R T.tab.C 5 g T.tab.net.n, z0A 6, accB 1 gt (natsV l)]
theorem zHh {T : TabV} (hO : T.tab.Ok) {c : CutA} (hc : c.Wf) (h1 : c.l1.length = T.tab.R) (h2 : c.l2.length = T.tab.C) (g : Nat) (f : Nat → Int) {i : Nat} (hi : i < T.tab.R) (l : List Nat) (hl : l.length ≤ 64) : ∀ (n k gt : Nat) (j0 j1 j2 j5 j7 j10 j11 j12 j13 j14 j15 j16 j17 j18 j19 j20 j21 j22 j23 j24 j25 j26 j27 j30 j31 j32 j33 j34 j37 j38 j39 j40 j41 j42 j43 j44 j45 j46 j47 j48 j49 j50 j51 j52 j53 j54 j55 j56 j57 j58 j59 j60 j61 j62 : AVal), k + n = T.tab.C →
    Goes (execT env (Try.f32.at [1, 1, 1, 1, 1, 0, 1, 0, 0, 1, 1, 0, 0, 1, 1, 0]) ⟨[j0, j1, j2, .ptr 1 0 0 0, .ptr 2 0 0 0, j5, .ptr 6 0 0 0, j7, .ref 8 (accG gt (natsV (l ++ z2G T.tab.C c i k))) 0 (l ++ z2G T.tab.C c i k).length false, .int .i64 i, j10, j11, j12, j13, j14, j15, j16, j17, j18, j19, j20, j21, j22, j23, j24, j25, j26, j27, .int .i64 T.tab.R, .int .i64 i, j30, j31, j32, j33, j34, .int .i64 T.tab.C, .int .i64 k, j37, j38, j39, j40, j41, j42, j43, j44, j45, j46, j47, j48, j49, j50, j51, j52, j53, j54, j55, j56, j57, j58, j59, j60, j61, j62], blkH T c g f gt (l ++ z2G T.tab.C c i k), [], 0, [8]⟩) fun e s =>
     e = .exit 2 ∧ ∃ (gt : Nat), FrP 63 [(3, .ptr 1 0 0 0), (4, .ptr 2 0 0 0), (6, .ptr 6 0 0 0), (8, .ref 8 (accG gt (natsV (l ++ z2G T.tab.C c i T.tab.C))) 0 (l ++ z2G T.tab.C c i T.tab.C).length false), (28, .int .i64 T.tab.R), (29, .int .i64 i)] (blkH T c g f gt (l ++ z2G T.tab.C c i T.tab.C)) [] 0 [8] s := by
 have hR8 := hO.R8
 have hC8 := hO.C8
 intro n
 induction n with
 | zero =>
   intro k gt; intros; rename_i hk
   have hd : decide ((k : Int) < (T.tab.C : Int)) = false := by simp; omega
   have : k = T.tab.C := by omega
   subst this
   simp only [go_sem, simprocAttr, Try.f32]
   rw [exec_loop]
   simp only [go_sem, simprocAttr, hd]
   exact ⟨gt, frP (by kernel_rfl)⟩
 | succ n ih =>
   intro k gt; intros; rename_i hk
   have hd : decide ((k : Int) < (T.tab.C : Int)) = true := by simp; omega
   have k0 : (0 : Int) ≤ (k : Int) := by omega
   have i0 : (0 : Int) ≤ (i : Int) := by omega
   have hz1 := z1j hc.s1 (List.getElem?_eq_getElem (show i < c.l1.length by omega))
   have hz2 := z1j hc.s2 (List.getElem?_eq_getElem (show k < c.l2.length by omega))
   have g1 := z0f (l := c.l1) (i := i) (by omega)
   have g2 := z0f (l := c.l2) (i := k) (by omega)
   have hlen := z6V T.tab.C c i k
   have hll : (l ++ z2G T.tab.C c i k).length < 2 ^ 30 := by rw [List.length_append]; omega
   have es := zDo T.tab.C c i k
   have hA : NetAt (blkH T c g f gt (l ++ z2G T.tab.C c i k)) 6 5 T.tab.R T.tab.C g T.tab.net.n (arcB g T.tab.net f) := ⟨rfl, rfl, by decide, z0Y _ _ _⟩
   have cc := z3p hA (i := i) (k := k) (by omega) hC8 (by omega) 0 9
   obtain ⟨gt', ap⟩ := zAA (H := blkH T c g f gt (l ++ z2G T.tab.C c i k)) (id := 8) (l := l ++ z2G T.tab.C c i k) (j := i * T.tab.C + k) (cl := true) rfl hll 9 (ro := 0) (Nat.zero_le _)
   have iha := ih (k + 1) gt
   have ihb := ih (k + 1) gt'
   rw [es] at iha ihb
   rw [List.append_assoc] at ap
   simp only [blkH, boxT, netB, arcB, z0A] at cc ap
   cases hb1 : c.l1.getD i false <;> cases hb2 : c.l2.getD k false <;> rw [hb1] at iha ihb g1 <;> rw [hb2] at iha ihb g2 <;>
    simp only [go_sem, simprocAttr, Try.f32, blkH, boxT, netB, arcB, z0A, Bool.false_eq_true, if_false, if_true, Bool.and_true, Bool.and_false, Bool.and_self] at iha ihb ⊢ <;>
    rw [exec_loop] <;>
    simp only [go_sem, simprocAttr, hd, k0, i0, Int.toNat_natCast, hz1, hz2, g1, g2, cc, ap, z00 (show k < 2 ^ 63 - 1 by omega)] <;>
    first
    | exact iha _ _ _ _ _ _ _ _ _ _ _ _ _ _ _ _ _ _ _ _ _ _ _ _ _ _ _ _ _ _ _ _ _ _ _ _ _ _ _ _ _ _ _ _ _ _ _ _ _ _ _ _ _ _ (by omega)
    | exact ihb _ _ _ _ _ _ _ _ _ _ _ _ _ _ _ _ _ _ _ _ _ _ _ _ _ _ _ _ _ _ _ _ _ _ _ _ _ _ _ _ _ _ _ _ _ _ _ _ _ _ _ _ _ _ (by omega)
def blkL (C : Nat) (c : CutA) (n : Nat) : List Nat := (List.range n).flatMap fun i => z2G C c i C
theorem zCA (C : Nat) (c : CutA) (n : Nat) : blkL C c (n + 1) = blkL C c n ++ z2G C c n C := by simp [blkL, List.range_succ]
theorem z60 (C : Nat) (c : CutA) : ∀ n, (blkL C c n).length ≤ n * C
 | 0 => by simp [blkL]
 | n + 1 => by
   rw [zCA, List.length_append, Nat.succ_mul]
   have := z60 C c n
   have := z6V C c n C
   omega
theorem zHi {T : TabV} (hO : T.tab.Ok) {c : CutA} (hc : c.Wf) (h1 : c.l1.length = T.tab.R) (h2 : c.l2.length = T.tab.C) (g : Nat) (f : Nat → Int) : ∀ (n i gt : Nat) (j0 j1 j2 j5 j7 j9 j10 j11 j12 j13 j14 j15 j16 j17 j18 j19 j20 j21 j22 j23 j24 j25 j26 j27 j30 j31 j32 j33 j34 j35 j36 j37 j38 j39 j40 j41 j42 j43 j44 j45 j46 j47 j48 j49 j50 j51 j52 j53 j54 j55 j56 j57 j58 j59 j60 j61 j62 : AVal), i + n = T.tab.R →
    Goes (execT env (Try.f32.at [1, 1, 1, 1, 1, 0, 1, 0]) ⟨[j0, j1, j2, .ptr 1 0 0 0, .ptr 2 0 0 0, j5, .ptr 6 0 0 0, j7, .ref 8 (accG gt (natsV (blkL T.tab.C c i))) 0 (blkL T.tab.C c i).length false, j9, j10, j11, j12, j13, j14, j15, j16, j17, j18, j19, j20, j21, j22, j23, j24, j25, j26, j27, .int .i64 T.tab.R, .int .i64 i, j30, j31, j32, j33, j34, j35, j36, j37, j38, j39, j40, j41, j42, j43, j44, j45, j46, j47, j48, j49, j50, j51, j52, j53, j54, j55, j56, j57, j58, j59, j60, j61, j62], blkH T c g f gt (blkL T.tab.C c i), [], 0, [8]⟩) fun e s =>
     e = .exit 0 ∧ ∃ (gt : Nat), FrP 63 [(4, .ptr 2 0 0 0), (6, .ptr 6 0 0 0), (8, .ref 8 (accG gt (natsV (blkL T.tab.C c T.tab.R))) 0 (blkL T.tab.C c T.tab.R).length false)] (blkH T c g f gt (blkL T.tab.C c T.tab.R)) [] 0 [8] s := by
 have hR8 := hO.R8
 have hC8 := hO.C8
 intro n
 induction n with
 | zero =>
   intro i gt; intros; rename_i hi
   have hd : decide ((i : Int) < (T.tab.R : Int)) = false := by simp; omega
   have : i = T.tab.R := by omega
   subst this
   simp only [go_sem, simprocAttr, Try.f32]
   rw [exec_loop]
   simp only [go_sem, simprocAttr, hd]
   exact ⟨gt, frP (by kernel_rfl)⟩
 | succ n ih =>
   intro i gt; intros; rename_i hi
   have hiR : i < T.tab.R := by omega
   have hd : decide ((i : Int) < (T.tab.R : Int)) = true := by simp; omega
   have hl := z60 T.tab.C c i
   have hl2 : i * T.tab.C ≤ 8 * 8 := Nat.mul_le_mul (by omega) hC8
   obtain ⟨ex, st, hx, hp⟩ := zHh hO hc h1 h2 g f hiR (blkL T.tab.C c i) (by omega) T.tab.C 0 gt _ _ _ _ _ _ _ _ _ _ _ _ _ _ _ _ _ _ _ _ _ _ _ _ _ _ _ _ _ _ _ _ _ _ _ _ _ _ _ _ _ _ _ _ _ _ _ _ _ _ _ _ _ _ (by omega)
   obtain ⟨rfl, gt', jp, rfl⟩ := hp
   have z0 : z2G T.tab.C c i 0 = [] := rfl
   have ih' := ih (i + 1) gt'
   rw [zCA] at ih'
   simp only [go_sem, simprocAttr, Try.f32, blkH, boxT, netB, arcB, z0A, z0, List.append_nil, Int.natCast_zero, Int.ofNat_zero] at hx
   simp only [go_sem, simprocAttr, Try.f32, blkH, boxT, netB, arcB, z0A] at ih' ⊢
   rw [exec_loop]
   simp only [go_sem, simprocAttr, hd]
   rw [hx]
   simp only [go_sem, simprocAttr, blkH, boxT, netB, arcB, z0A, z00 (show i < 2 ^ 63 - 1 by omega)]
   exact ih' _ _ _ _ _ _ _ _ _ _ _ _ _ _ _ _ _ _ _ _ _ _ _ _ _ _ _ _ _ _ _ _ _ _ _ _ _ _ _ _ _ _ _ _ _ _ _ _ _ _ _ _ _ _ _ _ _ (by omega)
end Go.Proofs.Ytgfejpngfikjiaa.Tidy
namespace Go.Proofs.Ytgfejpngfikjiaa.Tidy
open Go
theorem zIk {C R : Nat} {c : CutA} {i k : Nat} (hi : i < R) (hk : k < C) : (i * C + k ∈ blkL C c R) ↔ (c.l1.getD i false && c.l2.getD k false) = true := by
 simp only [blkL, z2G, List.mem_flatMap, List.mem_map, List.mem_filter, List.mem_range]
 constructor
 · rintro ⟨i', hi', k', ⟨hk', h⟩, e⟩
   have e1 : i' = i := by rw [← z8K (i := i') hk', ← z8K (i := i) hk, e]
   subst e1
   have e2 : k' = k := by omega
   subst e2
   exact h
 · intro h
   exact ⟨i, hi, k, ⟨hk, h⟩, rfl⟩
theorem zIr {C R : Nat} {c : CutA} {j : Nat} (hj : R * C ≤ j) : j ∉ blkL C c R := by
 simp only [blkL, z2G, List.mem_flatMap, List.mem_map, List.mem_filter, List.mem_range]
 rintro ⟨i', hi', k', ⟨hk', h⟩, e⟩
 have := z40 hi' hk'
 omega
theorem zG3 (t : Tab) (c : CutA) (x : Nat → Nat → Int) : t.brings (blkL t.C c t.R) x = sumN t.R fun i => sumN t.C fun k => if c.l1.getD i false && c.l2.getD k false then x i k else 0 := by
 unfold Tab.brings brings
 rw [show t.net.n = t.R * t.C + t.R + t.C from rfl, z9F]
 rw [z0m (n := t.R) (f := fun i => z0c (blkL t.C c t.R) (t.R * t.C + i) * t.flow x (t.R * t.C + i)) fun i _ => by
     unfold z0c; rw [if_neg (zIr (by omega))]; omega,
  z0m (n := t.C) (f := fun k => z0c (blkL t.C c t.R) (t.R * t.C + t.R + k) * t.flow x (t.R * t.C + t.R + k)) fun i _ => by
   unfold z0c; rw [if_neg (zIr (by omega))]; omega, Int.add_zero, Int.add_zero]
 refine z02 fun i hi => z02 fun k hk => ?_
 rw [t.flow_cell x hi hk]
 unfold z0c
 by_cases h : (c.l1.getD i false && c.l2.getD k false) = true
 · rw [if_pos ((zIk hi hk).2 h), if_pos h]; omega
 · rw [if_neg fun e => h ((zIk hi hk).1 e), if_neg h]; omega
theorem z2U (t : Tab) (x : Nat → Nat → Int) : t.brings (z2I t t.R) x = sumN t.R fun i => sumN t.C (x i) := by
 have m1 : ∀ j, j < t.R * t.C → j ∉ z2I t t.R := by
  intro j hj h
  simp only [z2I, List.mem_map, List.mem_range] at h
  obtain ⟨i, _, e⟩ := h
  omega
 have m2 : ∀ i, i < t.R → t.R * t.C + i ∈ z2I t t.R := by
  intro i hi
  simp only [z2I, List.mem_map, List.mem_range]
  exact ⟨i, hi, rfl⟩
 have m3 : ∀ k, t.R * t.C + t.R + k ∉ z2I t t.R := by
  intro k h
  simp only [z2I, List.mem_map, List.mem_range] at h
  obtain ⟨i, hi, e⟩ := h
  omega
 unfold Tab.brings brings
 rw [show t.net.n = t.R * t.C + t.R + t.C from rfl, z9F]
 rw [z0m (n := t.R) (f := fun i => sumN t.C fun k => z0c (z2I t t.R) (i * t.C + k) * t.flow x (i * t.C + k)) fun i hi => z0m fun k hk => by
     unfold z0c; rw [if_neg (m1 _ (z40 hi hk))]; omega,
  z0m (n := t.C) (f := fun k => z0c (z2I t t.R) (t.R * t.C + t.R + k) * t.flow x (t.R * t.C + t.R + k)) fun k _ => by
   unfold z0c; rw [if_neg (m3 k)]; omega, Int.add_zero, Int.zero_add]
 refine z02 fun i hi => ?_
 rw [t.flow_row x hi]
 unfold z0c
 rw [if_pos (m2 i hi)]; omega
def EndsP (t : Tab) (μ : (Nat → Nat → Int) → Int) (x : Spn) : Prop := (∃ s, Fits t s ∧ μ s = x.lo) ∧ (∃ s, Fits t s ∧ μ s = x.hi) ∧ ∀ s, Fits t s → x.lo ≤ μ s ∧ μ s ≤ x.hi
theorem EndsP.of {t : Tab} {l : List Nat} {lo hi : Int} (h : IsEnds t.net l lo hi) {μ : (Nat → Nat → Int) → Int} (e : ∀ s, t.brings l s = μ s) : EndsP t μ ⟨lo, hi⟩ := by
 obtain ⟨⟨s1, h1, e1⟩, ⟨s2, h2, e2⟩, h3⟩ := z0y.1 h
 exact ⟨⟨s1, h1, by rw [← e, e1]⟩, ⟨s2, h2, by rw [← e, e2]⟩, fun s hs => by rw [← e]; exact h3 s hs⟩
theorem EndsP.le {t : Tab} {μ : (Nat → Nat → Int) → Int} {x : Spn} (h : EndsP t μ x) : x.lo ≤ x.hi := by
 obtain ⟨⟨s1, a1, b1⟩, _, c⟩ := h
 have := c s1 a1
 omega
def blkM (t : Tab) (p q : Nat → Bool) (x : Nat → Nat → Int) : Int := sumN t.R fun i => sumN t.C fun k => if p i && q k then x i k else 0
theorem z0w {t : Tab} {p p' q q' : Nat → Bool} (hp : ∀ i, i < t.R → p i = p' i) (hq : ∀ k, k < t.C → q k = q' k) (x : Nat → Nat → Int) : blkM t p q x = blkM t p' q' x :=
 z02 fun i hi => z02 fun k hk => by rw [hp i hi, hq k hk]
theorem zF1 (t : Tab) (x : Nat → Nat → Int) : blkM t (fun _ => true) (fun _ => true) x = sumN t.R fun i => sumN t.C (x i) := rfl
theorem z4B {t : Tab} {r c : Nat} (hr : r < t.R) (hc : c < t.C) (x : Nat → Nat → Int) : blkM t (fun i => decide (i = r)) (fun k => decide (k = c)) x = x r c := by
 unfold blkM
 rw [← z2q hr (x r c)]
 refine z02 fun i _ => ?_
 by_cases h : i = r
 · subst h
   rw [if_pos rfl, ← z2q hc (x i c)]
   refine z02 fun k _ => ?_
   by_cases h2 : k = c
   · subst h2; simp
   · simp [h2]
 · simp only [h, decide_false, Bool.false_and, Bool.false_eq_true, if_false]
   exact z0m fun _ _ => rfl
theorem zAE (t : Tab) (p s q : Nat → Bool) (x : Nat → Nat → Int) : blkM t p q x = blkM t (fun i => p i && s i) q x + blkM t (fun i => p i && !s i) q x := by
 unfold blkM
 rw [← z3y]
 refine z02 fun i _ => ?_
 rw [← z3y]
 refine z02 fun k _ => ?_
 cases hp : p i <;> cases hs : s i <;> cases hq : q k <;> simp [hp, hs]
end Go.Proofs.Ytgfejpngfikjiaa.Tidy
namespace Go.Proofs.Ytgfejpngfikjiaa.Tidy
open Go Go.IntWalk
set_option maxRecDepth 10000
set_option linter.unusedSimpArgs false
set_option maxHeartbeats 2000000
noncomputable def blkS (t : Tab) (c : CutA) : Int := if t.ok then (if canB t then (if fitC t c then 0 else 61) else 31) else 60
theorem zHj {T : TabV} (hT : T.Wf) {c : CutA} (hc' : c.Wf) : ∃ (v : AVal) (H' : Heap), runT env 32 [T.v, c.v] [] 0 = some (.ret v, H') ∧ EndsAns T.tab (blkS T.tab c) (blkL T.tab.C c T.tab.R) v := by
 rcases z28 hT 0 [boxT T, .cells 0 2 false [c.v], .cells 0 2 true [.agg [.int .i64 0, .int .i64 0]]] 3 with ⟨hok, us, hc, X, rfl⟩ | ⟨hO, hcan, us, hc, X, rfl⟩ | ⟨hO, hcan, f, g, _, hin, hci, hc⟩
 · have ha : blkS T.tab c = 60 := by unfold blkS; rw [hok]; rfl
   rw [ha]
   have : ∃ H', runT env 32 [T.v, c.v] [] 0 = some (.ret (.tuple [.agg [.int .i64 0, .int .i64 0], .int .i64 60]), H') := by
    have hp := z0g X [boxT T, .cells 0 2 false [c.v], .cells 0 2 true [.agg [.int .i64 0, .int .i64 0]]]
    simp only [boxT, List.length_cons, List.length_nil, Nat.zero_add, Nat.reduceAdd, List.cons_append, List.nil_append] at hc hp
    rw [run_unfold fn32 rfl]
    simp only [go_sem, simprocAttr, Try.f32, hc, hp, unwind, modeEx, resultsOf, one]
    exact ⟨_, rfl⟩
   obtain ⟨H', h⟩ := this
   exact ⟨_, _, h, .inl ⟨by decide, rfl⟩⟩
 · have hok := Tab.ok_iff.2 hO
   have ha : blkS T.tab c = 31 := by unfold blkS; rw [hok, hcan]; rfl
   rw [ha]
   have : ∃ H', runT env 32 [T.v, c.v] [] 0 = some (.ret (.tuple [.agg [.int .i64 0, .int .i64 0], .int .i64 31]), H') := by
    have hp := z0g X [boxT T, .cells 0 2 false [c.v], .cells 0 2 true [.agg [.int .i64 0, .int .i64 0]]]
    simp only [boxT, List.length_cons, List.length_nil, Nat.zero_add, Nat.reduceAdd, List.cons_append, List.nil_append] at hc hp
    rw [run_unfold fn32 rfl]
    simp only [go_sem, simprocAttr, Try.f32, hc, hp, unwind, modeEx, resultsOf, one]
    exact ⟨_, rfl⟩
   obtain ⟨H', h⟩ := this
   exact ⟨_, _, h, .inl ⟨by decide, rfl⟩⟩
 · have hok := Tab.ok_iff.2 hO
   have hf := z6f T c
   cases hfc : fitC T.tab c with
   | false =>
     have ha : blkS T.tab c = 61 := by unfold blkS; rw [hok, hcan, hfc]; rfl
     rw [ha]
     have : ∃ H', runT env 32 [T.v, c.v] [] 0 = some (.ret (.tuple [.agg [.int .i64 0, .int .i64 0], .int .i64 61]), H') := by
      simp only [setX, boxT, netB, arcB, z0A] at hc
      rw [run_unfold fn32 rfl]
      simp only [go_sem, simprocAttr, Try.f32, hc, numbered, hf, hfc, unwind, modeEx, resultsOf, one]
      exact ⟨_, rfl⟩
     obtain ⟨H', h⟩ := this
     exact ⟨_, _, h, .inl ⟨by decide, rfl⟩⟩
   | true =>
     have ha : blkS T.tab c = 0 := by unfold blkS; rw [hok, hcan, hfc]; rfl
     rw [ha]
     obtain ⟨h1, h2⟩ := z3r.1 hfc
     have hR8 := hO.R8
     have hC8 := hO.C8
     have hl := z60 T.tab.C c T.tab.R
     have hl2 : T.tab.R * T.tab.C ≤ 8 * 8 := Nat.mul_le_mul hR8 hC8
     obtain ⟨e1, t1, hx1, hp1⟩ := zHi hO hc' h1 h2 g f T.tab.R 0 0 _ _ _ _ _ _ _ _ _ _ _ _ _ _ _ _ _ _ _ _ _ _ _ _ _ _ _ _ _ _ _ _ _ _ _ _ _ _ _ _ _ _ _ _ _ _ _ _ _ _ _ _ _ _ _ _ _ (by omega)
     obtain ⟨rfl, gt, jp, rfl⟩ := hp1
     obtain ⟨sz, hsz, hle⟩ := zFR (H := blkH T c g f gt (blkL T.tab.C c T.tab.R)) (p := 6) (q := 8) (g := gt) (l := blkL T.tab.C c T.tab.R) rfl
     obtain ⟨lo, hi, he, f', ec⟩ := z51 (gn := g) (cl := false) (sz := sz) (l := blkL T.tab.C c T.tab.R) (z1i hO) (z6F hO) hin hci hsz (fun j hj => by
      simp only [blkL, z2G, List.mem_flatMap, List.mem_map, List.mem_filter, List.mem_range] at hj
      obtain ⟨i, hi, k, ⟨hk, _⟩, rfl⟩ := hj
      have := z40 hi hk
      show _ < T.tab.R * T.tab.C + T.tab.R + T.tab.C
      omega) (by omega)
     have hA : NetAt (blkH T c g f gt (blkL T.tab.C c T.tab.R)) 6 5 T.tab.R T.tab.C g T.tab.net.n (arcB g T.tab.net f) := ⟨rfl, rfl, by decide, z0Y _ _ _⟩
     have ec := ec hA hle (by simp) 9
     have e0 : blkL T.tab.C c 0 = [] := rfl
     have en : natsV [] = [] := rfl
     simp only [setX, boxT, netB, arcB, z0A] at hc
     simp only [blkH, boxT, netB, arcB, z0A] at ec
     simp only [go_sem, simprocAttr, Try.f32, blkH, boxT, netB, arcB, z0A, e0, en, z1Z, z1a, List.length_nil, Int.natCast_zero, Int.ofNat_zero] at hx1
     have : ∃ H', runT env 32 [T.v, c.v] [] 0 = some (.ret (.tuple [.agg [.int .i64 lo, .int .i64 hi], .int .i64 0]), H') := by
      rw [run_unfold fn32 rfl]
      simp only [go_sem, simprocAttr, Try.f32, hc, numbered, hf, hfc]
      rw [hx1]
      simp only [go_sem, simprocAttr, blkH, boxT, netB, arcB, z0A, ec, unwind, modeEx, resultsOf, one]
      exact ⟨_, rfl⟩
     obtain ⟨H', h⟩ := this
     exact ⟨_, _, h, .inr ⟨rfl, hO, lo, hi, he, rfl⟩⟩
theorem zG0 {T : TabV} (hT : T.Wf) {c : CutA} (hc : c.Wf) : ∃ v, EndsAns T.tab (blkS T.tab c) (blkL T.tab.C c T.tab.R) v ∧ ∀ ro H nx, callT env 32 [T.v, c.v] ro H nx = some (.ret v, .ups []) := by
 obtain ⟨v, H', hr, hv⟩ := zHj hT hc
 exact ⟨v, hv, fun ro H nx => call_pure rfl rfl rfl (z4j T c) hr hv.pure.2 ro H nx⟩
set_option maxRecDepth 10000
set_option maxHeartbeats 2000000
def ofB (x : BitVec 8) : Int := IntKind.u8.wrap (x.toNat : Int)
def oneI (r : Nat) : Int := IntKind.u8.wrap (1 * 2 ^ (min (r : Int).toNat 8))
theorem zL4 (r : Nat) (z : AVal) : binOp env .shl 5 ⟨.int .u8, 1, 1, z⟩ (.int .u8 1) (.int .i64 (r : Int)) = some (.int .u8 (oneI r)) := by
 simp only [binOp]
 rw [if_neg (by omega)]
 rfl
theorem z9G : ∀ r, r < 8 → (0 ≤ oneI r ∧ oneI r < 256) ∧ ∀ i, i < 8 → bitU (oneI r) i = decide (i = r) := by decide +kernel
theorem EndsAns.zero {t : Tab} {code : Int} {l : List Nat} {v : AVal} (h : EndsAns t code l v) (hc : code = 0) : ∃ lo hi, IsEnds t.net l lo hi ∧ v = .tuple [.agg [.int .i64 lo, .int .i64 hi], .int .i64 0] := by
 rcases h with ⟨h1, _⟩ | ⟨_, _, lo, hi, h2, rfl⟩
 · exact absurd hc h1
 · exact ⟨lo, hi, h2, rfl⟩
theorem z6S {T : TabV} (hT : T.Wf) (hO : T.tab.Ok) (hcan : canB T.tab = true) (a b : Int) : ∃ x : Spn, EndsP T.tab (blkM T.tab (bitU a) (bitU b)) x ∧ ∀ ro H nx, callT env 32 [T.v, (bitC T.tab a b).v] ro H nx = some (.ret (.tuple [.agg [.int .i64 x.lo, .int .i64 x.hi], .int .i64 0]), .ups []) := by
 obtain ⟨v, hv, hc⟩ := zG0 hT (zHY hO a b)
 have hf : fitC T.tab (bitC T.tab a b) = true := z3r.2 ⟨z1G _ _, z1G _ _⟩
 obtain ⟨lo, hi, he, rfl⟩ := hv.zero (by unfold blkS; rw [Tab.ok_iff.2 hO, hcan, hf]; rfl)
 refine ⟨⟨lo, hi⟩, EndsP.of he fun s => ?_, hc⟩
 rw [zG3]
 exact z0w (fun i hi => z5S hi) (fun k hk => z5S hk) s
set_option maxRecDepth 10000
set_option maxHeartbeats 4000000
theorem z2e {t : Tab} {i k : Int} (hok : t.ok = true) (hcan : canB t = true) (h : outB t i k = false) : askS t i k = 0 := by
 unfold askS; rw [hok, hcan, h]; rfl
theorem z2P {t : Tab} {i k : Nat} (hi : i < t.R) (hk : k < t.C) : outB t i k = false := by
 unfold outB
 rw [decide_eq_false (p := (i : Int) < 0) (by omega), decide_eq_false (p := (t.R : Int) ≤ i) (by omega), decide_eq_false (p := (k : Int) < 0) (by omega), decide_eq_false (p := (t.C : Int) ≤ k) (by omega)]; rfl
theorem z3S {T : TabV} (hT : T.Wf) (hO : T.tab.Ok) (hcan : canB T.tab = true) : ∃ x : Spn, EndsP T.tab (blkM T.tab (fun _ => true) fun _ => true) x ∧ ∀ ro H nx, callT env 34 [T.v] ro H nx = some (.ret (.tuple [spV x, .int .i64 0]), .ups []) := by
 obtain ⟨v, hv, hc⟩ := z5l hT
 obtain ⟨lo, hi, he, rfl⟩ := hv.zero (z2e (Tab.ok_iff.2 hO) hcan (z2P hO.R1 hO.C1))
 exact ⟨⟨lo, hi⟩, EndsP.of he fun s => z2U _ s, hc⟩
theorem z4E {T : TabV} (hT : T.Wf) (hO : T.tab.Ok) (hcan : canB T.tab = true) {r c : Nat} (hr : r < T.tab.R) (hc' : c < T.tab.C) : ∃ x : Spn, EndsP T.tab (blkM T.tab (fun i => decide (i = r)) fun k => decide (k = c)) x ∧ ∀ ro H nx, callT env 26 [T.v, .int .i64 (r : Int), .int .i64 (c : Int)] ro H nx = some (.ret (.tuple [spV x, .int .i64 0]), .ups []) := by
 obtain ⟨v, hv, hc⟩ := z1e hT (r : Int) (c : Int)
 obtain ⟨lo, hi, he, rfl⟩ := hv.zero (z2e (Tab.ok_iff.2 hO) hcan (z2P hr hc'))
 exact ⟨⟨lo, hi⟩, EndsP.of he fun s => by rw [Int.toNat_natCast, Int.toNat_natCast, z0i _ _ hr hc', z4B hr hc'], hc⟩
set_option maxRecDepth 10000
set_option maxHeartbeats 4000000
structure Clo (t t' : Tab) (P : Nat → Prop) (Q : Nat → Nat → Prop) (S : Nat → Prop) : Prop where
 R : t'.R = t.R
 C : t'.C = t.C
 len : t'.cells.length = t.R
 wid : ∀ l ∈ t'.cells, l.length = t.C
 row : ∀ i, i < t.R → P i → EndsP t (rowF t i) (t'.row i)
 cell : ∀ i k, i < t.R → k < t.C → Q i k → EndsP t (fun s => s i k) (t'.cell i k)
 col : ∀ k, k < t.C → S k → EndsP t (fun s => sumN t.R fun i => s i k) (t'.col k)
theorem Clo.mono {t t' : Tab} {P P' : Nat → Prop} {Q Q' : Nat → Nat → Prop} {S S' : Nat → Prop} (h : Clo t t' P Q S) (h1 : ∀ i, P' i → P i) (h2 : ∀ i k, k < t.C → Q' i k → Q i k) (h3 : ∀ k, S' k → S k) : Clo t t' P' Q' S' :=
 ⟨h.R, h.C, h.len, h.wid, fun i a b => h.row i a (h1 i b), fun i k a b c => h.cell i k a b (h2 i k b c), fun k a b => h.col k a (h3 k b)⟩
theorem zEQ (t : Tab) (i k : Nat) (x : Spn) : (t.setCell i k x).cells.length = t.cells.length := List.length_set
theorem zER {t : Tab} {n : Nat} (hw : ∀ l ∈ t.cells, l.length = n) {i k : Nat} (hi : i < t.cells.length) (x : Spn) : ∀ l ∈ (t.setCell i k x).cells, l.length = n := fun l hl => by
 rcases List.mem_or_eq_of_mem_set hl with h | rfl
 · exact hw l h
 · rw [List.length_set]
   exact hw _ (z1D hi _)
theorem zBj {t : Tab} {n : Nat} (hw : ∀ l ∈ t.cells, l.length = n) {i k : Nat} (hi : i < t.cells.length) (hk : k < n) (x : Spn) (i' k' : Nat) : (t.setCell i k x).cell i' k' = if i' = i ∧ k' = k then x else t.cell i' k' := by
 have hwi := hw _ (z1D hi [])
 unfold Tab.cell Tab.setCell
 simp only
 by_cases e : i' = i
 · subst e
   rw [List.getD_eq_getElem?_getD (l := t.cells.set _ _), List.getElem?_set_self hi, Option.getD_some]
   by_cases e' : k' = k
   · subst e'
     rw [if_pos ⟨rfl, rfl⟩, List.getD_eq_getElem?_getD, List.getElem?_set_self (by omega)]; rfl
   · rw [if_neg (fun h => e' h.2), List.getD_eq_getElem?_getD, List.getElem?_set_ne (Ne.symm e'), ← List.getD_eq_getElem?_getD]
 · rw [if_neg (fun h => e h.1), List.getD_eq_getElem?_getD (l := t.cells.set _ _), List.getElem?_set_ne (Ne.symm e), ← List.getD_eq_getElem?_getD]
theorem Clo.setCell {t t' : Tab} {P : Nat → Prop} {Q : Nat → Nat → Prop} {S : Nat → Prop} (h : Clo t t' P Q S) {i k : Nat} (hi : i < t.R) (hk : k < t.C) {x : Spn} (hx : EndsP t (fun s => s i k) x) : Clo t (t'.setCell i k x) P (fun a b => Q a b ∨ (a = i ∧ b = k)) S where
 R := h.R
 C := h.C
 len := by rw [zEQ]; exact h.len
 wid := zER h.wid (by rw [h.len]; exact hi) x
 row := h.row
 cell a b ha hb hq := by
  rw [zBj h.wid (by rw [h.len]; exact hi) hk]
  by_cases e : a = i ∧ b = k
  · obtain ⟨rfl, rfl⟩ := e; rw [if_pos ⟨rfl, rfl⟩]; exact hx
  · rw [if_neg e]; exact h.cell a b ha hb (hq.resolve_right e)
 col := h.col
set_option maxRecDepth 10000
set_option maxHeartbeats 4000000
structure RcAt (T : TabV) (H : Heap) (B g : Nat) (ps : Nat → Nat) (t : Tab) : Prop where
 own : H[0]? = some (.cells 0 3 false [T.v])
 res : H[1]? = some (.cells 0 3 false [noTab])
 tab : TbAt H 4 5 6 1 1 g ps t
 box : H[B]? = some (.cells 0 3 false [memT T.tab 4 5 6 1 1 g])
 len : H.length = B + 1
 lt : 6 < B
 ps : ∀ i, i < T.tab.R → 6 < ps i ∧ ps i ≠ B
theorem z74 {t : Tab} {i : Nat} (hi : i < t.R) : (t.rows.map spV)[i]? = some (spV (t.row i)) := by
 unfold Tab.row
 rw [List.getElem?_map, List.getD_eq_getElem?_getD, List.getElem?_eq_getElem (show i < t.rows.length from hi)]
 rfl
set_option maxRecDepth 10000
set_option maxHeartbeats 4000000
theorem zCk {f : Nat} (hw : (env.hint f).whole = false) (hka : (env.hint f).keepAll = false) (hk : (env.hint f).keep = []) {x y : Spn} (h : ∃ H', runT env f [spV x, spV y] [] 0 = some (.ret (spV (z0G x y)), H')) (ro : Nat) (H : Heap) (nx : Nat) : callT env f [spV x, spV y] ro H nx = some (.ret (spV (z0G x y)), .ups []) := by
 obtain ⟨H', h⟩ := h
 exact call_pure hw hka hk rfl h rfl ro H nx
theorem z9I {x y : Spn} (h1 : IntKind.i64.wrap (x.lo + y.lo) = x.lo + y.lo) (h2 : IntKind.i64.wrap (x.hi + y.hi) = x.hi + y.hi) (ro : Nat) (H : Heap) (nx : Nat) : callT env 95 [spV x, spV y] ro H nx = some (.ret (spV (z0G x y)), .ups []) := by
 refine zCk rfl rfl rfl ?_ ro H nx
 have wr : z0K (.agg [.int .i64 0, .int .i64 0]) 0 (.agg [.int .i64 (x.lo + y.lo), .int .i64 (x.hi + y.hi)]) = some (spV (z0G x y)) := rfl
 have wr' : z0K (spV ⟨0, 0⟩) 0 (spV (z0G x y)) = some (spV (z0G x y)) := rfl
 have e : spV (z0G x y) = .agg [.int .i64 (x.lo + y.lo), .int .i64 (x.hi + y.hi)] := rfl
 rw [run_unfold fn95 rfl]
 simp only [go_sem, simprocAttr, Try.f95, h1, h2, wr, wr', unwind, modeEx, resultsOf, one]
 exact ⟨_, rfl⟩
def z0T (t : Tab) (a b n : Nat) : List Spn := (List.range n).map fun k => z0G (t.cell a k) (t.cell b k)
theorem z2F (t : Tab) (a b n : Nat) : (z0T t a b n).length = n := by simp [z0T]
theorem z9b (t : Tab) (a b n : Nat) : z0T t a b (n + 1) = z0T t a b n ++ [z0G (t.cell a n) (t.cell b n)] := by simp [z0T, List.range_succ]
theorem zNT {t : Tab} (hO : t.Ok) {X : Heap} {B g : Nat} {ps : Nat → Nat} (hX : X.length = B + 1 + 1) (hat : TbAt X 4 5 12 0 0 g ps t) (hbox : X[B]? = some (.cells 0 3 false [memT t 4 5 12 0 0 g])) {a b : Nat} (ha : a < t.R) (hb : b < t.R) : ∀ (n k : Nat) (j0 j3 j4 j5 j7 j8 j13 j14 j15 j16 j17 j18 j19 j20 j21 j22 j23 j24 j25 j26 j27 j28 j29 j30 j31 j32 j33 j34 j35 j36 j37 j38 j39 j40 j41 j42 j43 j44 j45 j46 j47 j48 j49 j50 j51 j52 j53 j54 j55 j56 j57 j58 j59 j60 j61 j62 j66 j67 j68 j69 j70 j71 j72 j73 j74 j75 j76 j77 j78 j79 j80 j81 j82 j83 j84 j85 j86 j87 j88 j89 j90 j91 j92 j93 j94 j95 j96 j97 j98 j99 j100 j101 j102 j103 j104 j105 j106 j107 j108 j109 j110 j111 j112 j113 j114 j115 j116 j117 j118 j119 j120 j121 j122 j123 j124 j125 j126 j127 j128 j129 j130 j131 j132 j133 j134 j135 j136 j137 j138 j139 : AVal), k + n = t.C →
    Goes (execT env (Try.f37.at [1, 1, 1, 1, 1, 1, 1, 0, 1, 0]) ⟨[j0, .int .i64 a, .int .i64 b, j3, j4, j5, .ptr 1 0 0 0, j7, j8, .func 95 [] [], .ptr B 0 0 0, .ptr (B + 1) 0 0 0, .ref (B + 1 + 1) k 0 k false, j13, j14, j15, j16, j17, j18, j19, j20, j21, j22, j23, j24, j25, j26, j27, j28, j29, j30, j31, j32, j33, j34, j35, j36, j37, j38, j39, j40, j41, j42, j43, j44, j45, j46, j47, j48, j49, j50, j51, j52, j53, j54, j55, j56, j57, j58, j59, j60, j61, j62, .ref 5 0 0 t.C false, .int .i64 t.C, .int .i64 k, j66, j67, j68, j69, j70, j71, j72, j73, j74, j75, j76, j77, j78, j79, j80, j81, j82, j83, j84, j85, j86, j87, j88, j89, j90, j91, j92, j93, j94, j95, j96, j97, j98, j99, j100, j101, j102, j103, j104, j105, j106, j107, j108, j109, j110, j111, j112, j113, j114, j115, j116, j117, j118, j119, j120, j121, j122, j123, j124, j125, j126, j127, j128, j129, j130, j131, j132, j133, j134, j135, j136, j137, j138, j139], X ++ [accN ((z0T t a b k).map spV)], [], 0, [10, 12, 136]⟩) fun ex st =>
     ex = .exit 0 ∧ FrP 140 [(1, .int .i64 a), (2, .int .i64 b), (6, .ptr 1 0 0 0), (9, .func 95 [] []), (10, .ptr B 0 0 0), (11, .ptr (B + 1) 0 0 0), (12, .ref (B + 1 + 1) t.C 0 t.C false)] (X ++ [accN ((z0T t a b t.C).map spV)]) [] 0 [10, 12, 136] st := by
 have hR8 := hO.R8
 have hC8 := hO.C8
 intro n
 induction n with
 | zero =>
   intro k; intros; rename_i hk
   have hd : decide ((k : Int) < (t.C : Int)) = false := by simp; omega
   have hk' : k = t.C := by omega
   subst hk'
   simp only [go_sem, simprocAttr, Try.f37]
   rw [exec_loop]
   simp only [go_sem, simprocAttr, hd]
   exact frP (by kernel_rfl)
 | succ n ih =>
   intro k; intros; rename_i hk
   have hkC : k < t.C := by omega
   have hd : decide ((k : Int) < (t.C : Int)) = true := by simp; omega
   have k0 : (0 : Int) ≤ (k : Int) := by omega
   have a0 : (0 : Int) ≤ (a : Int) := by omega
   have b0 : (0 : Int) ≤ (b : Int) := by omega
   have dA : decide ((a : Int) < (t.R : Int)) = true := by simp; omega
   have dB : decide ((b : Int) < (t.R : Int)) = true := by simp; omega
   have dC : decide ((k : Int) < (t.C : Int)) = true := hd
   have hb5 : ∀ z, (X ++ [z])[B]? = some (.cells 0 3 false [.agg [.ref 4 0 0 t.R false, .ref 5 0 0 t.C false, .ref 12 g 0 t.R false]]) := fun z => by rw [z4d hX _ (by omega)]; exact hbox
   have hacc := fun z => (hat.more [z]).acc
   have hra := fun z => (hat.more [z]).row a ha
   have hrb := fun z => (hat.more [z]).row b hb
   have hva : (vecA t.R fun i => AVal.ref (ps i) 0 0 t.C false)[a]? = some (.ref (ps a) 0 0 t.C false) := vecA_get _ ha
   have hvb : (vecA t.R fun i => AVal.ref (ps i) 0 0 t.C false)[b]? = some (.ref (ps b) 0 0 t.C false) := vecA_get _ hb
   have ga := z2n hO ha hkC
   have gb := z2n hO hb hkC
   have ba := hO.cell_ok ha hkC
   have bb := hO.cell_ok hb hkC
   have pc := z9I (x := t.cell a k) (y := t.cell b k) (i64_in _ (by omega)) (i64_in _ (by omega))
   have ap := z2M (H := X ++ [accN ((z0T t a b k).map spV)]) (id := B + 1 + 1) (n := k) (es := (z0T t a b k).map spV) (x := z0G (t.cell a k) (t.cell b k)) (z08 hX _) (by rw [List.length_map, z2F]) (by omega) (B + 1 + 1 + 1) (ro := 0) (Nat.zero_le _)
   rw [show (z0T t a b k).map spV ++ [spV (z0G (t.cell a k) (t.cell b k))] = (z0T t a b (k + 1)).map spV by rw [z9b, List.map_append]; rfl] at ap
   have hL : ∀ z, (X ++ [z]).length = B + 1 + 1 + 1 := fun z => z06 hX z
   have hst : ∀ z z', (X ++ [z]).set (B + 1 + 1) z' = X ++ [z'] := fun z z' => z0d hX z z'
   have z1 : (B + 1 + 1 < B + 1 + 1 + 1) = True := eq_true (by omega)
   have z2 : decide (B < B + 1 + 1 + 1) = true := decide_eq_true (by omega)
   have z3 : decide (B + 1 + 1 < B + 1 + 1 + 1) = true := decide_eq_true (by omega)
   have lt4 := hat.lt
   have z4 : decide (12 < B + 1 + 1 + 1) = true := decide_eq_true (by have := lt4.2.2.1; omega)
   have z5 : decide (ps a < B + 1 + 1 + 1) = true := decide_eq_true (by have := lt4.2.2.2 a ha; omega)
   have z6 : decide (ps b < B + 1 + 1 + 1) = true := decide_eq_true (by have := lt4.2.2.2 b hb; omega)
   have htr : ∀ Tm z, trunc (B + 1 + 1 + 1) ⟨Tm, X ++ [z], [], 0, [10, 12, 136]⟩ = ⟨Tm, X ++ [z], [], 0, [10, 12, 136]⟩ := fun Tm z => by
    unfold trunc
    rw [if_pos (by rw [z06 hX]; exact Nat.le_refl _)]
   have ih' := ih (k + 1)
   simp only [go_sem, simprocAttr, Try.f37] at ih' ⊢
   rw [exec_loop]
   simp only [go_sem, simprocAttr, hd, a0, b0, k0, dA, dB, Int.toNat_natCast, hb5, hacc, hra, hrb, hva, hvb, ga, gb, z0V hO.len hO.wid ha, z0V hO.len hO.wid hb, pc, hL, ap, hst, z1, z2, z3, z4, z5, z6, htr, Nat.zero_add, Nat.zero_le]
   rw [apart_ok]
   · simp only [go_sem, simprocAttr, hL, htr, z00 (show k < 2 ^ 63 - 1 by omega)]
     exact ih' _ _ _ _ _ _ _ _ _ _ _ _ _ _ _ _ _ _ _ _ _ _ _ _ _ _ _ _ _ _ _ _ _ _ _ _ _ _ _ _ _ _ _ _ _ _ _ _ _ _ _ _ _ _ _ _ _ _ _ _ _ _ _ _ _ _ _ _ _ _ _ _ _ _ _ _ _ _ _ _ _ _ _ _ _ _ _ _ _ _ _ _ _ _ _ _ _ _ _ _ _ _ _ _ _ _ _ _ _ _ _ _ _ _ _ _ _ _ _ _ _ _ _ _ _ _ _ _ _ _ (by omega)
   · exact z0L (by kernel_rfl)
set_option maxRecDepth 10000
set_option maxHeartbeats 4000000
theorem z6G : ∀ (vs l : List AVal) (i : Nat), i + vs.length ≤ l.length → putList l i vs = l.take i ++ vs ++ l.drop (i + vs.length)
 | [], l, i, h => by simp [putList]
 | v :: vs, l, i, h => by
   rw [List.length_cons] at h
   have ih := z6G vs (l.set i v) (i + 1) (by rw [List.length_set]; omega)
   rw [putList, ih]
   have e1 : (l.set i v).take (i + 1) = l.take i ++ [v] := by
    rw [List.take_add_one, List.getElem?_set_self (by omega), List.take_set_of_le (Nat.le_refl _)]; rfl
   have e2 : (l.set i v).drop (i + 1 + vs.length) = l.drop (i + (v :: vs).length) := by
    rw [List.drop_set_of_lt (by omega), List.length_cons]; congr 1; omega
   rw [e1, e2]; simp
def delL (z : AVal) (es : List AVal) (i n : Nat) : List AVal := putList (putList es i ((es.drop (i + 1)).take (n - (i + 1)))) (n - 1) [z]
theorem zI1 {α : Type} (e : α → AVal) (z : AVal) (L : List α) (rest : List AVal) {i : Nat} (hi : i < L.length) : delL z (L.map e ++ rest) i L.length = (L.eraseIdx i).map e ++ z :: rest := by
 unfold delL
 have e0 : ((L.map e ++ rest).drop (i + 1)).take (L.length - (i + 1)) = (L.drop (i + 1)).map e := by
  rw [List.drop_append_of_le_length (by rw [List.length_map]; omega), List.take_append_of_le_length (by simp), List.map_drop]
  exact List.take_of_length_le (by simp)
 have hl : ((L.drop (i + 1)).map e).length = L.length - (i + 1) := by simp
 have h1 := z6G ((L.drop (i + 1)).map e) (L.map e ++ rest) i (by rw [hl, List.length_append, List.length_map]; omega)
 rw [hl] at h1
 rw [e0, h1]
 have e1 : (L.map e ++ rest).take i = (L.take i).map e := by
  rw [List.take_append_of_le_length (by rw [List.length_map]; omega), List.map_take]
 have e2 : (L.map e ++ rest).drop (i + (L.length - (i + 1))) = (L.drop (L.length - 1)).map e ++ rest := by
  rw [show i + (L.length - (i + 1)) = L.length - 1 by omega, List.drop_append_of_le_length (by rw [List.length_map]; omega), List.map_drop]
 rw [e1, e2]
 have e3 : (L.take i).map e ++ (L.drop (i + 1)).map e = (L.eraseIdx i).map e := by
  rw [List.eraseIdx_eq_take_drop_succ, List.map_append]
 have hl2 : ((L.eraseIdx i).map e).length = L.length - 1 := by
  rw [List.length_map, List.length_eraseIdx_of_lt hi]
 have hl3 : (L.drop (L.length - 1)).map e = [e (L[L.length - 1]'(by omega))] := by
  rw [List.drop_eq_getElem_cons (by omega), List.map_cons, List.drop_eq_nil_of_le (by omega)]; rfl
 rw [e3, hl3, z6G _ _ _ (by simp only [List.length_append, hl2, List.length_cons, List.length_nil]; omega)]
 rw [List.append_assoc, List.take_left' hl2]
 have e4 : ((L.eraseIdx i).map e ++ ([e (L[L.length - 1]'(by omega))] ++ rest)).drop (L.length - 1 + [z].length) = rest := by
  rw [List.length_singleton, ← List.drop_drop, List.drop_left' hl2]; rfl
 rw [e4]
 simp
theorem zHk {f : Nat} {args qs : List AVal} {fp : List Nat} {bs : List Blk} {v w : AVal} {H H' : Heap} {ro nx : Nat} (hw : (env.hint f).whole = false) (hka : (env.hint f).keepAll = false) (hk : (env.hint f).keep = []) (hro : (env.hint f).ro = false)
    (hl : lend H (env.hint f).lits args 0 = some (qs, [])) (hre : reach H fuel0 (refsL qs) [] = some fp) (hg : getAll H fp = some bs)
    (hc : (fp.all fun id => decide (ro ≤ id)) = true)
    (hr : runT env f (renL (idx fp) qs) (bs.map (renB (idx fp))) 0 = some (.ret v, H'))
    (hb : handBack H' fp.length [] 4 v = some w) :
    callT env f args ro H nx = some (.ret (w.ren (backF nx fp [])), .ups (fp.zip ((H'.take fp.length).map (renB (backF nx fp []))))) := by
 unfold callT
 rw [callF_small hw, hl]
 simp only [hre, hg, hc, hro, List.all_nil, Bool.not_true, Bool.not_false, Bool.or_false, Bool.and_false, Bool.true_and, Bool.false_eq_true, if_false, hr, Option.bind_some, callBack, keepOf, hka, hk, List.filter_nil, uniq, getAll, hb, List.isEmpty_nil, Bool.true_or, if_true]
 simp only [callUpd, hro, List.map_nil, numbered, List.append_nil, Bool.false_eq_true, if_false]
section
variable {g n i : Nat} {es : List AVal}
theorem z4w (k : Nat) (d : Nat) : z0U (some (.int .i64 (k : Nat))) d = some k := by simp [z0U]
theorem zQW (H : Heap) (hH : H[0]? = some (.cells g 2 true es)) (hi : i < n) : ∃ v, z0Z env H 22 (.ref 0 g 0 n false) (some (.int .i64 i)) (some (.int .i64 (i + 1 : Nat))) (some (.int .i64 n)) = some v := by
 have h1 : i ≤ i + 1 := by omega
 have h2 : i + 1 ≤ n := by omega
 by_cases h : n = i + 1
 · exact ⟨.ref 0 g (0 + i) (i + 1 - i) true, by simp only [z0Z, ti22, ti39, hH, z4w]; simp [h1, h2, h]⟩
 · exact ⟨.undef, by simp only [z0Z, ti22, ti39, hH, z4w]; simp [h1, h2, h]⟩
theorem zQX (H : Heap) (hH : H[0]? = some (.cells g 2 true es)) (hi : i < n) : z0Z env H 22 (.ref 0 g 0 n false) none (some (.int .i64 i)) none = some (.ref 0 g 0 i false) := by
 have h1 : i ≤ n := by omega
 simp only [z0Z, ti22, ti39, hH, z4w]
 simp [z0U, h1]
theorem zQY (H : Heap) (hH : H[0]? = some (.cells g 2 true es)) (hi : i < n) : z0Z env H 22 (.ref 0 g 0 n false) (some (.int .i64 (i + 1 : Nat))) none none = some (.ref 0 g (i + 1) (n - (i + 1)) false) := by
 have h1 : i + 1 ≤ n := by omega
 simp only [z0Z, ti22, ti39, hH, z4w]
 simp [z0U, h1]
theorem zQZ (H : Heap) (hH : H[0]? = some (.cells g 2 true es)) (hi : i < n) (hn : n ≤ es.length) : z0Z env H 22 (.ref 0 g 0 (n - 1) false) (some (.int .i64 (n - 1 : Nat))) (some (.int .i64 n)) none = some (.ref 0 g (n - 1) 1 false) := by
 have h1 : n - 1 ≤ n := by omega
 have h2 : n - (n - 1) = 1 := by omega
 simp only [z0Z, ti22, ti39, hH, z4w]
 simp [z0U, h1, h2, hn]
theorem ap98 (H : Heap) (hH : H[0]? = some (.cells g 2 true es)) (hi : i < n) (hn : n ≤ es.length) (hb : n < 2 ^ 30) (hp : es.all noRef = true) (nx : Nat) : z0H env 0 nx 22 (.ref 0 g 0 i false) (.ref 0 g (i + 1) (n - (i + 1)) false) H = some (.ref 0 g 0 (n - 1) false, [(0, .cells g 2 true (putList es i ((es.drop (i + 1)).take (n - (i + 1)))))]) := by
 have e1 : i + (n - (i + 1)) = n - 1 := by omega
 have hl : ((es.drop (i + 1)).take (n - (i + 1))).length = n - (i + 1) := by simp; omega
 have hnr : ((es.drop (i + 1)).take (n - (i + 1))).all noRef = true := List.all_eq_true.2 fun x hx => List.all_eq_true.1 hp x (List.mem_of_mem_drop (List.mem_of_mem_take hx))
 have hel : z15 H (.ref 0 g (i + 1) (n - (i + 1)) false) = some (2, (es.drop (i + 1)).take (n - (i + 1))) := by
  simp [z15, hH]; omega
 have hm : (i + (n - (i + 1))) * 17 ≤ z04 := by unfold z04; omega
 generalize (es.drop (i + 1)).take (n - (i + 1)) = new at hl hnr hel
 simp [z0H, ti22, ti39, hel, hH, hl, hnr, AVal.cellsOf, AVal.isTuple]
 refine ⟨⟨by omega, hm⟩, ?_⟩
 rw [if_pos (by omega), e1]
theorem zHz (hi : i < n) (hn : n ≤ es.length) (hb : n < 2 ^ 30) (hp : es.all noRef = true) : ∃ X, runT env 98 [.ref 0 g 0 n false, .int .i64 i, .int .i64 (i + 1 : Nat)] [.cells g 2 true es] 0 = some (.ret (.ref 0 g 0 (n - 1) false), .cells g 2 true (delL (spV ⟨0, 0⟩) es i n) :: X) := by
 obtain ⟨v1, h1⟩ := zQW (g := g) (es := es) [.cells g 2 true es] rfl hi
 have h2 := zQX (g := g) (es := es) [.cells g 2 true es] rfl hi
 have h3 := zQY (g := g) (es := es) [.cells g 2 true es] rfl hi
 have h4 := ap98 (g := g) (es := es) [.cells g 2 true es] rfl hi hn hb hp
 have hpl : (putList es i ((es.drop (i + 1)).take (n - (i + 1)))).length = es.length := by
  have hl : ((es.drop (i + 1)).take (n - (i + 1))).length = n - (i + 1) := by simp; omega
  rw [z6G _ _ _ (by rw [hl]; omega), List.length_append, List.length_append, hl, List.length_take, List.length_drop]
  omega
 have h5 := zQZ (g := g) (es := putList es i ((es.drop (i + 1)).take (n - (i + 1)))) [.cells g 2 true (putList es i ((es.drop (i + 1)).take (n - (i + 1))))] rfl hi (by rw [hpl]; exact hn)
 have d1 : decide ((i : Int) = ((i + 1 : Nat) : Int)) = false := decide_eq_false (by omega)
 have z1 : n - 1 + 1 ≤ es.length := by omega
 have hnl : n - 1 + 1 = n := by omega
 unfold delL
 generalize putList es i ((es.drop (i + 1)).take (n - (i + 1))) = es2 at *
 rw [run_unfold fn98 rfl]
 simp only [go_sem, simprocAttr, Try.f98, h1, h2, h3, h4, d1]
 rw [apart_ok]
 · simp only [go_sem, simprocAttr, h5, hpl, z1, hnl, hn, unwind, modeEx, resultsOf, one]
   exact ⟨_, rfl⟩
 · kernel_rfl
end
theorem lend_ref98 {H : Heap} {p g n : Nat} {a b : Int} : lend H (env.hint 98).lits [.ref p g 0 n false, .int .i64 a, .int .i64 b] 0 = some ([.ref p g 0 n false, .int .i64 a, .int .i64 b], []) := by
 have : (env.hint 98).lits = [] := rfl
 rw [this]
 rfl
theorem zGC {p g n i : Nat} {es : List AVal} {H : Heap} (hH : H[p]? = some (.cells g 2 true es)) (hi : i < n) (hn : n ≤ es.length) (hb : n < 2 ^ 30) (hp : es.all noRef = true) (nx : Nat) :
    callT env 98 [.ref p g 0 n false, .int .i64 i, .int .i64 (i + 1 : Nat)] 0 H nx = some (.ret (.ref p g 0 (n - 1) false), .ups [(p, .cells g 2 true (delL (spV ⟨0, 0⟩) es i n))]) := by
 obtain ⟨X, hr⟩ := zHz (g := g) hi hn hb hp
 have hre : reach H fuel0 (refsL [.ref p g 0 n false, .int .i64 i, .int .i64 (i + 1 : Nat)]) [] = some [p] := by
  unfold fuel0
  simp [reach, refsL, AVal.refs, hH]
 have e1 : idx [p] p = some 0 := by simp [idx, List.findIdx?_cons]
 have h := zHk (f := 98) (bs := [.cells g 2 true es]) (ro := 0) (nx := nx) rfl rfl rfl rfl lend_ref98 hre (by simp only [getAll, hH]) (by simp) (by
  simp only [renL, AVal.ren, e1, List.map_cons, List.map_nil]
  exact hr) (by simp [handBack]; rfl)
 rw [h]
 rfl
section
variable {g n i : Nat} {es : List AVal}
theorem zQa (H : Heap) (hH : H[0]? = some (Blk.cells g 1 false es)) (hi : i < n) : ∃ v, z0Z env H 23 (.ref 0 g 0 n false) (some (.int .i64 i)) (some (.int .i64 (i + 1 : Nat))) (some (.int .i64 n)) = some v := by
 have h1 : i ≤ i + 1 := by omega
 have h2 : i + 1 ≤ n := by omega
 by_cases h : n = i + 1
 · exact ⟨.ref 0 g (0 + i) (i + 1 - i) true, by simp only [z0Z, ti23, ti22, hH, z4w]; simp [h1, h2, h]⟩
 · exact ⟨.undef, by simp only [z0Z, ti23, ti22, hH, z4w]; simp [h1, h2, h]⟩
theorem zQb (H : Heap) (hH : H[0]? = some (Blk.cells g 1 false es)) (hi : i < n) : z0Z env H 23 (.ref 0 g 0 n false) none (some (.int .i64 i)) none = some (.ref 0 g 0 i false) := by
 have h1 : i ≤ n := by omega
 simp only [z0Z, ti23, ti22, hH, z4w]
 simp [z0U, h1]
theorem zQc (H : Heap) (hH : H[0]? = some (Blk.cells g 1 false es)) (hi : i < n) : z0Z env H 23 (.ref 0 g 0 n false) (some (.int .i64 (i + 1 : Nat))) none none = some (.ref 0 g (i + 1) (n - (i + 1)) false) := by
 have h1 : i + 1 ≤ n := by omega
 simp only [z0Z, ti23, ti22, hH, z4w]
 simp [z0U, h1]
theorem zQd (H : Heap) (hH : H[0]? = some (Blk.cells g 1 false es)) (hi : i < n) (hn : n ≤ es.length) : z0Z env H 23 (.ref 0 g 0 (n - 1) false) (some (.int .i64 (n - 1 : Nat))) (some (.int .i64 n)) none = some (.ref 0 g (n - 1) 1 false) := by
 have h1 : n - 1 ≤ n := by omega
 have h2 : n - (n - 1) = 1 := by omega
 simp only [z0Z, ti23, ti22, hH, z4w]
 simp [z0U, h1, h2, hn]
theorem ap99 (H : Heap) (hH : H[0]? = some (Blk.cells g 1 false es)) (hi : i < n) (hn : n ≤ es.length) (hb : n < 2 ^ 30) (nx : Nat) : z0H env 0 nx 23 (.ref 0 g 0 i false) (.ref 0 g (i + 1) (n - (i + 1)) false) H = some (.ref 0 g 0 (n - 1) false, [(0, Blk.cells g 1 false (putList es i ((es.drop (i + 1)).take (n - (i + 1)))))]) := by
 have e1 : i + (n - (i + 1)) = n - 1 := by omega
 have hl : ((es.drop (i + 1)).take (n - (i + 1))).length = n - (i + 1) := by simp; omega
 have hel : z15 H (.ref 0 g (i + 1) (n - (i + 1)) false) = some (1, (es.drop (i + 1)).take (n - (i + 1))) := by
  simp [z15, hH]; omega
 have hm : (i + (n - (i + 1))) * 25 ≤ z04 := by unfold z04; omega
 generalize (es.drop (i + 1)).take (n - (i + 1)) = new at hl hel
 simp [z0H, ti23, ti22, hel, hH, hl, AVal.cellsOf, AVal.isTuple]
 refine ⟨⟨by omega, hm⟩, ?_⟩
 rw [if_pos (by omega), e1]
theorem zI0 (Y : Heap) (hi : i < n) (hn : n ≤ es.length) (hb : n < 2 ^ 30) : ∃ X, runT env 99 [.ref 0 g 0 n false, .int .i64 i, .int .i64 (i + 1 : Nat)] (Blk.cells g 1 false es :: Y) 0 = some (.ret (.ref 0 g 0 (n - 1) false), Blk.cells g 1 false (delL (.lit true 0 []) es i n) :: (Y ++ X)) := by
 obtain ⟨v1, h1⟩ := zQa (g := g) (es := es) (Blk.cells g 1 false es :: Y) rfl hi
 have h2 := zQb (g := g) (es := es) (Blk.cells g 1 false es :: Y) rfl hi
 have h3 := zQc (g := g) (es := es) (Blk.cells g 1 false es :: Y) rfl hi
 have h4 := ap99 (g := g) (es := es) (Blk.cells g 1 false es :: Y) rfl hi hn hb
 have hpl : (putList es i ((es.drop (i + 1)).take (n - (i + 1)))).length = es.length := by
  have hl : ((es.drop (i + 1)).take (n - (i + 1))).length = n - (i + 1) := by simp; omega
  rw [z6G _ _ _ (by rw [hl]; omega), List.length_append, List.length_append, hl, List.length_take, List.length_drop]
  omega
 have h5 := zQd (g := g) (es := putList es i ((es.drop (i + 1)).take (n - (i + 1)))) (Blk.cells g 1 false (putList es i ((es.drop (i + 1)).take (n - (i + 1)))) :: Y) rfl hi (by rw [hpl]; exact hn)
 have d1 : decide ((i : Int) = ((i + 1 : Nat) : Int)) = false := decide_eq_false (by omega)
 have z1 : n - 1 + 1 ≤ es.length := by omega
 have hnl : n - 1 + 1 = n := by omega
 unfold delL
 generalize putList es i ((es.drop (i + 1)).take (n - (i + 1))) = es2 at *
 have zy1 : (0 < Y.length + 1) = True := eq_true (by omega)
 have zy2 : decide (0 < Y.length + 1) = true := decide_eq_true (by omega)
 refine ⟨[], ?_⟩
 rw [run_unfold fn99 rfl, List.append_nil]
 simp only [go_sem, simprocAttr, Try.f99, h1, h2, h3, h4, d1, zy1, zy2]
 rw [apart_ok]
 · simp only [go_sem, simprocAttr, h5, hpl, z1, hnl, hn, zy1, zy2, unwind, modeEx, resultsOf, one]
 · kernel_rfl
end
set_option maxRecDepth 10000
set_option maxHeartbeats 4000000
theorem zEG (f : Nat → Option Nat) : ∀ l : List AVal, renL f l = l.map (AVal.ren f)
 | [] => rfl
 | x :: l => by simp only [renL, List.map_cons, zEG f l]
theorem z6H (f : AVal → AVal) : ∀ (vs l : List AVal) (i : Nat), putList (l.map f) i (vs.map f) = (putList l i vs).map f
 | [], _, _ => rfl
 | v :: vs, l, i => by
   simp only [List.map_cons, putList]
   rw [← List.map_set, z6H f vs]
theorem zKE (f : AVal → AVal) (z : AVal) (es : List AVal) (i n : Nat) : delL (f z) (es.map f) i n = (delL z es i n).map f := by
 unfold delL
 rw [← List.map_drop, ← List.map_take, z6H]
 exact z6H f [z] _ _
theorem zCu {H : Heap} : ∀ (ids seen : List Nat) (n : Nat), (∀ id ∈ ids, ∃ g sz es, H[id]? = some (.cells g sz true es)) → ids.Nodup → (∀ id ∈ ids, id ∉ seen) → ids.length ≤ n → reach H n ids seen = some (seen ++ ids)
 | [], seen, n, _, _, _, _ => by cases n <;> simp [reach]
 | id :: ids, seen, n, hf, hd, hs, hl => by
   obtain ⟨n, rfl⟩ : ∃ m, n = m + 1 := ⟨n - 1, by simp at hl; omega⟩
   obtain ⟨g, sz, es, hH⟩ := hf id (by simp)
   have hns : seen.contains id = false := by
    rw [Bool.eq_false_iff]; intro h; exact hs id (by simp) (List.contains_iff_mem.1 h)
   have hd' := List.nodup_cons.1 hd
   have ih := zCu (H := H) ids (seen ++ [id]) n (fun x hx => hf x (by simp [hx])) hd'.2 (fun x hx h => by
    rw [List.mem_append] at h
    rcases h with h | h
    · exact hs x (by simp [hx]) h
    · simp at h; subst h; exact hd'.1 hx) (by simp at hl; omega)
   simp only [reach, hns, hH, Bool.false_eq_true, if_false, if_true]
   rw [ih, List.append_assoc]; rfl
theorem zGD {q g n i : Nat} {es : List AVal} {H : Heap} {ids : List Nat} {bs : List Blk} {nx : Nat} (hH : H[q]? = some (.cells g 1 false es)) (hre : reach H fuel0 [q] [] = some (q :: ids)) (hg : getAll H ids = some bs) (hfl : ∀ b ∈ bs, ∃ g' sz es', b = .cells g' sz true es') (hlen : bs.length = ids.length)
    (hback : ∀ x ∈ es, (x.ren (idx (q :: ids))).ren (backF nx (q :: ids) []) = x) (hi : i < n) (hn : n ≤ es.length) (hb : n < 2 ^ 30) :
    callT env 99 [.ref q g 0 n false, .int .i64 i, .int .i64 (i + 1 : Nat)] 0 H nx = some (.ret (.ref q g 0 (n - 1) false), .ups ((q, .cells g 1 false (delL (.lit true 0 []) es i n)) :: ids.zip bs)) := by
 have hle : lend H (env.hint 99).lits [.ref q g 0 n false, .int .i64 i, .int .i64 (i + 1 : Nat)] 0 = some ([.ref q g 0 n false, .int .i64 i, .int .i64 (i + 1 : Nat)], []) := by
  have : (env.hint 99).lits = [] := rfl
  rw [this]
  rfl
 have e1 : idx (q :: ids) q = some 0 := by simp [idx, List.findIdx?_cons]
 have hrb : ∀ f, bs.map (renB f) = bs := fun f => by
  conv => rhs; rw [← List.map_id bs]
  exact List.map_congr_left fun b hb => by
   obtain ⟨g', sz, es', rfl⟩ := hfl b hb
   rfl
 obtain ⟨X, hr⟩ := zI0 (g := g) (es := es.map (AVal.ren (idx (q :: ids)))) bs hi (by rw [List.length_map]; exact hn) hb
 have h := zHk (f := 99) (args := [.ref q g 0 n false, .int .i64 i, .int .i64 (i + 1 : Nat)]) (bs := .cells g 1 false es :: bs) (fp := q :: ids) (ro := 0) (nx := nx) (w := .ref 0 g 0 (n - 1) false) rfl rfl rfl rfl hle (by simpa [refsL, AVal.refs] using hre) (by simp only [getAll, hH, hg]) (by simp) (by
  rw [List.map_cons, hrb]
  simp only [renL, AVal.ren, e1, renB, Bool.false_eq_true, if_false, zEG]
  exact hr) (by simp [handBack])
 rw [h]
 have hz : ∀ f, AVal.ren f (.lit true 0 []) = .lit true 0 [] := fun f => rfl
 have hes : (es.map (AVal.ren (idx (q :: ids)))).map (AVal.ren (backF nx (q :: ids) [])) = es := by
  rw [List.map_map]
  conv => rhs; rw [← List.map_id es]
  exact List.map_congr_left fun x hx => hback x hx
 have hd := zKE (AVal.ren (backF nx (q :: ids) [])) (.lit true 0 []) (es.map (AVal.ren (idx (q :: ids)))) i n
 rw [hz, hes] at hd
 have htk : (Blk.cells g 1 false (delL (.lit true 0 []) (es.map (AVal.ren (idx (q :: ids)))) i n) :: (bs ++ X)).take (q :: ids).length = .cells g 1 false (delL (.lit true 0 []) (es.map (AVal.ren (idx (q :: ids)))) i n) :: bs := by
  rw [List.length_cons, List.take_succ_cons, List.take_left' hlen]
 rw [htk, List.map_cons, hrb]
 simp only [renB, Bool.false_eq_true, if_false, zEG, ← hd, List.zip_cons_cons]
 rfl
end Go.Proofs.Ytgfejpngfikjiaa.Tidy
