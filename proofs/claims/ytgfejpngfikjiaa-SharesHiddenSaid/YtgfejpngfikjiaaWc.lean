/-
  What the functions that SharesHidden reaches compute; the law, run.
-/
import Derived.Test.YtgfejpngfikjiaaWb
import Derived.Test.YtgfejpngfikjiaaWa
import Derived.Test.YtgfejpngfikjiaaCb
import Derived.Test.YtgfejpngfikjiaaCd
import Derived.Test.YtgfejpngfikjiaaCe
import Derived.Test.YtgfejpngfikjiaaCf
set_option linter.all false
namespace Go.Proofs.Ytgfejpngfikjiaa.Tidy
open Go Go.IntWalk
set_option maxRecDepth 10000
set_option linter.unusedSimpArgs false
set_option maxHeartbeats 4000000

structure Hd (ob cb : Blk) (H : Heap) (cnt : Nat) (rs cs : List Spn) (cells : List (List Spn)) (C : Nat) : Prop where
  off : H[0]? = some ob
  cut : H[1]? = some cb
  at_ : H[2]? = some (intB (2 * cnt))
  rows : H[3]? = some (accN (rs.map spV))
  cols : H[4]? = some (accN (cs.map spV))
  acc : H[5]? = some (accF (vecA cells.length fun i => .ref (7 + 2 * i) C 0 C false))
  box : H[6]? = some (.cells 0 3 false [.agg [.ref 3 rs.length 0 rs.length false, .ref 4 cs.length 0 cs.length false, .ref 5 cells.length 0 cells.length false]])
  row : ∀ i l, cells[i]? = some l → H[7 + 2 * i]? = some (.cells C 2 true (l.map spV))

theorem Hd.tick {ob cb : Blk} {H : Heap} {cnt : Nat} {rs cs : List Spn} {cells : List (List Spn)} {C : Nat} (h : Hd ob cb H cnt rs cs cells C) : Hd ob cb ((H.set 0 ob).set 2 (intB (2 * (cnt + 1 : Nat)))) (cnt + 1) rs cs cells C := by
  have hl : ∀ {j b}, H[j]? = some b → j < H.length := fun h => (List.getElem?_eq_some_iff.1 h).1
  have ne : ∀ (N A : Blk) (j : Nat), j ≠ 0 → j ≠ 2 → ((H.set 0 N).set 2 A)[j]? = H[j]? := fun N A j a b => by
    rw [List.getElem?_set_ne (Ne.symm b), List.getElem?_set_ne (Ne.symm a)]
  refine ⟨?_, ?_, ?_, ?_, ?_, ?_, ?_, fun i l hi => ?_⟩
  · rw [List.getElem?_set_ne (by decide), List.getElem?_set_self (hl h.off)]
  · rw [ne _ _ _ (by decide) (by decide)]; exact h.cut
  · rw [List.getElem?_set_self (by rw [List.length_set]; exact hl h.at_)]
  · rw [ne _ _ _ (by decide) (by decide)]; exact h.rows
  · rw [ne _ _ _ (by decide) (by decide)]; exact h.cols
  · rw [ne _ _ _ (by decide) (by decide)]; exact h.acc
  · rw [ne _ _ _ (by decide) (by decide)]; exact h.box
  · rw [ne _ _ _ (by omega) (by omega)]; exact h.row i l hi

theorem Hd.mono {ob cb : Blk} {H H' : Heap} {cnt : Nat} {rs cs : List Spn} {cells : List (List Spn)} {C : Nat} (h : Hd ob cb H cnt rs cs cells C) (e : ∀ j, j < 7 + 2 * cells.length → H'[j]? = H[j]?) : Hd ob cb H' cnt rs cs cells C := by
  refine ⟨?_, ?_, ?_, ?_, ?_, ?_, ?_, fun i l hi => ?_⟩
  · rw [e _ (by omega)]; exact h.off
  · rw [e _ (by omega)]; exact h.cut
  · rw [e _ (by omega)]; exact h.at_
  · rw [e _ (by omega)]; exact h.rows
  · rw [e _ (by omega)]; exact h.cols
  · rw [e _ (by omega)]; exact h.acc
  · rw [e _ (by omega)]; exact h.box
  · have : i < cells.length := (List.getElem?_eq_some_iff.1 hi).1
    rw [e _ (by omega)]; exact h.row i l hi

def Arounds (l : List Int) (ys : List Spn) : Prop := ys.length = l.length ∧ ∀ (i : Nat) (n : Int) (y : Spn), l[i]? = some n → ys[i]? = some y → Around n y
theorem Arounds.push {l : List Int} {ys : List Spn} {k : Nat} {n : Int} {y : Spn} (h : Arounds (l.take k) ys) (hn : l[k]? = some n) (hy : Around n y) : Arounds (l.take (k + 1)) (ys ++ [y]) := by
  have hk : k < l.length := (List.getElem?_eq_some_iff.1 hn).1
  have hl := h.1
  rw [List.length_take] at hl
  refine ⟨by rw [List.length_append, List.length_take, hl]; simp; omega, fun i m z h1 h2 => ?_⟩
  rw [List.getElem?_take] at h1
  split at h1
  · rename_i hi
    by_cases e : i = k
    · subst e
      rw [List.getElem?_append_right (by omega)] at h2
      rw [show i - ys.length = 0 by omega] at h2
      rw [hn] at h1
      cases h1; cases h2
      exact hy
    · rw [List.getElem?_append_left (by omega)] at h2
      exact h.2 i m z (by rw [List.getElem?_take, if_pos (by omega)]; exact h1) h2
  · cases h1

def Small (l : List Int) : Prop := ∀ x ∈ l, 0 ≤ x ∧ x ≤ 10 ^ 6
theorem Small.push {l : List Int} {k : Nat} {n : Int} (h : Small (l.take k)) (hn : l[k]? = some n) (h0 : 0 ≤ n) (h1 : n ≤ 10 ^ 6) : Small (l.take (k + 1)) := fun x hx => by
  rw [List.take_add_one, hn, List.mem_append] at hx
  rcases hx with hx | hx
  · exact h x hx
  · simp at hx; subst hx; exact ⟨h0, h1⟩

theorem hd_inner {cl : Bool} {sz : Nat} {off : List Int} (hsz : off = [] ∨ sz = 1) (hne : off ≠ []) (hol : off.length < 2 ^ 63) (hob : ∀ x ∈ off, 0 ≤ x ∧ x ≤ 1000) (cb : Blk) {v0 v2 v3 v11 v12 v101 v102 v103 : AVal} {b : SlI} {C : Nat} (hC : b.l.length = C) (hC8 : C ≤ 8) {cells : List (List Spn)} (hc8 : cells.length ≤ 8) : ∀ (n k cnt : Nat) (H : Heap) (ys : List Spn) (j1 j4 j5 j7 j8 j10 j13 j14 j15 j16 j19 j20 j22 j23 j24 j25 j26 j27 j28 j29 j30 j31 j32 j33 j34 j35 j36 j37 j38 j39 j40 j41 j42 j43 j44 j45 j46 j47 j48 j49 j50 j51 j52 j53 j54 j55 j56 j57 j58 j59 j60 j61 j62 j63 j64 j65 j66 j67 j68 j69 j70 j71 j72 j73 j74 j75 j76 j77 j78 j79 j80 j81 j82 j83 j84 j85 j86 j87 j88 j89 j90 j91 j92 j93 j94 j95 j96 j97 j98 j99 j100 j104 j105 j106 j110 j111 j112 j113 j114 j115 j116 j117 j118 j119 j120 j121 j122 j123 j124 j125 j126 j127 j128 j129 j130 j131 j132 j133 j134 j135 j136 j137 j138 j139 j140 j141 j142 j143 j144 j145 j146 j147 j148 j149 j150 j151 j152 j153 j154 j155 j156 j157 j158 j159 j160 j161 j162 j163 j164 j165 j166 j167 j168 j169 j170 j171 j172 j173 j174 j175 j176 j177 j178 j179 j180 j181 j182 j183 j184 j185 j186 j187 j188 j189 j190 j191 j192 j193 j194 j195 j196 j197 j198 j199 j200 j201 j202 j203 j204 j205 j206 j207 j208 j209 j210 j211 j212 j213 j214 j215 j216 j217 j218 j219 j220 j221 j222 j223 j224 j225 j226 j227 j228 j229 j230 j231 j232 j233 j234 j235 j236 j237 j238 j239 j240 j241 j242 j243 j244 j245 j246 j247 j248 j249 j250 j251 j252 j253 j254 j255 j256 j257 j258 j259 j260 j261 j262 j263 j264 j265 j266 j267 j268 j269 j270 j271 j272 j273 j274 j275 j276 j277 : AVal), k + n = C → cnt + n ≤ 64 →
    Hd (offB cl sz off) cb H cnt [] [] cells C → H.length = 7 + 2 * cells.length + 1 → H[7 + 2 * cells.length]? = some (accN (ys.map spV)) → Arounds (b.l.take k) ys → Small (b.l.take k) →
    Goes (execT env (Try.f10.at [1, 1, 1, 1, 1, 1, 1, 1, 0, 1, 0, 0, 1, 1, 0, 0, 1, 1, 0, 1, 0]) ⟨[v0, j1, v2, v3, j4, j5, .ptr 0 0 0 0, j7, j8, .ptr 1 0 0 0, j10, v11, v12, j13, j14, j15, j16, .func 50 [] [.ptr 0 0 0 0, .ptr 2 0 0 0], .ptr 6 0 0 0, j19, j20, .ref (7 + 2 * cells.length) k 0 k false, j22, j23, j24, j25, j26, j27, j28, j29, j30, j31, j32, j33, j34, j35, j36, j37, j38, j39, j40, j41, j42, j43, j44, j45, j46, j47, j48, j49, j50, j51, j52, j53, j54, j55, j56, j57, j58, j59, j60, j61, j62, j63, j64, j65, j66, j67, j68, j69, j70, j71, j72, j73, j74, j75, j76, j77, j78, j79, j80, j81, j82, j83, j84, j85, j86, j87, j88, j89, j90, j91, j92, j93, j94, j95, j96, j97, j98, j99, j100, v101, v102, v103, j104, j105, j106, .lit b.cl 1 (b.l.map (AVal.int .i64)), .int .i64 C, .int .i64 k, j110, j111, j112, j113, j114, j115, j116, j117, j118, j119, j120, j121, j122, j123, j124, j125, j126, j127, j128, j129, j130, j131, j132, j133, j134, j135, j136, j137, j138, j139, j140, j141, j142, j143, j144, j145, j146, j147, j148, j149, j150, j151, j152, j153, j154, j155, j156, j157, j158, j159, j160, j161, j162, j163, j164, j165, j166, j167, j168, j169, j170, j171, j172, j173, j174, j175, j176, j177, j178, j179, j180, j181, j182, j183, j184, j185, j186, j187, j188, j189, j190, j191, j192, j193, j194, j195, j196, j197, j198, j199, j200, j201, j202, j203, j204, j205, j206, j207, j208, j209, j210, j211, j212, j213, j214, j215, j216, j217, j218, j219, j220, j221, j222, j223, j224, j225, j226, j227, j228, j229, j230, j231, j232, j233, j234, j235, j236, j237, j238, j239, j240, j241, j242, j243, j244, j245, j246, j247, j248, j249, j250, j251, j252, j253, j254, j255, j256, j257, j258, j259, j260, j261, j262, j263, j264, j265, j266, j267, j268, j269, j270, j271, j272, j273, j274, j275, j276, j277], H, [], 0, [18, 21, 129]⟩) fun ex st =>
      (ex = .ret ∧ ∃ (H : Heap), FrP 278 [(10, .bool true)] H [] 0 [18, 21, 129] st) ∨
      (ex = .exit 4 ∧ Small b.l ∧ ∃ (H : Heap) (ys : List Spn), (Hd (offB cl sz off) cb H (cnt + n) [] [] cells C ∧ H.length = 7 + 2 * cells.length + 1 ∧ H[7 + 2 * cells.length]? = some (accN (ys.map spV)) ∧ Arounds b.l ys) ∧ FrP 278 [(0, v0), (2, v2), (3, v3), (6, .ptr 0 0 0 0), (9, .ptr 1 0 0 0), (11, v11), (12, v12), (17, .func 50 [] [.ptr 0 0 0 0, .ptr 2 0 0 0]), (18, .ptr 6 0 0 0), (21, .ref (7 + 2 * cells.length) C 0 C false), (101, v101), (102, v102), (103, v103)] H [] 0 [18, 21, 129] st) := by
  intro n
  induction n with
  | zero =>
    intro k cnt H ys; intros; rename_i hk hcn hA hlen hy hys hsm
    have hd : decide ((k : Int) < (C : Int)) = false := by simp; omega
    have hk' : k = C := by omega
    subst hk'
    rw [← hC, List.take_length] at hys hsm
    simp (config := { maxSteps := 2000000 }) only [go_sem, simprocAttr, Try.f10]
    rw [exec_loop]
    simp (config := { maxSteps := 2000000 }) only [go_sem, simprocAttr, hd]
    exact .inr ⟨hsm, H, ys, ⟨hA, hlen, hy, hys⟩, frP (by kernel_rfl)⟩
  | succ n ih =>
    intro k cnt H ys; intros; rename_i hk hcn hA hlen hy hys hsm
    have hkC : k < C := by omega
    have hd : decide ((k : Int) < (C : Int)) = true := by simp; omega
    have k0 : (0 : Int) ≤ (k : Int) := by omega
    obtain ⟨m, hm⟩ : ∃ m, b.l[k]? = some m := ⟨b.l[k], List.getElem?_eq_getElem (by omega)⟩
    have hbm : (b.l.map (AVal.int .i64))[k]? = some (.int .i64 m) := by rw [List.getElem?_map, hm]; rfl
    cases d1 : decide (m < 0) with
    | true =>
      simp (config := { maxSteps := 2000000 }) only [go_sem, simprocAttr, Try.f10]
      rw [exec_loop]
      simp (config := { maxSteps := 2000000 }) only [go_sem, simprocAttr, hd, k0, Int.toNat_natCast, hbm, d1]
      exact .inl ⟨H, frP (by kernel_rfl)⟩
    | false =>
    cases d2 : decide (1000000 < m) with
    | true =>
      simp (config := { maxSteps := 2000000 }) only [go_sem, simprocAttr, Try.f10]
      rw [exec_loop]
      simp (config := { maxSteps := 2000000 }) only [go_sem, simprocAttr, hd, k0, Int.toNat_natCast, hbm, d1, d2]
      exact .inl ⟨H, frP (by kernel_rfl)⟩
    | false =>
      have m0 : 0 ≤ m := by have := of_decide_eq_false d1; omega
      have m1 : m ≤ 10 ^ 6 := by have := of_decide_eq_false d2; omega
      obtain ⟨y, hay, ac⟩ := around_call hsz hne hol hob m0 (n := m) (by omega) (c := cnt) (by omega)
      have ac := ac hA.off hA.at_
      have hA1 := hA.tick
      have hyl : (ys.map spV).length = k := by
        have := hys.1
        rw [List.length_take] at this
        rw [List.length_map]; omega
      have hy1 : ((H.set 0 (offB cl sz off)).set 2 (intB (2 * (cnt + 1 : Nat))))[7 + 2 * cells.length]? = some (accN (ys.map spV)) := by
        rw [List.getElem?_set_ne (by omega), List.getElem?_set_ne (by omega)]; exact hy
      have ap := append_span (x := y) hy1 hyl (by omega) H.length (ro := 0) (Nat.zero_le _)
      have hA2 : Hd (offB cl sz off) cb (((H.set 0 (offB cl sz off)).set 2 (intB (2 * (cnt + 1 : Nat)))).set (7 + 2 * cells.length) (accN ((ys ++ [y]).map spV))) (cnt + 1) [] [] cells C := hA1.mono fun j hj => List.getElem?_set_ne (by omega)
      have hy2 : (((H.set 0 (offB cl sz off)).set 2 (intB (2 * (cnt + 1 : Nat)))).set (7 + 2 * cells.length) (accN ((ys ++ [y]).map spV)))[7 + 2 * cells.length]? = some (accN ((ys ++ [y]).map spV)) := List.getElem?_set_self (by rw [List.length_set, List.length_set]; omega)
      have hl2 : (((H.set 0 (offB cl sz off)).set 2 (intB (2 * (cnt + 1 : Nat)))).set (7 + 2 * cells.length) (accN ((ys ++ [y]).map spV))).length = 7 + 2 * cells.length + 1 := by rw [List.length_set, List.length_set, List.length_set]; exact hlen
      rw [show (ys.map spV ++ [spV y]) = (ys ++ [y]).map spV by simp] at ap
      have z1 : (0 < H.length) = True := eq_true (by omega)
      have z2 : (2 < H.length) = True := eq_true (by omega)
      have z3 : (7 + 2 * cells.length < H.length) = True := eq_true (by omega)
      have ih' := ih (k + 1) (cnt + 1)
      rw [show cnt + 1 + n = cnt + (n + 1) by omega] at ih'
      have t1 := hys.push hm hay
      have t2 := hsm.push hm m0 m1
      simp (config := { maxSteps := 2000000 }) only [go_sem, simprocAttr, Try.f10, offB, intB] at ih' hA2 hy2 hl2 ap ac ⊢
      rw [exec_loop]
      simp (config := { maxSteps := 2000000 }) only [go_sem, simprocAttr, hd, k0, Int.toNat_natCast, hbm, d1, d2, ac, ap, z1, z2, z3, List.length_set, Nat.le_refl, wrap_succ (show k < 2 ^ 63 - 1 by omega)]
      exact ih' _ _ _ _ _ _ _ _ _ _ _ _ _ _ _ _ _ _ _ _ _ _ _ _ _ _ _ _ _ _ _ _ _ _ _ _ _ _ _ _ _ _ _ _ _ _ _ _ _ _ _ _ _ _ _ _ _ _ _ _ _ _ _ _ _ _ _ _ _ _ _ _ _ _ _ _ _ _ _ _ _ _ _ _ _ _ _ _ _ _ _ _ _ _ _ _ _ _ _ _ _ _ _ _ _ _ _ _ _ _ _ _ _ _ _ _ _ _ _ _ _ _ _ _ _ _ _ _ _ _ _ _ _ _ _ _ _ _ _ _ _ _ _ _ _ _ _ _ _ _ _ _ _ _ _ _ _ _ _ _ _ _ _ _ _ _ _ _ _ _ _ _ _ _ _ _ _ _ _ _ _ _ _ _ _ _ _ _ _ _ _ _ _ _ _ _ _ _ _ _ _ _ _ _ _ _ _ _ _ _ _ _ _ _ _ _ _ _ _ _ _ _ _ _ _ _ _ _ _ _ _ _ _ _ _ _ _ _ _ _ _ _ _ _ _ _ _ _ _ _ _ _ _ _ _ _ _ _ _ _ _ _ _ _ (by omega) (by omega) hA2 hl2 hy2 t1 t2

set_option maxRecDepth 10000
set_option maxHeartbeats 4000000

theorem vecA_snoc {α : Type} (n : Nat) (f : Nat → α) : vecA (n + 1) f = vecA n f ++ [f n] := by simp [vecA, List.range_succ]

theorem Hd.lay {ob cb : Blk} {H : Heap} {cnt : Nat} {cells : List (List Spn)} {C : Nat} (hC : 1 ≤ C) (h : Hd ob cb H cnt [] [] cells C) (hl : H.length = 7 + 2 * cells.length + 1) {ys : List Spn} (hy : H[7 + 2 * cells.length]? = some (accN (ys.map spV))) (hyl : ys.length = C) (b : Blk) :
    Hd ob cb (((H ++ [b]).set 5 (accF (vecA cells.length (fun i => AVal.ref (7 + 2 * i) C 0 C false) ++ [.ref (7 + 2 * cells.length) C 0 C false]))).set 6 (.cells 0 3 false [.agg [.ref 3 0 0 0 false, .ref 4 0 0 0 false, .ref 5 (cells.length + 1) 0 (cells.length + 1) false]])) cnt [] [] (cells ++ [ys]) C := by
  have ne : ∀ (N A : Blk) (j : Nat), j ≠ 5 → j ≠ 6 → j < H.length → (((H ++ [b]).set 5 N).set 6 A)[j]? = H[j]? := fun N A j h1 h2 h3 => by
    rw [List.getElem?_set_ne (Ne.symm h2), List.getElem?_set_ne (Ne.symm h1), List.getElem?_append_left h3]
  have hc : (cells ++ [ys]).length = cells.length + 1 := by simp
  refine ⟨?_, ?_, ?_, ?_, ?_, ?_, ?_, fun i l hi => ?_⟩
  · rw [ne _ _ _ (by decide) (by decide) (by omega)]; exact h.off
  · rw [ne _ _ _ (by decide) (by decide) (by omega)]; exact h.cut
  · rw [ne _ _ _ (by decide) (by decide) (by omega)]; exact h.at_
  · rw [ne _ _ _ (by decide) (by decide) (by omega)]; exact h.rows
  · rw [ne _ _ _ (by decide) (by decide) (by omega)]; exact h.cols
  · rw [List.getElem?_set_ne (by decide), List.getElem?_set_self (by rw [List.length_append]; omega), hc, vecA_snoc]
  · rw [List.getElem?_set_self (by rw [List.length_set, List.length_append]; omega), hc]; rfl
  · have hi' : i < cells.length + 1 := by rw [← hc]; exact (List.getElem?_eq_some_iff.1 hi).1
    rw [ne _ _ _ (by omega) (by omega) (by omega)]
    by_cases e : i = cells.length
    · subst e
      rw [List.getElem?_append_right (Nat.le_refl _), Nat.sub_self] at hi
      cases hi
      rw [hy]
      have : ys.map spV ≠ [] := fun e => by have := congrArg List.length e; rw [List.length_map, List.length_nil] at this; omega
      rw [accN_full this, List.length_map, hyl]
    · rw [List.getElem?_append_left (by omega)] at hi
      exact h.row i l hi

def RowsOk (M : MatV) (cells : List (List Spn)) : Prop := ∀ (j : Nat) (b : SlI) (ys : List Spn), M.rows[j]? = some b → cells[j]? = some ys → Arounds b.l ys ∧ Small b.l

theorem hd_outer {cl : Bool} {sz : Nat} {off : List Int} (hsz : off = [] ∨ sz = 1) (hne : off ≠ []) (hol : off.length < 2 ^ 63) (hob : ∀ x ∈ off, 0 ≤ x ∧ x ≤ 1000) (cb : Blk) {v0 v2 v3 v11 v12 : AVal} {M : MatV} (hM : M.Wf) {R C : Nat} (hR : M.rows.length = R) (hR6 : R ≤ 6) (hC1 : 1 ≤ C) (hC6 : C ≤ 6) (hw : ∀ b ∈ M.rows, b.l.length = C) : ∀ (n i : Nat) (H : Heap) (cells : List (List Spn)) (j1 j4 j5 j7 j8 j10 j13 j14 j15 j16 j19 j20 j21 j22 j23 j24 j25 j26 j27 j28 j29 j30 j31 j32 j33 j34 j35 j36 j37 j38 j39 j40 j41 j42 j43 j44 j45 j46 j47 j48 j49 j50 j51 j52 j53 j54 j55 j56 j57 j58 j59 j60 j61 j62 j63 j64 j65 j66 j67 j68 j69 j70 j71 j72 j73 j74 j75 j76 j77 j78 j79 j80 j81 j82 j83 j84 j85 j86 j87 j88 j89 j90 j91 j92 j93 j94 j95 j96 j97 j98 j99 j100 j104 j105 j106 j107 j108 j109 j110 j111 j112 j113 j114 j115 j116 j117 j118 j119 j120 j121 j122 j123 j124 j125 j126 j127 j128 j129 j130 j131 j132 j133 j134 j135 j136 j137 j138 j139 j140 j141 j142 j143 j144 j145 j146 j147 j148 j149 j150 j151 j152 j153 j154 j155 j156 j157 j158 j159 j160 j161 j162 j163 j164 j165 j166 j167 j168 j169 j170 j171 j172 j173 j174 j175 j176 j177 j178 j179 j180 j181 j182 j183 j184 j185 j186 j187 j188 j189 j190 j191 j192 j193 j194 j195 j196 j197 j198 j199 j200 j201 j202 j203 j204 j205 j206 j207 j208 j209 j210 j211 j212 j213 j214 j215 j216 j217 j218 j219 j220 j221 j222 j223 j224 j225 j226 j227 j228 j229 j230 j231 j232 j233 j234 j235 j236 j237 j238 j239 j240 j241 j242 j243 j244 j245 j246 j247 j248 j249 j250 j251 j252 j253 j254 j255 j256 j257 j258 j259 j260 j261 j262 j263 j264 j265 j266 j267 j268 j269 j270 j271 j272 j273 j274 j275 j276 j277 : AVal), i + n = R → cells.length = i →
    Hd (offB cl sz off) cb H (C * i) [] [] cells C → H.length = 7 + 2 * i → RowsOk M cells →
    Goes (execT env (Try.f10.at [1, 1, 1, 1, 1, 1, 1, 1, 0, 1, 0]) ⟨[v0, j1, v2, v3, j4, j5, .ptr 0 0 0 0, j7, j8, .ptr 1 0 0 0, j10, v11, v12, j13, j14, j15, j16, .func 50 [] [.ptr 0 0 0 0, .ptr 2 0 0 0], .ptr 6 0 0 0, j19, j20, j21, j22, j23, j24, j25, j26, j27, j28, j29, j30, j31, j32, j33, j34, j35, j36, j37, j38, j39, j40, j41, j42, j43, j44, j45, j46, j47, j48, j49, j50, j51, j52, j53, j54, j55, j56, j57, j58, j59, j60, j61, j62, j63, j64, j65, j66, j67, j68, j69, j70, j71, j72, j73, j74, j75, j76, j77, j78, j79, j80, j81, j82, j83, j84, j85, j86, j87, j88, j89, j90, j91, j92, j93, j94, j95, j96, j97, j98, j99, j100, .lit M.cl 1 (M.rows.map SlI.v), .int .i64 R, .int .i64 i, j104, j105, j106, j107, j108, j109, j110, j111, j112, j113, j114, j115, j116, j117, j118, j119, j120, j121, j122, j123, j124, j125, j126, j127, j128, j129, j130, j131, j132, j133, j134, j135, j136, j137, j138, j139, j140, j141, j142, j143, j144, j145, j146, j147, j148, j149, j150, j151, j152, j153, j154, j155, j156, j157, j158, j159, j160, j161, j162, j163, j164, j165, j166, j167, j168, j169, j170, j171, j172, j173, j174, j175, j176, j177, j178, j179, j180, j181, j182, j183, j184, j185, j186, j187, j188, j189, j190, j191, j192, j193, j194, j195, j196, j197, j198, j199, j200, j201, j202, j203, j204, j205, j206, j207, j208, j209, j210, j211, j212, j213, j214, j215, j216, j217, j218, j219, j220, j221, j222, j223, j224, j225, j226, j227, j228, j229, j230, j231, j232, j233, j234, j235, j236, j237, j238, j239, j240, j241, j242, j243, j244, j245, j246, j247, j248, j249, j250, j251, j252, j253, j254, j255, j256, j257, j258, j259, j260, j261, j262, j263, j264, j265, j266, j267, j268, j269, j270, j271, j272, j273, j274, j275, j276, j277], H, [], 0, [18, 21, 129]⟩) fun ex st =>
      (ex = .ret ∧ ∃ (H : Heap), FrP 278 [(10, .bool true)] H [] 0 [18, 21, 129] st) ∨
      (ex = .exit 2 ∧ ∃ (H : Heap) (cells : List (List Spn)), (Hd (offB cl sz off) cb H (C * R) [] [] cells C ∧ H.length = 7 + 2 * R ∧ cells.length = R ∧ RowsOk M cells) ∧ FrP 278 [(0, v0), (2, v2), (3, v3), (6, .ptr 0 0 0 0), (9, .ptr 1 0 0 0), (11, v11), (12, v12), (17, .func 50 [] [.ptr 0 0 0 0, .ptr 2 0 0 0]), (18, .ptr 6 0 0 0)] H [] 0 [18, 21, 129] st) := by
  intro n
  induction n with
  | zero =>
    intro i H cells; intros; rename_i hi hcl hA hlen hok
    have hd : decide ((i : Int) < (R : Int)) = false := by simp; omega
    have hi' : i = R := by omega
    rw [hi'] at hA hlen
    simp (config := { maxSteps := 2000000 }) only [go_sem, simprocAttr, Try.f10]
    rw [exec_loop]
    simp (config := { maxSteps := 2000000 }) only [go_sem, simprocAttr, hd]
    exact .inr ⟨H, cells, ⟨hA, hlen, by omega, hok⟩, frP (by kernel_rfl)⟩
  | succ n ih =>
    intro i H cells; intros; rename_i hi hcl hA hlen hok
    subst hcl
    have hiR : cells.length < R := by omega
    have hd : decide ((cells.length : Int) < (R : Int)) = true := by simp; omega
    have i0 : (0 : Int) ≤ (cells.length : Int) := by omega
    obtain ⟨b, hb⟩ : ∃ b, M.rows[cells.length]? = some b := ⟨M.rows[cells.length], List.getElem?_eq_getElem (by omega)⟩
    have hbm := List.mem_of_getElem? hb
    have hbC := hw b hbm
    have hbz : b.sz = 1 := (hM.each b hbm).resolve_left (fun e => by rw [e] at hbC; simp at hbC; omega)
    have hm1 : (M.rows.map SlI.v)[cells.length]? = some (.lit b.cl 1 (b.l.map (AVal.int .i64))) := by
      rw [List.getElem?_map, hb]
      simp only [Option.map_some, SlI.v, hbz]
    have hbl : (b.l.map (AVal.int .i64)).length = C := by rw [List.length_map]; exact hbC
    have hg := get_snoc hlen (Blk.cells 0 0 false [])
    have hA1 : Hd (offB cl sz off) cb (H ++ [.cells 0 0 false []]) (C * cells.length) [] [] cells C := hA.mono fun j hj => List.getElem?_append_left (by omega)
    have hl1 := len_snoc hlen (Blk.cells 0 0 false [])
    have hcm : C * cells.length ≤ 6 * 6 := Nat.mul_le_mul hC6 (by omega)
    obtain ⟨e1, s1, hx1, hp1⟩ := hd_inner hsz hne hol hob cb (v0 := v0) (v2 := v2) (v3 := v3) (v11 := v11) (v12 := v12) (v101 := .lit M.cl 1 (M.rows.map SlI.v)) (v102 := .int .i64 R) (v103 := .int .i64 cells.length) hbC (by omega) (cells := cells) (by omega) C 0 (C * cells.length) _ [] _ _ _ _ _ _ _ _ _ _ _ _ _ _ _ _ _ _ _ _ _ _ _ _ _ _ _ _ _ _ _ _ _ _ _ _ _ _ _ _ _ _ _ _ _ _ _ _ _ _ _ _ _ _ _ _ _ _ _ _ _ _ _ _ _ _ _ _ _ _ _ _ _ _ _ _ _ _ _ _ _ _ _ _ _ _ _ _ _ _ _ _ _ _ _ _ _ _ _ _ _ _ _ _ _ _ _ _ _ _ _ _ _ _ _ _ _ _ _ _ _ _ _ _ _ _ _ _ _ _ _ _ _ _ _ _ _ _ _ _ _ _ _ _ _ _ _ _ _ _ _ _ _ _ _ _ _ _ _ _ _ _ _ _ _ _ _ _ _ _ _ _ _ _ _ _ _ _ _ _ _ _ _ _ _ _ _ _ _ _ _ _ _ _ _ _ _ _ _ _ _ _ _ _ _ _ _ _ _ _ _ _ _ _ _ _ _ _ _ _ _ _ _ _ _ _ _ _ _ _ _ _ _ _ _ _ _ _ _ _ _ _ _ _ _ _ _ _ _ _ _ _ _ _ _ _ _ _ _ _ _ _ (by omega) (by omega) hA1 hl1 hg ⟨rfl, fun i n y h _ => by simp at h⟩ (fun x hx => by simp at hx)
    rcases hp1 with ⟨rfl, H2, jp, rfl⟩ | ⟨rfl, hsm, H2, ys, ⟨hA2, hl2, hy2, har⟩, jq, rfl⟩
    · simp (config := { maxSteps := 2000000 }) only [go_sem, simprocAttr, Try.f10, Int.ofNat_zero, Int.natCast_zero] at hx1
      simp (config := { maxSteps := 2000000 }) only [go_sem, simprocAttr, Try.f10]
      rw [exec_loop]
      simp (config := { maxSteps := 2000000 }) only [go_sem, simprocAttr, hd, i0, Int.toNat_natCast, hm1, hbl, hlen, List.length_map, hbC]
      rw [hx1]
      simp (config := { maxSteps := 2000000 }) only [go_sem, simprocAttr]
      exact .inl ⟨H2, frP (by kernel_rfl)⟩
    · have hyl : ys.length = C := by rw [har.1, hbC]
      have hA3 := hA2.lay hC1 hl2 hy2 hyl (.cells 0 1 false [.ref (7 + 2 * cells.length) C 0 C false])
      have h6 : ∀ b, (H2 ++ [b])[6]? = some (.cells 0 3 false [.agg [.ref 3 0 0 0 false, .ref 4 0 0 0 false, .ref 5 cells.length 0 cells.length false]]) := fun b => by
        rw [List.getElem?_append_left (by omega)]; exact hA2.box
      have h6' : ∀ b b', ((H2 ++ [b]).set 5 b')[6]? = some (.cells 0 3 false [.agg [.ref 3 0 0 0 false, .ref 4 0 0 0 false, .ref 5 cells.length 0 cells.length false]]) := fun b b' => by
        rw [List.getElem?_set_ne (by decide)]; exact h6 b
      have h6'' : H2[6]? = some (.cells 0 3 false [.agg [.ref 3 0 0 0 false, .ref 4 0 0 0 false, .ref 5 cells.length 0 cells.length false]]) := hA2.box
      have hg2 := fun b : Blk => get_snoc hl2 b
      have hl3 := fun b : Blk => len_snoc hl2 b
      have ap := append_rw (H := H2 ++ [.cells 0 1 false [.ref (7 + 2 * cells.length) C 0 C false]]) (q := 5) (w := 7 + 2 * cells.length + 1) (n := cells.length) (es := vecA cells.length fun i => .ref (7 + 2 * i) C 0 C false) (r := .ref (7 + 2 * cells.length) C 0 C false)
        (by rw [List.getElem?_append_left (by omega)]; exact hA2.acc) (vecA_length _ _) (hg2 _) rfl rfl (by omega) (7 + 2 * cells.length + 1 + 1)
      have z5 : (5 < 7 + 2 * cells.length + 1 + 1) = True := eq_true (by omega)
      have z6 : (6 < 7 + 2 * cells.length + 1 + 1) = True := eq_true (by omega)
      have hok' : RowsOk M (cells ++ [ys]) := fun j b' ys' h1 h2 => by
        by_cases e : j < cells.length
        · rw [List.getElem?_append_left e] at h2
          exact hok j b' ys' h1 h2
        · have hj : j < (cells ++ [ys]).length := (List.getElem?_eq_some_iff.1 h2).1
          rw [List.length_append] at hj
          simp at hj
          obtain rfl : j = cells.length := by omega
          rw [List.getElem?_append_right (Nat.le_refl _), Nat.sub_self] at h2
          cases h2
          rw [hb] at h1
          cases h1
          exact ⟨har, hsm⟩
      have hl4 : (((H2 ++ [Blk.cells 0 1 false [AVal.ref (7 + 2 * cells.length) C 0 C false]]).set 5 (accF (vecA cells.length (fun i => AVal.ref (7 + 2 * i) C 0 C false) ++ [AVal.ref (7 + 2 * cells.length) C 0 C false]))).set 6 (Blk.cells 0 3 false [AVal.agg [.ref 3 0 0 0 false, .ref 4 0 0 0 false, .ref 5 (cells.length + 1) 0 (cells.length + 1) false]])).length = 7 + 2 * (cells.length + 1) := by
        rw [List.length_set, List.length_set, hl3]; omega
      have hcc : C * cells.length + C = C * (cells.length + 1) := by rw [Nat.mul_succ]
      rw [hcc] at hA3
      have hne' : vecA cells.length (fun i => AVal.ref (7 + 2 * i) C 0 C false) ++ [AVal.ref (7 + 2 * cells.length) C 0 C false] ≠ [] := by simp
      have h5 : (((H2 ++ [Blk.cells 0 1 false [AVal.ref (7 + 2 * cells.length) C 0 C false]]).set 5 (accF (vecA cells.length (fun i => AVal.ref (7 + 2 * i) C 0 C false) ++ [AVal.ref (7 + 2 * cells.length) C 0 C false]))).set 6 (Blk.cells 0 3 false [AVal.agg [.ref 3 0 0 0 false, .ref 4 0 0 0 false, .ref 5 (cells.length + 1) 0 (cells.length + 1) false]]))[5]? = some (.cells (vecA cells.length (fun i => AVal.ref (7 + 2 * i) C 0 C false) ++ [AVal.ref (7 + 2 * cells.length) C 0 C false]).length 1 false (vecA cells.length (fun i => AVal.ref (7 + 2 * i) C 0 C false) ++ [AVal.ref (7 + 2 * cells.length) C 0 C false])) := by
        rw [List.getElem?_set_ne (by decide), List.getElem?_set_self (by rw [hl3]; omega), accF, if_neg hne']
      have htr := fun Tm => trunc_keep (m := 7 + 2 * cells.length) (T := Tm) (df := []) (ro := 0) (V := [18, 21, 129]) (i := 5) (by omega) h5 (List.mem_append_right _ (List.mem_singleton.2 rfl)) (Nat.le_refl _)
      have ih' := ih (cells.length + 1)
      simp (config := { maxSteps := 2000000 }) only [go_sem, simprocAttr, Try.f10, Int.ofNat_zero, Int.natCast_zero] at hx1
      simp (config := { maxSteps := 2000000 }) only [go_sem, simprocAttr, Try.f10] at ih' ⊢
      rw [exec_loop]
      simp (config := { maxSteps := 2000000 }) only [go_sem, simprocAttr, hd, i0, Int.toNat_natCast, hm1, hbl, hlen, List.length_map, hbC]
      rw [hx1]
      simp (config := { maxSteps := 2000000 }) only [go_sem, simprocAttr, h6, h6', h6'', hl2, hl3, ap, z5, z6, htr, List.length_set, wrap_succ (show cells.length < 2 ^ 63 - 1 by omega)]
      exact ih' _ _ _ _ _ _ _ _ _ _ _ _ _ _ _ _ _ _ _ _ _ _ _ _ _ _ _ _ _ _ _ _ _ _ _ _ _ _ _ _ _ _ _ _ _ _ _ _ _ _ _ _ _ _ _ _ _ _ _ _ _ _ _ _ _ _ _ _ _ _ _ _ _ _ _ _ _ _ _ _ _ _ _ _ _ _ _ _ _ _ _ _ _ _ _ _ _ _ _ _ _ _ _ _ _ _ _ _ _ _ _ _ _ _ _ _ _ _ _ _ _ _ _ _ _ _ _ _ _ _ _ _ _ _ _ _ _ _ _ _ _ _ _ _ _ _ _ _ _ _ _ _ _ _ _ _ _ _ _ _ _ _ _ _ _ _ _ _ _ _ _ _ _ _ _ _ _ _ _ _ _ _ _ _ _ _ _ _ _ _ _ _ _ _ _ _ _ _ _ _ _ _ _ _ _ _ _ _ _ _ _ _ _ _ _ _ _ _ _ _ _ _ _ _ _ _ _ _ _ _ _ _ _ _ _ _ _ _ _ _ _ _ _ _ _ _ _ _ _ _ _ _ _ _ _ _ _ _ _ _ _ _ _ _ _ _ _ _ (by omega) (by simp) hA3 hl4 hok'

set_option maxRecDepth 10000
set_option maxHeartbeats 4000000

theorem hd_off {v0 v2 v3 v11 v12 : AVal} {cl : Bool} {off : List Int} (hol : off.length < 2 ^ 63) (H : Heap) : ∀ (n i : Nat) (j1 j4 j5 j7 j8 j10 j13 j14 j15 j16 j17 j18 j19 j20 j21 j22 j23 j24 j25 j26 j27 j28 j29 j30 j31 j32 j33 j34 j35 j36 j37 j38 j39 j40 j41 j42 j43 j44 j45 j46 j47 j48 j49 j50 j51 j52 j53 j54 j55 j56 j57 j58 j59 j60 j61 j62 j63 j64 j65 j66 j67 j68 j69 j70 j71 j72 j73 j74 j75 j76 j77 j78 j79 j80 j81 j82 j83 j84 j85 j86 j90 j91 j92 j93 j94 j95 j96 j97 j98 j99 j100 j101 j102 j103 j104 j105 j106 j107 j108 j109 j110 j111 j112 j113 j114 j115 j116 j117 j118 j119 j120 j121 j122 j123 j124 j125 j126 j127 j128 j129 j130 j131 j132 j133 j134 j135 j136 j137 j138 j139 j140 j141 j142 j143 j144 j145 j146 j147 j148 j149 j150 j151 j152 j153 j154 j155 j156 j157 j158 j159 j160 j161 j162 j163 j164 j165 j166 j167 j168 j169 j170 j171 j172 j173 j174 j175 j176 j177 j178 j179 j180 j181 j182 j183 j184 j185 j186 j187 j188 j189 j190 j191 j192 j193 j194 j195 j196 j197 j198 j199 j200 j201 j202 j203 j204 j205 j206 j207 j208 j209 j210 j211 j212 j213 j214 j215 j216 j217 j218 j219 j220 j221 j222 j223 j224 j225 j226 j227 j228 j229 j230 j231 j232 j233 j234 j235 j236 j237 j238 j239 j240 j241 j242 j243 j244 j245 j246 j247 j248 j249 j250 j251 j252 j253 j254 j255 j256 j257 j258 j259 j260 j261 j262 j263 j264 j265 j266 j267 j268 j269 j270 j271 j272 j273 j274 j275 j276 j277 : AVal), i + n = off.length → (∀ x ∈ off.take i, 0 ≤ x ∧ x ≤ 1000) →
    Goes (execT env (Try.f10.at [1, 1, 1, 1, 0, 1, 0]) ⟨[v0, j1, v2, v3, j4, j5, .ptr 0 0 0 0, j7, j8, .ptr 1 0 0 0, j10, v11, v12, j13, j14, j15, j16, j17, j18, j19, j20, j21, j22, j23, j24, j25, j26, j27, j28, j29, j30, j31, j32, j33, j34, j35, j36, j37, j38, j39, j40, j41, j42, j43, j44, j45, j46, j47, j48, j49, j50, j51, j52, j53, j54, j55, j56, j57, j58, j59, j60, j61, j62, j63, j64, j65, j66, j67, j68, j69, j70, j71, j72, j73, j74, j75, j76, j77, j78, j79, j80, j81, j82, j83, j84, j85, j86, .lit cl 1 (off.map (AVal.int .i64)), .int .i64 off.length, .int .i64 i, j90, j91, j92, j93, j94, j95, j96, j97, j98, j99, j100, j101, j102, j103, j104, j105, j106, j107, j108, j109, j110, j111, j112, j113, j114, j115, j116, j117, j118, j119, j120, j121, j122, j123, j124, j125, j126, j127, j128, j129, j130, j131, j132, j133, j134, j135, j136, j137, j138, j139, j140, j141, j142, j143, j144, j145, j146, j147, j148, j149, j150, j151, j152, j153, j154, j155, j156, j157, j158, j159, j160, j161, j162, j163, j164, j165, j166, j167, j168, j169, j170, j171, j172, j173, j174, j175, j176, j177, j178, j179, j180, j181, j182, j183, j184, j185, j186, j187, j188, j189, j190, j191, j192, j193, j194, j195, j196, j197, j198, j199, j200, j201, j202, j203, j204, j205, j206, j207, j208, j209, j210, j211, j212, j213, j214, j215, j216, j217, j218, j219, j220, j221, j222, j223, j224, j225, j226, j227, j228, j229, j230, j231, j232, j233, j234, j235, j236, j237, j238, j239, j240, j241, j242, j243, j244, j245, j246, j247, j248, j249, j250, j251, j252, j253, j254, j255, j256, j257, j258, j259, j260, j261, j262, j263, j264, j265, j266, j267, j268, j269, j270, j271, j272, j273, j274, j275, j276, j277], H, [], 0, [18, 21, 129]⟩) fun ex st =>
      (ex = .ret ∧ FrP 278 [(10, .bool true)] H [] 0 [18, 21, 129] st) ∨
      (ex = .exit 0 ∧ (∀ x ∈ off, 0 ≤ x ∧ x ≤ 1000) ∧ FrP 278 [(0, v0), (2, v2), (3, v3), (6, .ptr 0 0 0 0), (9, .ptr 1 0 0 0), (11, v11), (12, v12)] H [] 0 [18, 21, 129] st) := by
  intro n
  induction n with
  | zero =>
    intro i; intros; rename_i hi hok
    have hd : decide ((i : Int) < (off.length : Int)) = false := by simp; omega
    rw [show i = off.length by omega, List.take_length] at hok
    simp (config := { maxSteps := 2000000 }) only [go_sem, simprocAttr, Try.f10]
    rw [exec_loop]
    simp (config := { maxSteps := 2000000 }) only [go_sem, simprocAttr, hd]
    exact .inr ⟨hok, frP (by kernel_rfl)⟩
  | succ n ih =>
    intro i; intros; rename_i hi hok
    have hd : decide ((i : Int) < (off.length : Int)) = true := by simp; omega
    have i0 : (0 : Int) ≤ (i : Int) := by omega
    obtain ⟨m, hm⟩ : ∃ m, off[i]? = some m := ⟨off[i], List.getElem?_eq_getElem (by omega)⟩
    have hmm : (off.map (AVal.int .i64))[i]? = some (.int .i64 m) := by rw [List.getElem?_map, hm]; rfl
    cases d1 : decide (m < 0) with
    | true =>
      simp (config := { maxSteps := 2000000 }) only [go_sem, simprocAttr, Try.f10]
      rw [exec_loop]
      simp (config := { maxSteps := 2000000 }) only [go_sem, simprocAttr, hd, i0, Int.toNat_natCast, hmm, d1]
      exact .inl (frP (by kernel_rfl))
    | false =>
    cases d2 : decide (1000 < m) with
    | true =>
      simp (config := { maxSteps := 2000000 }) only [go_sem, simprocAttr, Try.f10]
      rw [exec_loop]
      simp (config := { maxSteps := 2000000 }) only [go_sem, simprocAttr, hd, i0, Int.toNat_natCast, hmm, d1, d2]
      exact .inl (frP (by kernel_rfl))
    | false =>
      have m0 := of_decide_eq_false d1
      have m1 := of_decide_eq_false d2
      have hok' : ∀ x ∈ off.take (i + 1), 0 ≤ x ∧ x ≤ 1000 := fun x hx => by
        rw [List.take_add_one, hm, List.mem_append] at hx
        rcases hx with hx | hx
        · exact hok x hx
        · simp at hx; subst hx; omega
      have ih' := ih (i + 1)
      simp (config := { maxSteps := 2000000 }) only [go_sem, simprocAttr, Try.f10] at ih' ⊢
      rw [exec_loop]
      simp (config := { maxSteps := 2000000 }) only [go_sem, simprocAttr, hd, i0, Int.toNat_natCast, hmm, d1, d2, Nat.le_refl, wrap_succ (show i < 2 ^ 63 - 1 by omega)]
      exact ih' _ _ _ _ _ _ _ _ _ _ _ _ _ _ _ _ _ _ _ _ _ _ _ _ _ _ _ _ _ _ _ _ _ _ _ _ _ _ _ _ _ _ _ _ _ _ _ _ _ _ _ _ _ _ _ _ _ _ _ _ _ _ _ _ _ _ _ _ _ _ _ _ _ _ _ _ _ _ _ _ _ _ _ _ _ _ _ _ _ _ _ _ _ _ _ _ _ _ _ _ _ _ _ _ _ _ _ _ _ _ _ _ _ _ _ _ _ _ _ _ _ _ _ _ _ _ _ _ _ _ _ _ _ _ _ _ _ _ _ _ _ _ _ _ _ _ _ _ _ _ _ _ _ _ _ _ _ _ _ _ _ _ _ _ _ _ _ _ _ _ _ _ _ _ _ _ _ _ _ _ _ _ _ _ _ _ _ _ _ _ _ _ _ _ _ _ _ _ _ _ _ _ _ _ _ _ _ _ _ _ _ _ _ _ _ _ _ _ _ _ _ _ _ _ _ _ _ _ _ _ _ _ _ _ _ _ _ _ _ _ _ _ _ _ _ _ _ _ _ _ _ _ _ _ _ _ _ _ _ _ _ _ _ _ _ _ _ _ (by omega) hok'

theorem Hd.lens {ob cb : Blk} {H : Heap} {cnt : Nat} {rs cs : List Spn} {cells : List (List Spn)} {C : Nat} (h : Hd ob cb H cnt rs cs cells C) : 6 < H.length := (List.getElem?_eq_some_iff.1 h.box).1

theorem Hd.addRow {ob cb : Blk} {H : Heap} {cnt : Nat} {rs cs : List Spn} {cells : List (List Spn)} {C : Nat} (h : Hd ob cb H cnt rs cs cells C) (y : Spn) :
    Hd ob cb ((H.set 3 (accN (rs.map spV ++ [spV y]))).set 6 (.cells 0 3 false [.agg [.ref 3 (rs.length + 1) 0 (rs.length + 1) false, .ref 4 cs.length 0 cs.length false, .ref 5 cells.length 0 cells.length false]])) cnt (rs ++ [y]) cs cells C := by
  have hl := h.lens
  have ne : ∀ (N A : Blk) (j : Nat), j ≠ 3 → j ≠ 6 → ((H.set 3 N).set 6 A)[j]? = H[j]? := fun N A j a b => by
    rw [List.getElem?_set_ne (Ne.symm b), List.getElem?_set_ne (Ne.symm a)]
  refine ⟨?_, ?_, ?_, ?_, ?_, ?_, ?_, fun i l hi => ?_⟩
  · rw [ne _ _ _ (by decide) (by decide)]; exact h.off
  · rw [ne _ _ _ (by decide) (by decide)]; exact h.cut
  · rw [ne _ _ _ (by decide) (by decide)]; exact h.at_
  · rw [List.getElem?_set_ne (by decide), List.getElem?_set_self (by omega), List.map_append]; rfl
  · rw [ne _ _ _ (by decide) (by decide)]; exact h.cols
  · rw [ne _ _ _ (by decide) (by decide)]; exact h.acc
  · rw [List.getElem?_set_self (by rw [List.length_set]; omega), List.length_append]; rfl
  · rw [ne _ _ _ (by omega) (by omega)]; exact h.row i l hi
theorem Hd.addCol {ob cb : Blk} {H : Heap} {cnt : Nat} {rs cs : List Spn} {cells : List (List Spn)} {C : Nat} (h : Hd ob cb H cnt rs cs cells C) (y : Spn) :
    Hd ob cb ((H.set 4 (accN (cs.map spV ++ [spV y]))).set 6 (.cells 0 3 false [.agg [.ref 3 rs.length 0 rs.length false, .ref 4 (cs.length + 1) 0 (cs.length + 1) false, .ref 5 cells.length 0 cells.length false]])) cnt rs (cs ++ [y]) cells C := by
  have hl := h.lens
  have ne : ∀ (N A : Blk) (j : Nat), j ≠ 4 → j ≠ 6 → ((H.set 4 N).set 6 A)[j]? = H[j]? := fun N A j a b => by
    rw [List.getElem?_set_ne (Ne.symm b), List.getElem?_set_ne (Ne.symm a)]
  refine ⟨?_, ?_, ?_, ?_, ?_, ?_, ?_, fun i l hi => ?_⟩
  · rw [ne _ _ _ (by decide) (by decide)]; exact h.off
  · rw [ne _ _ _ (by decide) (by decide)]; exact h.cut
  · rw [ne _ _ _ (by decide) (by decide)]; exact h.at_
  · rw [ne _ _ _ (by decide) (by decide)]; exact h.rows
  · rw [List.getElem?_set_ne (by decide), List.getElem?_set_self (by omega), List.map_append]; rfl
  · rw [ne _ _ _ (by decide) (by decide)]; exact h.acc
  · rw [List.getElem?_set_self (by rw [List.length_set]; omega), List.length_append]; rfl
  · rw [ne _ _ _ (by omega) (by omega)]; exact h.row i l hi

theorem looks_hd {cl : Bool} {sz : Nat} {off : List Int} {n : Int} {H : Heap} (h0 : H[0]? = some (offB cl sz off)) (h2 : H[2]? = some (intB n)) : looks H fuel0 [0, 2] [] = some [0, 2] := by
  have hrf : (AVal.lit cl sz (off.map (AVal.int .i64))).refs = [] := refs_noRef.1 _ rfl
  have h0' : H[0]? = some (.cells 0 1 false [.lit cl sz (off.map (AVal.int .i64))]) := h0
  have h2' : H[2]? = some (.cells 0 1 true [.int .i64 n]) := h2
  unfold fuel0
  simp [looks, h0', h2', refsL, hrf]

theorem hd_rows {cl : Bool} {sz : Nat} {off : List Int} (hsz : off = [] ∨ sz = 1) (hne : off ≠ []) (hol : off.length < 2 ^ 63) (hob : ∀ x ∈ off, 0 ≤ x ∧ x ≤ 1000) (cb : Blk) {v0 v2 v3 v11 v12 : AVal} {c2 : Bool} {l : List Int} (hl : l.length ≤ 8) (hlb : ∀ x ∈ l, 0 ≤ x ∧ x ≤ 10 ^ 8) {cells : List (List Spn)} {C L : Nat} : ∀ (n i cnt : Nat) (H : Heap) (rs : List Spn) (j1 j4 j5 j6 j7 j8 j10 j13 j14 j15 j16 j19 j20 j21 j22 j23 j24 j25 j26 j27 j28 j29 j30 j31 j32 j33 j34 j35 j36 j37 j38 j39 j40 j41 j42 j43 j44 j45 j46 j47 j48 j49 j50 j51 j52 j53 j54 j55 j56 j57 j58 j59 j60 j61 j62 j63 j64 j65 j66 j67 j68 j69 j70 j71 j72 j73 j74 j75 j76 j77 j78 j79 j80 j81 j82 j83 j84 j85 j86 j87 j88 j89 j90 j91 j92 j93 j94 j95 j96 j97 j98 j99 j100 j101 j102 j103 j104 j105 j106 j107 j108 j109 j110 j111 j112 j113 j114 j115 j116 j117 j118 j119 j120 j121 j122 j123 j124 j125 j126 j127 j128 j129 j130 j131 j132 j133 j134 j135 j136 j137 j138 j139 j140 j141 j142 j143 j144 j145 j146 j150 j151 j152 j153 j154 j155 j156 j157 j158 j159 j160 j161 j162 j163 j164 j165 j166 j167 j168 j169 j170 j171 j172 j173 j174 j175 j176 j177 j178 j179 j180 j181 j182 j183 j184 j185 j186 j187 j188 j189 j190 j191 j192 j193 j194 j195 j196 j197 j198 j199 j200 j201 j202 j203 j204 j205 j206 j207 j208 j209 j210 j211 j212 j213 j214 j215 j216 j217 j218 j219 j220 j221 j222 j223 j224 j225 j226 j227 j228 j229 j230 j231 j232 j233 j234 j235 j236 j237 j238 j239 j240 j241 j242 j243 j244 j245 j246 j247 j248 j249 j250 j251 j252 j253 j254 j255 j256 j257 j258 j259 j260 j261 j262 j263 j264 j265 j266 j267 j268 j269 j270 j271 j272 j273 j274 j275 j276 j277 : AVal), i + n = l.length → cnt + n ≤ 64 → rs.length = i →
    Hd (offB cl sz off) cb H cnt rs [] cells C → H.length = L → Arounds (l.take i) rs →
    Goes (execT env (Try.f10.at [1, 1, 1, 1, 1, 1, 1, 1, 1, 1, 0, 1, 0]) ⟨[v0, j1, v2, v3, j4, j5, j6, j7, j8, .ptr 1 0 0 0, j10, v11, v12, j13, j14, j15, j16, .func 50 [] [.ptr 0 0 0 0, .ptr 2 0 0 0], .ptr 6 0 0 0, j19, j20, j21, j22, j23, j24, j25, j26, j27, j28, j29, j30, j31, j32, j33, j34, j35, j36, j37, j38, j39, j40, j41, j42, j43, j44, j45, j46, j47, j48, j49, j50, j51, j52, j53, j54, j55, j56, j57, j58, j59, j60, j61, j62, j63, j64, j65, j66, j67, j68, j69, j70, j71, j72, j73, j74, j75, j76, j77, j78, j79, j80, j81, j82, j83, j84, j85, j86, j87, j88, j89, j90, j91, j92, j93, j94, j95, j96, j97, j98, j99, j100, j101, j102, j103, j104, j105, j106, j107, j108, j109, j110, j111, j112, j113, j114, j115, j116, j117, j118, j119, j120, j121, j122, j123, j124, j125, j126, j127, j128, j129, j130, j131, j132, j133, j134, j135, j136, j137, j138, j139, j140, j141, j142, j143, j144, j145, j146, .lit c2 1 (l.map (AVal.int .i64)), .int .i64 l.length, .int .i64 i, j150, j151, j152, j153, j154, j155, j156, j157, j158, j159, j160, j161, j162, j163, j164, j165, j166, j167, j168, j169, j170, j171, j172, j173, j174, j175, j176, j177, j178, j179, j180, j181, j182, j183, j184, j185, j186, j187, j188, j189, j190, j191, j192, j193, j194, j195, j196, j197, j198, j199, j200, j201, j202, j203, j204, j205, j206, j207, j208, j209, j210, j211, j212, j213, j214, j215, j216, j217, j218, j219, j220, j221, j222, j223, j224, j225, j226, j227, j228, j229, j230, j231, j232, j233, j234, j235, j236, j237, j238, j239, j240, j241, j242, j243, j244, j245, j246, j247, j248, j249, j250, j251, j252, j253, j254, j255, j256, j257, j258, j259, j260, j261, j262, j263, j264, j265, j266, j267, j268, j269, j270, j271, j272, j273, j274, j275, j276, j277], H, [], 0, [18, 21, 129]⟩) fun ex st =>
      ex = .exit 6 ∧ ∃ (H : Heap) (rs : List Spn), (Hd (offB cl sz off) cb H (cnt + n) rs [] cells C ∧ H.length = L ∧ Arounds l rs) ∧ FrP 278 [(0, v0), (2, v2), (3, v3), (9, .ptr 1 0 0 0), (11, v11), (12, v12), (17, .func 50 [] [.ptr 0 0 0 0, .ptr 2 0 0 0]), (18, .ptr 6 0 0 0)] H [] 0 [18, 21, 129] st := by
  intro n
  induction n with
  | zero =>
    intro i cnt H rs; intros; rename_i hi hcn hrl hA hlen hys
    have hd : decide ((i : Int) < (l.length : Int)) = false := by simp; omega
    rw [show i = l.length by omega, List.take_length] at hys
    simp (config := { maxSteps := 2000000 }) only [go_sem, simprocAttr, Try.f10]
    rw [exec_loop]
    simp (config := { maxSteps := 2000000 }) only [go_sem, simprocAttr, hd]
    exact ⟨H, rs, ⟨hA, hlen, hys⟩, frP (by kernel_rfl)⟩
  | succ n ih =>
    intro i cnt H rs; intros; rename_i hi hcn hrl hA hlen hys
    subst hrl
    have hd : decide ((rs.length : Int) < (l.length : Int)) = true := by simp; omega
    have i0 : (0 : Int) ≤ (rs.length : Int) := by omega
    obtain ⟨m, hm⟩ : ∃ m, l[rs.length]? = some m := ⟨l[rs.length], List.getElem?_eq_getElem (by omega)⟩
    have hmm : (l.map (AVal.int .i64))[rs.length]? = some (.int .i64 m) := by rw [List.getElem?_map, hm]; rfl
    obtain ⟨m0, m1⟩ := hlb m (List.mem_of_getElem? hm)
    obtain ⟨y, hay, ac⟩ := around_call hsz hne hol hob m0 m1 (c := cnt) (by omega)
    have ac := ac hA.off hA.at_
    have lk := looks_hd hA.off hA.at_
    have h6l := hA.lens
    have hA1 := hA.tick
    have hA2 := hA1.addRow y
    have hB : H[6]? = some (.cells 0 3 false [.agg [.ref 3 rs.length 0 rs.length false, .ref 4 0 0 0 false, .ref 5 cells.length 0 cells.length false]]) := hA.box
    have hB1 : ((H.set 0 (offB cl sz off)).set 2 (intB (2 * (cnt + 1 : Nat))))[6]? = some (.cells 0 3 false [.agg [.ref 3 rs.length 0 rs.length false, .ref 4 0 0 0 false, .ref 5 cells.length 0 cells.length false]]) := hA1.box
    have hB2 : ∀ b, (((H.set 0 (offB cl sz off)).set 2 (intB (2 * (cnt + 1 : Nat)))).set 3 b)[6]? = some (.cells 0 3 false [.agg [.ref 3 rs.length 0 rs.length false, .ref 4 0 0 0 false, .ref 5 cells.length 0 cells.length false]]) := fun b => by
      rw [List.getElem?_set_ne (by decide)]; exact hB1
    have ap := append_span (x := y) hA1.rows (by rw [List.length_map]) (show rs.length < 2 ^ 30 by omega) H.length (ro := 0) (Nat.zero_le _)
    have hl2 : ((((H.set 0 (offB cl sz off)).set 2 (intB (2 * (cnt + 1 : Nat)))).set 3 (accN (rs.map spV ++ [spV y]))).set 6 (.cells 0 3 false [.agg [.ref 3 (rs.length + 1) 0 (rs.length + 1) false, .ref 4 0 0 0 false, .ref 5 cells.length 0 cells.length false]])).length = L := by
      rw [List.length_set, List.length_set, List.length_set, List.length_set]; exact hlen
    have z0 : (0 < H.length) = True := eq_true (by omega)
    have z2 : (2 < H.length) = True := eq_true (by omega)
    have z3 : (3 < H.length) = True := eq_true (by omega)
    have z6 : (6 < H.length) = True := eq_true (by omega)
    have y0 : decide (0 < H.length) = true := decide_eq_true (by omega)
    have y2 : decide (2 < H.length) = true := decide_eq_true (by omega)
    have y3 : decide (3 < H.length) = true := decide_eq_true (by omega)
    have y6 : decide (6 < H.length) = true := decide_eq_true (by omega)
    have t1 := hys.push hm hay
    have ih' := ih (rs.length + 1) (cnt + 1)
    rw [show cnt + 1 + n = cnt + (n + 1) by omega] at ih'
    simp (config := { maxSteps := 2000000 }) only [go_sem, simprocAttr, Try.f10, offB, intB] at ih' hA2 hl2 ap ac hB1 hB2 ⊢
    rw [exec_loop]
    simp (config := { maxSteps := 2000000 }) only [go_sem, simprocAttr, hd, i0, Int.toNat_natCast, hmm, hB, hB1, hB2, ac, lk, ap, z0, z2, z3, z6, y0, y2, y3, y6, List.length_set]
    rw [apart_ok]
    · simp (config := { maxSteps := 2000000 }) only [go_sem, simprocAttr, List.length_set, Nat.le_refl, wrap_succ (show rs.length < 2 ^ 63 - 1 by omega)]
      exact ih' _ (rs ++ [y]) _ _ _ _ _ _ _ _ _ _ _ _ _ _ _ _ _ _ _ _ _ _ _ _ _ _ _ _ _ _ _ _ _ _ _ _ _ _ _ _ _ _ _ _ _ _ _ _ _ _ _ _ _ _ _ _ _ _ _ _ _ _ _ _ _ _ _ _ _ _ _ _ _ _ _ _ _ _ _ _ _ _ _ _ _ _ _ _ _ _ _ _ _ _ _ _ _ _ _ _ _ _ _ _ _ _ _ _ _ _ _ _ _ _ _ _ _ _ _ _ _ _ _ _ _ _ _ _ _ _ _ _ _ _ _ _ _ _ _ _ _ _ _ _ _ _ _ _ _ _ _ _ _ _ _ _ _ _ _ _ _ _ _ _ _ _ _ _ _ _ _ _ _ _ _ _ _ _ _ _ _ _ _ _ _ _ _ _ _ _ _ _ _ _ _ _ _ _ _ _ _ _ _ _ _ _ _ _ _ _ _ _ _ _ _ _ _ _ _ _ _ _ _ _ _ _ _ _ _ _ _ _ _ _ _ _ _ _ _ _ _ _ _ _ _ _ _ _ _ _ _ _ _ _ _ _ _ _ _ _ _ _ _ _ _ _ _ (by omega) (by omega) (by simp) hA2 hl2 t1
    · kernel_rfl
theorem hd_cols {cl : Bool} {sz : Nat} {off : List Int} (hsz : off = [] ∨ sz = 1) (hne : off ≠ []) (hol : off.length < 2 ^ 63) (hob : ∀ x ∈ off, 0 ≤ x ∧ x ≤ 1000) (cb : Blk) {v0 v2 v3 v11 v12 : AVal} {c2 : Bool} {l : List Int} (hl : l.length ≤ 8) (hlb : ∀ x ∈ l, 0 ≤ x ∧ x ≤ 10 ^ 8) {r0 : List Spn} {cells : List (List Spn)} {C L : Nat} : ∀ (n i cnt : Nat) (H : Heap) (rs : List Spn) (j1 j4 j5 j6 j7 j8 j10 j13 j14 j15 j16 j19 j20 j21 j22 j23 j24 j25 j26 j27 j28 j29 j30 j31 j32 j33 j34 j35 j36 j37 j38 j39 j40 j41 j42 j43 j44 j45 j46 j47 j48 j49 j50 j51 j52 j53 j54 j55 j56 j57 j58 j59 j60 j61 j62 j63 j64 j65 j66 j67 j68 j69 j70 j71 j72 j73 j74 j75 j76 j77 j78 j79 j80 j81 j82 j83 j84 j85 j86 j87 j88 j89 j90 j91 j92 j93 j94 j95 j96 j97 j98 j99 j100 j101 j102 j103 j104 j105 j106 j107 j108 j109 j110 j111 j112 j113 j114 j115 j116 j117 j118 j119 j120 j121 j122 j123 j124 j125 j126 j127 j128 j129 j130 j131 j132 j133 j134 j135 j136 j137 j138 j139 j140 j141 j142 j143 j144 j145 j146 j147 j148 j149 j150 j151 j152 j153 j154 j155 j156 j157 j158 j159 j160 j161 j165 j166 j167 j168 j169 j170 j171 j172 j173 j174 j175 j176 j177 j178 j179 j180 j181 j182 j183 j184 j185 j186 j187 j188 j189 j190 j191 j192 j193 j194 j195 j196 j197 j198 j199 j200 j201 j202 j203 j204 j205 j206 j207 j208 j209 j210 j211 j212 j213 j214 j215 j216 j217 j218 j219 j220 j221 j222 j223 j224 j225 j226 j227 j228 j229 j230 j231 j232 j233 j234 j235 j236 j237 j238 j239 j240 j241 j242 j243 j244 j245 j246 j247 j248 j249 j250 j251 j252 j253 j254 j255 j256 j257 j258 j259 j260 j261 j262 j263 j264 j265 j266 j267 j268 j269 j270 j271 j272 j273 j274 j275 j276 j277 : AVal), i + n = l.length → cnt + n ≤ 64 → rs.length = i →
    Hd (offB cl sz off) cb H cnt r0 rs cells C → H.length = L → Arounds (l.take i) rs →
    Goes (execT env (Try.f10.at [1, 1, 1, 1, 1, 1, 1, 1, 1, 1, 1, 0, 1, 0]) ⟨[v0, j1, v2, v3, j4, j5, j6, j7, j8, .ptr 1 0 0 0, j10, v11, v12, j13, j14, j15, j16, .func 50 [] [.ptr 0 0 0 0, .ptr 2 0 0 0], .ptr 6 0 0 0, j19, j20, j21, j22, j23, j24, j25, j26, j27, j28, j29, j30, j31, j32, j33, j34, j35, j36, j37, j38, j39, j40, j41, j42, j43, j44, j45, j46, j47, j48, j49, j50, j51, j52, j53, j54, j55, j56, j57, j58, j59, j60, j61, j62, j63, j64, j65, j66, j67, j68, j69, j70, j71, j72, j73, j74, j75, j76, j77, j78, j79, j80, j81, j82, j83, j84, j85, j86, j87, j88, j89, j90, j91, j92, j93, j94, j95, j96, j97, j98, j99, j100, j101, j102, j103, j104, j105, j106, j107, j108, j109, j110, j111, j112, j113, j114, j115, j116, j117, j118, j119, j120, j121, j122, j123, j124, j125, j126, j127, j128, j129, j130, j131, j132, j133, j134, j135, j136, j137, j138, j139, j140, j141, j142, j143, j144, j145, j146, j147, j148, j149, j150, j151, j152, j153, j154, j155, j156, j157, j158, j159, j160, j161, .lit c2 1 (l.map (AVal.int .i64)), .int .i64 l.length, .int .i64 i, j165, j166, j167, j168, j169, j170, j171, j172, j173, j174, j175, j176, j177, j178, j179, j180, j181, j182, j183, j184, j185, j186, j187, j188, j189, j190, j191, j192, j193, j194, j195, j196, j197, j198, j199, j200, j201, j202, j203, j204, j205, j206, j207, j208, j209, j210, j211, j212, j213, j214, j215, j216, j217, j218, j219, j220, j221, j222, j223, j224, j225, j226, j227, j228, j229, j230, j231, j232, j233, j234, j235, j236, j237, j238, j239, j240, j241, j242, j243, j244, j245, j246, j247, j248, j249, j250, j251, j252, j253, j254, j255, j256, j257, j258, j259, j260, j261, j262, j263, j264, j265, j266, j267, j268, j269, j270, j271, j272, j273, j274, j275, j276, j277], H, [], 0, [18, 21, 129]⟩) fun ex st =>
      ex = .exit 8 ∧ ∃ (H : Heap) (rs : List Spn), (Hd (offB cl sz off) cb H (cnt + n) r0 rs cells C ∧ H.length = L ∧ Arounds l rs) ∧ FrP 278 [(0, v0), (2, v2), (3, v3), (9, .ptr 1 0 0 0), (11, v11), (12, v12), (17, .func 50 [] [.ptr 0 0 0 0, .ptr 2 0 0 0]), (18, .ptr 6 0 0 0)] H [] 0 [18, 21, 129] st := by
  intro n
  induction n with
  | zero =>
    intro i cnt H rs; intros; rename_i hi hcn hrl hA hlen hys
    have hd : decide ((i : Int) < (l.length : Int)) = false := by simp; omega
    rw [show i = l.length by omega, List.take_length] at hys
    simp (config := { maxSteps := 2000000 }) only [go_sem, simprocAttr, Try.f10]
    rw [exec_loop]
    simp (config := { maxSteps := 2000000 }) only [go_sem, simprocAttr, hd]
    exact ⟨H, rs, ⟨hA, hlen, hys⟩, frP (by kernel_rfl)⟩
  | succ n ih =>
    intro i cnt H rs; intros; rename_i hi hcn hrl hA hlen hys
    subst hrl
    have hd : decide ((rs.length : Int) < (l.length : Int)) = true := by simp; omega
    have i0 : (0 : Int) ≤ (rs.length : Int) := by omega
    obtain ⟨m, hm⟩ : ∃ m, l[rs.length]? = some m := ⟨l[rs.length], List.getElem?_eq_getElem (by omega)⟩
    have hmm : (l.map (AVal.int .i64))[rs.length]? = some (.int .i64 m) := by rw [List.getElem?_map, hm]; rfl
    obtain ⟨m0, m1⟩ := hlb m (List.mem_of_getElem? hm)
    obtain ⟨y, hay, ac⟩ := around_call hsz hne hol hob m0 m1 (c := cnt) (by omega)
    have ac := ac hA.off hA.at_
    have lk := looks_hd hA.off hA.at_
    have h6l := hA.lens
    have hA1 := hA.tick
    have hA2 := hA1.addCol y
    have hB : H[6]? = some (.cells 0 3 false [.agg [.ref 3 r0.length 0 r0.length false, .ref 4 rs.length 0 rs.length false, .ref 5 cells.length 0 cells.length false]]) := hA.box
    have hB1 : ((H.set 0 (offB cl sz off)).set 2 (intB (2 * (cnt + 1 : Nat))))[6]? = some (.cells 0 3 false [.agg [.ref 3 r0.length 0 r0.length false, .ref 4 rs.length 0 rs.length false, .ref 5 cells.length 0 cells.length false]]) := hA1.box
    have hB2 : ∀ b, (((H.set 0 (offB cl sz off)).set 2 (intB (2 * (cnt + 1 : Nat)))).set 4 b)[6]? = some (.cells 0 3 false [.agg [.ref 3 r0.length 0 r0.length false, .ref 4 rs.length 0 rs.length false, .ref 5 cells.length 0 cells.length false]]) := fun b => by
      rw [List.getElem?_set_ne (by decide)]; exact hB1
    have ap := append_span (x := y) hA1.cols (by rw [List.length_map]) (show rs.length < 2 ^ 30 by omega) H.length (ro := 0) (Nat.zero_le _)
    have hl2 : ((((H.set 0 (offB cl sz off)).set 2 (intB (2 * (cnt + 1 : Nat)))).set 4 (accN (rs.map spV ++ [spV y]))).set 6 (.cells 0 3 false [.agg [.ref 3 r0.length 0 r0.length false, .ref 4 (rs.length + 1) 0 (rs.length + 1) false, .ref 5 cells.length 0 cells.length false]])).length = L := by
      rw [List.length_set, List.length_set, List.length_set, List.length_set]; exact hlen
    have z0 : (0 < H.length) = True := eq_true (by omega)
    have z2 : (2 < H.length) = True := eq_true (by omega)
    have z3 : (4 < H.length) = True := eq_true (by omega)
    have z6 : (6 < H.length) = True := eq_true (by omega)
    have y0 : decide (0 < H.length) = true := decide_eq_true (by omega)
    have y2 : decide (2 < H.length) = true := decide_eq_true (by omega)
    have y3 : decide (4 < H.length) = true := decide_eq_true (by omega)
    have y6 : decide (6 < H.length) = true := decide_eq_true (by omega)
    have t1 := hys.push hm hay
    have ih' := ih (rs.length + 1) (cnt + 1)
    rw [show cnt + 1 + n = cnt + (n + 1) by omega] at ih'
    simp (config := { maxSteps := 2000000 }) only [go_sem, simprocAttr, Try.f10, offB, intB] at ih' hA2 hl2 ap ac hB1 hB2 ⊢
    rw [exec_loop]
    simp (config := { maxSteps := 2000000 }) only [go_sem, simprocAttr, hd, i0, Int.toNat_natCast, hmm, hB, hB1, hB2, ac, lk, ap, z0, z2, z3, z6, y0, y2, y3, y6, List.length_set]
    rw [apart_ok]
    · simp (config := { maxSteps := 2000000 }) only [go_sem, simprocAttr, List.length_set, Nat.le_refl, wrap_succ (show rs.length < 2 ^ 63 - 1 by omega)]
      exact ih' _ (rs ++ [y]) _ _ _ _ _ _ _ _ _ _ _ _ _ _ _ _ _ _ _ _ _ _ _ _ _ _ _ _ _ _ _ _ _ _ _ _ _ _ _ _ _ _ _ _ _ _ _ _ _ _ _ _ _ _ _ _ _ _ _ _ _ _ _ _ _ _ _ _ _ _ _ _ _ _ _ _ _ _ _ _ _ _ _ _ _ _ _ _ _ _ _ _ _ _ _ _ _ _ _ _ _ _ _ _ _ _ _ _ _ _ _ _ _ _ _ _ _ _ _ _ _ _ _ _ _ _ _ _ _ _ _ _ _ _ _ _ _ _ _ _ _ _ _ _ _ _ _ _ _ _ _ _ _ _ _ _ _ _ _ _ _ _ _ _ _ _ _ _ _ _ _ _ _ _ _ _ _ _ _ _ _ _ _ _ _ _ _ _ _ _ _ _ _ _ _ _ _ _ _ _ _ _ _ _ _ _ _ _ _ _ _ _ _ _ _ _ _ _ _ _ _ _ _ _ _ _ _ _ _ _ _ _ _ _ _ _ _ _ _ _ _ _ _ _ _ _ _ _ _ _ _ _ _ _ _ _ _ _ _ _ _ _ _ _ _ _ _ (by omega) (by omega) (by simp) hA2 hl2 t1
    · kernel_rfl

set_option maxRecDepth 10000
set_option maxHeartbeats 2000000

def shB (n : Int) : Bool := decide (0 ≤ n) && decide (n ≤ 2 ^ 30)

theorem notShare_call (n : Int) (ro : Nat) (H : Heap) (nx : Nat) : callT env 110 [.int .i64 n] ro H nx = some (.ret (.bool !shB n), .ups []) := by
  have : ∃ H', runT env 110 [.int .i64 n] [] 0 = some (.ret (.bool !shB n), H') := by
    have sc := share_call n
    rw [run_unfold fn110 rfl]
    unfold shB
    simp only [go_sem, simprocAttr, Try.f110, sc, unwind, modeEx, resultsOf, one]
    exact ⟨_, rfl⟩
  obtain ⟨H', h⟩ := this
  exact call_pure rfl rfl rfl rfl h rfl ro H nx

theorem ix_loop (cl : Bool) (sz : Nat) (l : List Int) (H : Heap) (ro : Nat) (hsz : l = [] ∨ sz = 1) (hlen : l.length < 2 ^ 63) : ∀ (n i : Nat) (j2 j3 j4 j5 j6 j9 j10 j11 j12 j13 j14 j15 j16 j17 j18 : AVal), i + n = l.length →
    Goes (execT env (Try.f133.at [1, 0, 1, 0]) ⟨[.lit cl sz (l.map (AVal.int .i64)), .func 110 [] [], j2, j3, j4, j5, j6, .int .i64 l.length, .int .i64 i, j9, j10, j11, j12, j13, j14, j15, j16, j17, j18], H, [], ro, []⟩) fun e s =>
      if (l.drop i).all shB then e = .exit 0 ∧ FrP 19 [] H [] ro [] s else e = .ret ∧ ∃ (k : Nat), FrP 19 [(4, .int .i64 k)] H [] ro [] s := by
  intro n
  induction n with
  | zero =>
    intro i; intros; rename_i hi
    have hd : decide ((i : Int) < (l.length : Int)) = false := by simp; omega
    have hdr : l.drop i = [] := List.drop_eq_nil_of_le (by omega)
    simp only [go_sem, simprocAttr, Try.f133]
    rw [exec_loop]
    simp only [go_sem, simprocAttr, hd, hdr]
    exact frP (by kernel_rfl)
  | succ n ih =>
    intro i; intros; rename_i hi
    have hd : decide ((i : Int) < (l.length : Int)) = true := by simp; omega
    have h0 : (0 : Int) ≤ (i : Int) := by omega
    obtain ⟨b, hb, hdr⟩ := get_drop (show i < l.length by omega)
    have hz := sz_of hsz hb
    subst hz
    have hb' := ints_get hb
    have nc := notShare_call b
    cases hok : shB b with
    | false =>
      rw [hok] at nc
      simp only [go_sem, simprocAttr, Try.f133]
      rw [exec_loop, hdr]
      simp only [go_sem, simprocAttr, hd, h0, hb', hok, nc]
      exact ⟨i, frP (by kernel_rfl)⟩
    | true =>
      rw [hok] at nc
      have ih' := ih (i + 1)
      simp only [go_sem, simprocAttr, Try.f133] at ih' ⊢
      rw [exec_loop, hdr]
      simp only [go_sem, simprocAttr, hd, h0, hb', hok, nc, wrap_succ (show i < 2 ^ 63 - 1 by omega)]
      exact ih' _ _ _ _ _ _ _ _ _ _ _ _ _ _ _ (by omega)

theorem ix_call {cl : Bool} {sz : Nat} {l : List Int} (hsz : l = [] ∨ sz = 1) (hlen : l.length < 2 ^ 63) (ro : Nat) (H : Heap) (nx : Nat) : ∃ k : Int, (decide (0 ≤ k) = !l.all shB) ∧ callT env 133 [.lit cl sz (l.map (AVal.int .i64)), .func 110 [] []] ro H nx = some (.ret (.int .i64 k), .ups []) := by
  have hu : underL 0 [AVal.lit cl sz (l.map (AVal.int .i64)), .func 110 [] []] = true := rfl
  obtain ⟨e, s, hx, hp⟩ := ix_loop cl sz l [] 0 hsz hlen l.length 0 _ _ _ _ _ _ _ _ _ _ _ _ _ _ _ (by omega)
  rw [List.drop_zero] at hp
  simp only [go_sem, simprocAttr, Try.f133, Int.ofNat_zero, Int.natCast_zero] at hx
  cases hok : l.all shB with
  | true =>
    rw [hok, if_pos rfl] at hp
    obtain ⟨rfl, jj, rfl⟩ := hp
    have : ∃ H', runT env 133 [.lit cl sz (l.map (AVal.int .i64)), .func 110 [] []] [] 0 = some (.ret (.int .i64 (-1)), H') := by
      rw [run_unfold fn133 rfl]
      simp only [go_sem, simprocAttr, Try.f133, List.length_map]
      rw [hx]
      simp only [go_sem, simprocAttr, unwind, modeEx, resultsOf, one]
      exact ⟨_, rfl⟩
    obtain ⟨H', h⟩ := this
    exact ⟨-1, by decide, call_pure rfl rfl rfl hu h rfl ro H nx⟩
  | false =>
    rw [hok, if_neg (by simp)] at hp
    obtain ⟨rfl, k, jj, rfl⟩ := hp
    have : ∃ H', runT env 133 [.lit cl sz (l.map (AVal.int .i64)), .func 110 [] []] [] 0 = some (.ret (.int .i64 k), H') := by
      rw [run_unfold fn133 rfl]
      simp only [go_sem, simprocAttr, Try.f133, List.length_map]
      rw [hx]
      simp only [go_sem, simprocAttr, unwind, modeEx, resultsOf, one]
      exact ⟨_, rfl⟩
    obtain ⟨H', h⟩ := this
    exact ⟨k, by simp, call_pure rfl rfl rfl hu h rfl ro H nx⟩

theorem anyBad_call {cl : Bool} {sz : Nat} {l : List Int} (hsz : l = [] ∨ sz = 1) (hlen : l.length < 2 ^ 63) (ro : Nat) (H : Heap) (nx : Nat) : callT env 109 [.lit cl sz (l.map (AVal.int .i64)), .func 110 [] []] ro H nx = some (.ret (.bool !l.all shB), .ups []) := by
  obtain ⟨k, hk, hc⟩ := ix_call (cl := cl) hsz hlen 0 [] 0
  have : ∃ H', runT env 109 [.lit cl sz (l.map (AVal.int .i64)), .func 110 [] []] [] 0 = some (.ret (.bool !l.all shB), H') := by
    rw [run_unfold fn109 rfl]
    simp only [go_sem, simprocAttr, Try.f109, hc, hk, unwind, modeEx, resultsOf, one]
    exact ⟨_, rfl⟩
  obtain ⟨H', h⟩ := this
  exact call_pure rfl rfl rfl rfl h rfl ro H nx

def firstW (m : List (List Int)) : Nat := (m.getD 0 []).length
def rowSh (c : Nat) (l : List Int) : Bool := decide (l.length = c) && l.all shB
def sumsB (m : List (List Int)) : Bool := sideOk m.length && sideOk (firstW m) && m.all (rowSh (firstW m))

theorem mrow {M : MatV} {i : Nat} {b : SlI} (hM : M.Wf) (hb : M.rows[i]? = some b) : (M.rows.map SlI.v)[i]? = some (.lit b.cl b.sz (b.l.map (AVal.int .i64))) ∧ M.sz = 1 ∧ (b.l = [] ∨ b.sz = 1) ∧ b.l.length < 2 ^ 63 := by
  have hm := List.mem_of_getElem? hb
  exact ⟨by simp [hb, SlI.v], sz_of hM.sz hb, hM.each b hm, hM.le b hm⟩

theorem Sums_loop {M : MatV} (hM : M.Wf) {a : SlI} (ha : M.rows[0]? = some a) : ∀ (n i : Nat) (j1 j2 j3 j4 j5 j6 j7 j8 j9 j10 j11 j12 j13 j14 j15 j16 j17 j18 j19 j20 j24 j25 j26 j27 j28 j29 j30 j31 j32 j33 j34 j35 j36 j37 j38 j39 j40 j41 j42 j43 j44 j45 : AVal), i + n = M.rows.length →
    Goes (execT env (Try.f46.at [1, 1, 0, 1, 0]) ⟨[.lit M.cl M.sz (M.rows.map SlI.v), j1, j2, j3, j4, j5, j6, j7, j8, j9, j10, j11, j12, j13, j14, j15, j16, j17, j18, j19, j20, .lit M.cl M.sz (M.rows.map SlI.v), .int .i64 M.rows.length, .int .i64 i, j24, j25, j26, j27, j28, j29, j30, j31, j32, j33, j34, j35, j36, j37, j38, j39, j40, j41, j42, j43, j44, j45], [], [], 0, []⟩) fun ex st =>
      if (M.rows.drop i).all (fun s => rowSh a.l.length s.l) then ex = .exit 0 ∧ FrP 46 [(0, .lit M.cl M.sz (M.rows.map SlI.v))] [] [] 0 [] st
      else ex = .ret ∧ FrP 46 [(2, .lit true 0 []), (3, .lit true 0 []), (4, .int .i64 1)] [] [] 0 [] st := by
  have hll := hM.len
  obtain ⟨a1, a2, _, _⟩ := mrow hM ha
  intro n
  induction n with
  | zero =>
    intro i; intros; rename_i hi
    have hd : decide ((i : Int) < (M.rows.length : Int)) = false := by simp; omega
    have hdr : M.rows.drop i = [] := List.drop_eq_nil_of_le (by omega)
    simp only [go_sem, simprocAttr, Try.f46]
    rw [exec_loop]
    simp only [go_sem, simprocAttr, hd, hdr]
    exact frP (by kernel_rfl)
  | succ n ih =>
    intro i; intros; rename_i hi
    have hd : decide ((i : Int) < (M.rows.length : Int)) = true := by simp; omega
    have h0 : (0 : Int) ≤ (i : Int) := by omega
    obtain ⟨b, hb, hdr⟩ := get_drop (show i < M.rows.length by omega)
    obtain ⟨b1, _, b3, b4⟩ := mrow hM hb
    have ac := anyBad_call (cl := b.cl) b3 b4
    have el : decide ((b.l.length : Int) = (a.l.length : Int)) = decide (b.l.length = a.l.length) := decide_eq_decide.2 (by omega)
    rw [hdr]
    cases hw : decide (b.l.length = a.l.length) with
    | false =>
      have hr : rowSh a.l.length b.l = false := by unfold rowSh; rw [hw]; rfl
      simp only [go_sem, simprocAttr, Try.f46, a2]
      rw [exec_loop]
      simp only [go_sem, simprocAttr, hd, h0, Int.toNat_natCast, b1, a1, a2, List.length_map, el, hw, hr]
      exact frP (by kernel_rfl)
    | true =>
      cases hs : b.l.all shB with
      | false =>
        have hr : rowSh a.l.length b.l = false := by unfold rowSh; rw [hw, hs]; rfl
        simp only [go_sem, simprocAttr, Try.f46, a2]
        rw [exec_loop]
        simp only [go_sem, simprocAttr, hd, h0, Int.toNat_natCast, b1, a1, a2, List.length_map, el, hw, ac, hs, hr]
        exact frP (by kernel_rfl)
      | true =>
        have hr : rowSh a.l.length b.l = true := by unfold rowSh; rw [hw, hs]; rfl
        have ih' := ih (i + 1)
        simp only [go_sem, simprocAttr, Try.f46, a2] at ih' ⊢
        rw [exec_loop]
        simp only [go_sem, simprocAttr, hd, h0, Int.toNat_natCast, b1, a1, a2, List.length_map, el, hw, ac, hs, hr, wrap_succ (show i < 2 ^ 63 - 1 by omega)]
        exact ih' _ _ _ _ _ _ _ _ _ _ _ _ _ _ _ _ _ _ _ _ _ _ _ _ _ _ _ _ _ _ _ _ _ _ _ _ _ _ _ _ _ _ (by omega)

def sumR (m : List (List Int)) : List Int := vecA m.length fun i => sumN (firstW m) (matOf m i)
def sumC (m : List (List Int)) : List Int := vecA (firstW m) fun k => sumN m.length fun i => matOf m i k

def SumsAns (m : List (List Int)) (v : AVal) : Prop := (sumsB m = false ∧ v = .tuple [.lit true 0 [], .lit true 0 [], .int .i64 1]) ∨
  (sumsB m = true ∧ v = .tuple [.lit false 1 ((sumR m).map (AVal.int .i64)), .lit false 1 ((sumC m).map (AVal.int .i64)), .int .i64 0])

theorem sumOk_of {M : MatV} (hM : M.Wf) (h : sumsB M.m = true) : SumOk M M.m.length (firstW M.m) := by
  unfold sumsB at h
  simp only [Bool.and_eq_true, List.all_eq_true, sideOk, decide_eq_true_eq] at h
  obtain ⟨⟨⟨h1, h2⟩, h3, h4⟩, h5⟩ := h
  have hrow : ∀ l ∈ M.m, l.length = firstW M.m ∧ ∀ x ∈ l, 0 ≤ x ∧ x ≤ 2 ^ 30 := fun l hl => by
    have := h5 l hl
    simp only [rowSh, Bool.and_eq_true, decide_eq_true_eq, List.all_eq_true, shB] at this
    exact ⟨this.1, fun x hx => this.2 x hx⟩
  refine ⟨hM, by simp [MatV.m], fun s hs => (hrow s.l (List.mem_map.2 ⟨s, hs, rfl⟩)).1, h1, h2, h4, fun i k hi hk => ?_⟩
  have e1 : M.m.getD i [] ∈ M.m := getD_mem hi []
  obtain ⟨q1, q2⟩ := hrow _ e1
  exact q2 _ (getD_mem (by rw [q1]; exact hk) 0)

theorem Sums_call {M : MatV} (hM : M.Wf) : ∃ v, SumsAns M.m v ∧ ∀ ro H nx, callT env 46 [M.v] ro H nx = some (.ret v, .ups []) := by
  have mv : M.v = .lit M.cl M.sz (M.rows.map SlI.v) := rfl
  have lm : M.m.length = M.rows.length := by simp [MatV.m]
  have s1 := side_call M.rows.length
  have done : ∀ {v H'}, SumsAns M.m v → runT env 46 [M.v] [] 0 = some (.ret v, H') → noRef v = true → ∃ v, SumsAns M.m v ∧ ∀ ro H nx, callT env 46 [M.v] ro H nx = some (.ret v, .ups []) := fun hv hr hn =>
    ⟨_, hv, fun ro H nx => call_pure rfl rfl rfl (by simp [underL, MatV.under]) hr hn ro H nx⟩
  cases h1 : sideOk M.rows.length with
  | false =>
    have hs : sumsB M.m = false := by unfold sumsB; rw [lm, h1]; rfl
    have : ∃ H', runT env 46 [M.v] [] 0 = some (.ret (.tuple [.lit true 0 [], .lit true 0 [], .int .i64 1]), H') := by
      rw [mv, run_unfold fn46 rfl]
      simp only [go_sem, simprocAttr, Try.f46, List.length_map, s1, h1, unwind, modeEx, resultsOf, one]
      exact ⟨_, rfl⟩
    obtain ⟨H', h⟩ := this
    exact done (.inl ⟨hs, rfl⟩) h rfl
  | true =>
    have hpos : 0 < M.rows.length := by
      simp only [sideOk, Bool.and_eq_true, decide_eq_true_eq] at h1; omega
    obtain ⟨a, ha, _⟩ := get_drop hpos
    obtain ⟨a1, a2, a3, a4⟩ := mrow hM ha
    have l0 : firstW M.m = a.l.length := by
      unfold firstW
      have : M.m.getD 0 [] = a.l := getD_some (by simp [MatV.m, ha])
      rw [this]
    have s2 := side_call a.l.length
    cases h2 : sideOk a.l.length with
    | false =>
      have hs : sumsB M.m = false := by unfold sumsB; rw [l0, h2, Bool.and_false]; rfl
      have : ∃ H', runT env 46 [M.v] [] 0 = some (.ret (.tuple [.lit true 0 [], .lit true 0 [], .int .i64 1]), H') := by
        rw [mv, run_unfold fn46 rfl]
        simp only [go_sem, simprocAttr, Try.f46, List.length_map, s1, h1, a1, a2, s2, h2, unwind, modeEx, resultsOf, one]
        exact ⟨_, rfl⟩
      obtain ⟨H', h⟩ := this
      exact done (.inl ⟨hs, rfl⟩) h rfl
    | true =>
      have eb : sumsB M.m = M.rows.all (fun s => rowSh a.l.length s.l) := by
        unfold sumsB
        rw [lm, h1, l0, h2]
        simp [MatV.m, List.all_map, Function.comp_def]
      obtain ⟨ex, st, hx, hp⟩ := Sums_loop hM ha M.rows.length 0 _ _ _ _ _ _ _ _ _ _ _ _ _ _ _ _ _ _ _ _ _ _ _ _ _ _ _ _ _ _ _ _ _ _ _ _ _ _ _ _ _ _ (by omega)
      rw [List.drop_zero] at hp
      simp only [go_sem, simprocAttr, Try.f46, Int.ofNat_zero, Int.natCast_zero, a2] at hx
      cases h3 : M.rows.all (fun s => rowSh a.l.length s.l) with
      | false =>
        rw [h3, if_neg (by simp)] at hp
        obtain ⟨rfl, jj, rfl⟩ := hp
        have : ∃ H', runT env 46 [M.v] [] 0 = some (.ret (.tuple [.lit true 0 [], .lit true 0 [], .int .i64 1]), H') := by
          rw [mv, run_unfold fn46 rfl]
          simp only [go_sem, simprocAttr, Try.f46, List.length_map, s1, h1, a1, a2, s2, h2]
          rw [hx]
          simp only [go_sem, simprocAttr, unwind, modeEx, resultsOf, one]
          exact ⟨_, rfl⟩
        obtain ⟨H', h⟩ := this
        exact done (.inl ⟨by rw [eb, h3], rfl⟩) h rfl
      | true =>
        rw [h3, if_pos rfl] at hp
        obtain ⟨rfl, jj, rfl⟩ := hp
        have sc := sums_call (sumOk_of hM (by rw [eb, h3]))
        rw [mv] at sc
        have e1 : intsV M.m.length (fun i => sumN (firstW M.m) (matOf M.m i)) = (sumR M.m).map (AVal.int .i64) := intsV_eq _ _
        have e2 : intsV (firstW M.m) (fun k => sumN M.m.length fun i => matOf M.m i k) = (sumC M.m).map (AVal.int .i64) := intsV_eq _ _
        rw [e1, e2] at sc
        have : ∃ H', runT env 46 [M.v] [] 0 = some (.ret (.tuple [.lit false 1 ((sumR M.m).map (AVal.int .i64)), .lit false 1 ((sumC M.m).map (AVal.int .i64)), .int .i64 0]), H') := by
          rw [mv, run_unfold fn46 rfl]
          simp only [go_sem, simprocAttr, Try.f46, List.length_map, s1, h1, a1, a2, s2, h2]
          rw [hx]
          simp only [go_sem, simprocAttr, sc, unwind, modeEx, resultsOf, one]
          exact ⟨_, rfl⟩
        obtain ⟨H', h⟩ := this
        exact done (.inr ⟨by rw [eb, h3], rfl⟩) h rfl

set_option maxRecDepth 10000
set_option maxHeartbeats 4000000

set_option maxRecDepth 10000
set_option maxHeartbeats 4000000

theorem looks_some {H : Heap} : ∀ (ids seen : List Nat) (n : Nat), (∀ id ∈ ids, ∃ g sz es, H[id]? = some (.cells g sz true es)) → ids.length ≤ n → ∃ l, looks H n ids seen = some l
  | [], seen, n, _, _ => by cases n <;> exact ⟨_, rfl⟩
  | id :: ids, seen, n, hf, hl => by
    obtain ⟨n, rfl⟩ : ∃ m, n = m + 1 := ⟨n - 1, by simp at hl; omega⟩
    obtain ⟨g, sz, es, hH⟩ := hf id (by simp)
    have ih := fun seen => looks_some (H := H) ids seen n (fun x hx => hf x (by simp [hx])) (by simp at hl; omega)
    simp only [looks, hH, if_true]
    split
    · exact ih _
    · exact ih _
theorem TbAt.looks {H : Heap} {a b q ga gb g : Nat} {ps : Nat → Nat} {t : Tab} (h : TbAt H a b q ga gb g ps t) (hR : t.R ≤ 8) : ∃ l, Tidy.looks H fuel0 [a, b, q] [] = some l := by
  have hab : b ≠ a := Ne.symm h.ab
  have haq : q ≠ a := Ne.symm h.aq
  have hbq : q ≠ b := Ne.symm h.bq
  have hrl : refsL (vecA t.R fun i => AVal.ref (ps i) 0 0 t.C false) = vecA t.R ps := by
    unfold vecA
    induction (List.range t.R) with
    | nil => rfl
    | cons i l ih => simp [refsL, AVal.refs, ih]
  obtain ⟨l, hl⟩ := looks_some (H := H) (vecA t.R ps) [a, b, q] 61 (fun id hid => by
    unfold vecA at hid
    obtain ⟨i, hi, rfl⟩ := List.mem_map.1 hid
    exact ⟨_, _, _, h.row i (List.mem_range.1 hi)⟩) (by rw [vecA_length]; omega)
  refine ⟨l, ?_⟩
  unfold fuel0
  simp [Tidy.looks, h.rows, h.cols, h.acc, hab, haq, hbq, hrl, hl]

set_option maxRecDepth 10000
set_option maxHeartbeats 4000000

theorem TbG.looks {H : Heap} {a b q ga gb g gr : Nat} {ps : Nat → Nat} {t : Tab} (h : TbG H a b q ga gb g ps gr t) (hR : t.R ≤ 8) : ∃ l, Tidy.looks H fuel0 [a, b, q] [] = some l := by
  have hab : b ≠ a := Ne.symm h.ab
  have haq : q ≠ a := Ne.symm h.aq
  have hbq : q ≠ b := Ne.symm h.bq
  have hrl : refsL (vecA t.R fun i => AVal.ref (ps i) gr 0 t.C false) = vecA t.R ps := by
    unfold vecA
    induction (List.range t.R) with
    | nil => rfl
    | cons i l ih => simp [refsL, AVal.refs, ih]
  obtain ⟨l, hl⟩ := looks_some (H := H) (vecA t.R ps) [a, b, q] 61 (fun id hid => by
    unfold vecA at hid
    obtain ⟨i, hi, rfl⟩ := List.mem_map.1 hid
    exact ⟨_, _, _, h.row i (List.mem_range.1 hi)⟩) (by rw [vecA_length]; omega)
  refine ⟨l, ?_⟩
  unfold fuel0
  simp [Tidy.looks, h.rows, h.cols, h.acc, hab, haq, hbq, hrl, hl]

theorem TbG.mono {H H' : Heap} {a b q ga gb g gr : Nat} {ps : Nat → Nat} {t : Tab} (h : TbG H a b q ga gb g ps gr t) (e : ∀ j, j < H.length → H'[j]? = H[j]?) : TbG H' a b q ga gb g ps gr t := by
  have hl : ∀ {j b}, H[j]? = some b → j < H.length := fun h => (List.getElem?_eq_some_iff.1 h).1
  exact ⟨by rw [e _ (hl h.rows)]; exact h.rows, by rw [e _ (hl h.cols)]; exact h.cols, by rw [e _ (hl h.acc)]; exact h.acc, fun i hi => by rw [e _ (hl (h.row i hi))]; exact h.row i hi, h.ab, h.aq, h.bq⟩

theorem Hd.tab {ob cb : Blk} {H : Heap} {cnt : Nat} {rs cs : List Spn} {cells : List (List Spn)} (h : Hd ob cb H cnt rs cs cells cs.length) (hR : cells.length = rs.length) (hR1 : 1 ≤ rs.length) (hC1 : 1 ≤ cs.length) : TbG H 3 4 5 rs.length cs.length rs.length (fun i => 7 + 2 * i) cs.length ⟨rs, cs, cells⟩ := by
  have n1 : rs.map spV ≠ [] := fun e => by have := congrArg List.length e; rw [List.length_map, List.length_nil] at this; omega
  have n2 : cs.map spV ≠ [] := fun e => by have := congrArg List.length e; rw [List.length_map, List.length_nil] at this; omega
  have n3 : (vecA cells.length fun i => AVal.ref (7 + 2 * i) cs.length 0 cs.length false) ≠ [] := fun e => by have := congrArg List.length e; rw [vecA_length, List.length_nil] at this; omega
  have a1 := h.rows
  have a2 := h.cols
  have a3 := h.acc
  rw [accN_full n1, List.length_map] at a1
  rw [accN_full n2, List.length_map] at a2
  rw [accF, if_neg n3, vecA_length, hR] at a3
  refine ⟨a1, a2, a3, fun i hi => ?_, by decide, by decide, by decide⟩
  have hi : i < cells.length := by rw [hR]; exact hi
  have e : cells[i]? = some (cells.getD i []) := by rw [List.getD_eq_getElem?_getD, List.getElem?_eq_getElem hi]; rfl
  exact h.row i _ e

theorem hd_fits {M : MatV} {rs cs : List Spn} {cells : List (List Spn)} (hs : sumsB M.m = true) (hcl : cells.length = M.rows.length) (hok : RowsOk M cells) (h1 : Arounds (sumR M.m) rs) (h2 : Arounds (sumC M.m) cs) :
    Tab.Ok ⟨rs, cs, cells⟩ ∧ Fits ⟨rs, cs, cells⟩ (matOf M.m) ∧ rs.length = M.rows.length ∧ cs.length = firstW M.m := by
  have lm : M.m.length = M.rows.length := by simp [MatV.m]
  have e1 : rs.length = M.rows.length := by rw [h1.1]; simp [sumR, vecA_length, lm]
  have e2 : cs.length = firstW M.m := by rw [h2.1]; simp [sumC, vecA_length]
  unfold sumsB at hs
  simp only [Bool.and_eq_true, List.all_eq_true, sideOk, decide_eq_true_eq] at hs
  obtain ⟨⟨⟨a1, a2⟩, a3, a4⟩, a5⟩ := hs
  have hw : ∀ b ∈ M.rows, b.l.length = firstW M.m := fun b hb => by
    have := a5 b.l (List.mem_map.2 ⟨b, hb, rfl⟩)
    simp only [rowSh, Bool.and_eq_true, decide_eq_true_eq] at this
    exact this.1
  have row : ∀ i, i < M.rows.length → ∃ b ys, M.rows[i]? = some b ∧ cells[i]? = some ys ∧ Arounds b.l ys ∧ b.l.length = firstW M.m := fun i hi => by
    obtain ⟨b, hb⟩ : ∃ b, M.rows[i]? = some b := ⟨_, List.getElem?_eq_getElem hi⟩
    obtain ⟨ys, hy⟩ : ∃ ys, cells[i]? = some ys := ⟨_, List.getElem?_eq_getElem (by omega)⟩
    exact ⟨b, ys, hb, hy, (hok i b ys hb hy).1, hw b (List.mem_of_getElem? hb)⟩
  have ar : ∀ {l : List Int} {ys : List Spn}, Arounds l ys → ∀ k, k < ys.length → ∃ n, l[k]? = some n ∧ Around n (ys.getD k sp0) := fun {l ys} h k hk => by
    have hl := h.1
    obtain ⟨n, hn⟩ : ∃ n, l[k]? = some n := ⟨_, List.getElem?_eq_getElem (by omega)⟩
    refine ⟨n, hn, h.2 k n _ hn ?_⟩
    rw [List.getD_eq_getElem?_getD, List.getElem?_eq_getElem hk]; rfl
  have sok : ∀ {n : Int} {y : Spn}, Around n y → y.ok = true := fun {n y} h => Spn.ok_iff.2 ⟨h.1, h.2.2.2, by have := h.2.1; have := h.2.2.1; omega⟩
  have mem : ∀ {ys : List Spn} {y : Spn}, y ∈ ys → ∃ k, k < ys.length ∧ ys.getD k sp0 = y := fun {ys y} h => by
    obtain ⟨k, hk, e⟩ := List.getElem_of_mem h
    exact ⟨k, hk, by rw [List.getD_eq_getElem?_getD, List.getElem?_eq_getElem hk, ← e]; rfl⟩
  have cg : ∀ {i ys}, cells[i]? = some ys → cells.getD i [] = ys := fun {i ys} h => by rw [List.getD_eq_getElem?_getD, h]; rfl
  refine ⟨⟨by show 1 ≤ rs.length; omega, by show rs.length ≤ 8; omega, by show 1 ≤ cs.length; omega, by show cs.length ≤ 8; omega, by show cells.length = rs.length; omega, fun l hl => ?_, fun y hy => ?_, fun y hy => ?_, fun l hl y hy => ?_⟩, ⟨fun i k hi hk => ?_, fun i hi => ?_, fun k hk => ?_⟩, e1, e2⟩
  · obtain ⟨i, hi, e⟩ := List.getElem_of_mem hl
    obtain ⟨b, ys, hb, hy, h, hbl⟩ := row i (by rw [← hcl]; exact hi)
    have hi' : i < cells.length := hi
    have : l = ys := by
      have := List.getElem?_eq_getElem hi'
      rw [hy] at this
      rw [← e]; exact (Option.some.inj this).symm
    rw [this, h.1, hbl]
    show _ = cs.length
    omega
  · obtain ⟨k, hk, rfl⟩ := mem hy
    obtain ⟨n, _, h⟩ := ar h1 k hk
    exact sok h
  · obtain ⟨k, hk, rfl⟩ := mem hy
    obtain ⟨n, _, h⟩ := ar h2 k hk
    exact sok h
  · obtain ⟨i, hi, e⟩ := List.getElem_of_mem hl
    obtain ⟨b, ys, hb, hy', h, hbl⟩ := row i (by rw [← hcl]; exact hi)
    have hi' : i < cells.length := hi
    have : l = ys := by
      have := List.getElem?_eq_getElem hi'
      rw [hy'] at this
      rw [← e]; exact (Option.some.inj this).symm
    subst this
    obtain ⟨k, hk, rfl⟩ := mem hy
    obtain ⟨n, _, h⟩ := ar h k hk
    exact sok h
  · have hi : i < rs.length := hi
    have hk : k < cs.length := hk
    obtain ⟨b, ys, hb, hy', h, hbl⟩ := row i (by omega)
    obtain ⟨n, hn, ha⟩ := ar h k (by have := h.1; omega)
    rw [matOf_get hb hn]
    show ((cells.getD i []).getD k sp0).lo ≤ n ∧ n ≤ ((cells.getD i []).getD k sp0).hi
    rw [cg hy']
    exact ⟨ha.2.1, ha.2.2.1⟩
  · have hi : i < rs.length := hi
    obtain ⟨n, hn, ha⟩ := ar h1 i hi
    have : n = sumN (firstW M.m) (matOf M.m i) := by
      unfold sumR at hn
      rw [vecA_get _ (by omega)] at hn
      exact (Option.some.inj hn).symm
    show (rs.getD i sp0).lo ≤ sumN cs.length (matOf M.m i) ∧ sumN cs.length (matOf M.m i) ≤ (rs.getD i sp0).hi
    rw [e2, ← this]
    exact ⟨ha.2.1, ha.2.2.1⟩
  · have hk : k < cs.length := hk
    obtain ⟨n, hn, ha⟩ := ar h2 k hk
    have : n = sumN M.m.length fun i => matOf M.m i k := by
      unfold sumC at hn
      rw [vecA_get _ (by omega)] at hn
      exact (Option.some.inj hn).symm
    show (cs.getD k sp0).lo ≤ (sumN rs.length fun i => matOf M.m i k) ∧ (sumN rs.length fun i => matOf M.m i k) ≤ (cs.getD k sp0).hi
    rw [e1, ← lm, ← this]
    exact ⟨ha.2.1, ha.2.2.1⟩

set_option maxRecDepth 10000
set_option maxHeartbeats 4000000

theorem hd_asks {t : Tab} (hO : t.Ok) {m : MatV} (hm : m.Wf) (hf : Fits t (matOf m.m)) (hdim : dimsB t m.m = true) {cu : CutA} (hcu : cu.Wf) {r c : Nat} (hr : r < t.R) (hc : c < t.C) {a b q ga gb g gr : Nat} {ps : Nat → Nat} :
    ∃ x y z : Spn, (x.lo ≤ matOf m.m r c ∧ matOf m.m r c ≤ x.hi) ∧ (y.lo ≤ sumN t.C (matOf m.m r) ∧ sumN t.C (matOf m.m r) ≤ y.hi) ∧ (z.lo ≤ (sumN t.R fun i => matOf m.m i c) ∧ (sumN t.R fun i => matOf m.m i c) ≤ z.hi) ∧
      ∀ H : Heap, TbG H a b q ga gb g ps gr t → ∀ nx,
        callT env 26 [memT t a b q ga gb g, .int .i64 r, .int .i64 c] 0 H nx = some (.ret (.tuple [spV x, .int .i64 0]), .ups []) ∧
        callT env 28 [memT t a b q ga gb g, .int .i64 r] 0 H nx = some (.ret (.tuple [spV y, .int .i64 0]), .ups []) ∧
        callT env 30 [memT t a b q ga gb g, .int .i64 c] 0 H nx = some (.ret (.tuple [spV z, .int .i64 0]), .ups []) ∧
        callT env 40 [memT t a b q ga gb g, m.v] 0 H nx = some (.ret (.int .i64 0), .ups []) ∧
        callT env 24 [memT t a b q ga gb g, cu.v] 0 H nx = some (.ret (.int .i64 61), .ups []) := by
  have hok := Tab.ok_iff.2 hO
  have hcan : canB t = true := canB_true.2 ⟨_, hf⟩
  have hW := canon_wf hO.R8 hO.C8 hO.len hO.wid
  have hct := canon_tab t
  obtain ⟨v1, X1, r1, e1⟩ := cell_run hW (r : Int) (c : Int)
  obtain ⟨v2, X2, r2, e2⟩ := rowE_run hW (r : Int)
  obtain ⟨v3, X3, r3, e3⟩ := colE_run hW (c : Int)
  obtain ⟨X4, r4⟩ := cm_run hW hm
  rw [hct] at e1 e2 e3 r4
  obtain ⟨lo1, hi1, n1, rfl⟩ := e1.zero (askS_in hok hcan (outB_in hr hc))
  obtain ⟨lo2, hi2, n2, rfl⟩ := e2.zero (askS_in hok hcan (outB_in hr hO.C1))
  obtain ⟨lo3, hi3, n3, rfl⟩ := e3.zero (askS_in hok hcan (outB_in (i := 0) hO.R1 hc))
  rw [Int.toNat_natCast] at n2 n3
  rw [Int.toNat_natCast, Int.toNat_natCast] at n1
  have p1 := (EndsP.of n1 fun s => brings_cell _ _ hr hc).2.2 _ hf
  have p2 := (EndsP.of n2 fun s => brings_row _ _ hr).2.2 _ hf
  have p3 := (EndsP.of n3 fun s => brings_col _ _ hc).2.2 _ hf
  have hcm : cmS t m.m = 0 := by
    unfold cmS
    rw [if_pos hok, if_pos hdim, if_pos (fitsB_iff.2 hf)]
  rw [hcm] at r4
  have r5 : ∃ H', runT env 24 [(canon t).v, cu.v] [] 0 = some (.ret (.int .i64 61), H') := by
    have ck := check_call _ hW
    have fc := fits_call (canon t) cu
    rw [hct] at ck fc
    rw [run_unfold fn24 rfl]
    cases hfc : fitC t cu with
    | false =>
      simp only [go_sem, simprocAttr, Try.f24, ck, ckS_ok hok, fc, hfc, unwind, modeEx, resultsOf, one]
      exact ⟨_, rfl⟩
    | true =>
      obtain ⟨h1, h2⟩ := fitC_iff.1 hfc
      have ic := isGap_call hW (by rw [hct]; exact hO) hcu (by rw [hct]; exact h1) (by rw [hct]; exact h2)
      rw [hct, gap_none ⟨_, hf⟩] at ic
      simp only [go_sem, simprocAttr, Try.f24, ck, ckS_ok hok, fc, hfc, ic, unwind, modeEx, resultsOf, one]
      exact ⟨_, rfl⟩
  obtain ⟨X5, r5⟩ := r5
  refine ⟨⟨lo1, hi1⟩, ⟨lo2, hi2⟩, ⟨lo3, hi3⟩, p1, p2, p3, fun H hat nx => ?_⟩
  have ask : ∀ {f : Nat} {args : List AVal} {w : AVal} {X : Heap}, (env.hint f).whole = false → (env.hint f).keepAll = false → (env.hint f).keep = [] → (env.hint f).ro = false → (env.hint f).lits.contains 0 = true → underL 0 args = true → runT env f ((canon t).v :: args) [] 0 = some (.ret w, X) → noRef w = true → w.noLit = true →
      callT env f (memT t a b q ga gb g :: args) 0 H nx = some (.ret w, .ups []) := fun {f args w X} h1 h2 h3 h4 h5 h6 hr hn hl => by
    obtain ⟨ids, hle⟩ := hat.lend hO.R8 hO.len hO.wid h5 h6
    have hu : underL 0 ((canon t).v :: args) = true := by simp only [underL, TabV.under, h6, Bool.and_self]
    obtain ⟨us, mc, hus⟩ := call_lent h1 h2 h3 h4 hle hu hr (handBack_noRef _ _ _ _ _ hn) hn nx
    rw [hus hl] at mc
    exact mc
  exact ⟨ask rfl rfl rfl rfl rfl rfl r1 rfl rfl, ask rfl rfl rfl rfl rfl rfl r2 rfl rfl, ask rfl rfl rfl rfl rfl rfl r3 rfl rfl, ask rfl rfl rfl rfl rfl (by simp only [underL, MatV.under, Bool.and_self]) r4 rfl rfl, ask rfl rfl rfl rfl rfl (by simp only [underL, CutA.under, Bool.and_self]) r5 rfl rfl⟩

set_option maxRecDepth 10000
set_option maxHeartbeats 8000000

theorem hd_share {M : MatV} (hM : M.Wf) {C : Nat} (hw : ∀ b ∈ M.rows, b.l.length = C) {cells : List (List Spn)} (hcl : cells.length = M.rows.length) (hok : RowsOk M cells) {i k : Nat} (hi : i < M.rows.length) (hk : k < C) : 0 ≤ matOf M.m i k ∧ matOf M.m i k ≤ 10 ^ 6 := by
  obtain ⟨b, hb⟩ : ∃ b, M.rows[i]? = some b := ⟨_, List.getElem?_eq_getElem hi⟩
  obtain ⟨ys, hy⟩ : ∃ ys, cells[i]? = some ys := ⟨_, List.getElem?_eq_getElem (by omega)⟩
  have hbl := hw b (List.mem_of_getElem? hb)
  obtain ⟨n, hn⟩ : ∃ n, b.l[k]? = some n := ⟨_, List.getElem?_eq_getElem (by omega)⟩
  rw [matOf_get hb hn]
  exact (hok i b ys hb hy).2 n (List.mem_of_getElem? hn)

theorem hidden_law (a0 a1 a2 a3 a4 : List AVal) (h0 : FitT env 8 46 a0) (h1 : FitT env 8 51 a1) (h2 : FitT env 8 3 a2) (h3 : FitT env 8 3 a3) (h4 : FitT env 8 28 a4) : ∃ H', runT env 10 [pack ⟨.slice 51, 1, 24, .lit true 0 []⟩ a0, pack ⟨.slice 3, 1, 24, .lit true 0 []⟩ a1, pack ⟨.int .i64, 1, 8, .int .i64 (0)⟩ a2, pack ⟨.int .i64, 1, 8, .int .i64 (0)⟩ a3, pack ⟨.struct [(26, 0), (26, 1)], 2, 48, .agg [.lit true 0 [], .lit true 0 []]⟩ a4] [] 0 = some (.ret (.bool true), H') := by
  obtain ⟨M, hM, rfl⟩ := fit_mat h0
  obtain ⟨off, rfl, hoz, hol, _⟩ := fit_ints (m := 6) h1
  obtain ⟨row, rfl, _⟩ := fit_int ti3 h2
  obtain ⟨col, rfl, _⟩ := fit_int ti3 h3
  obtain ⟨cu, hcu, e4⟩ := fit_cut (m := 5) h4
  show ∃ H', runT env 10 [M.v, off.v, .int .i64 row, .int .i64 col, .agg a4] [] 0 = some (.ret (.bool true), H')
  rw [e4]
  obtain ⟨sv, hsv, sc⟩ := Sums_call hM
  have hov : off.v = .lit off.cl 1 (off.l.map (AVal.int .i64)) := by unfold SlI.v; rw [hoz]
  have hol' : off.l.length < 2 ^ 63 := Nat.lt_of_le_of_lt hol (by decide)
  rw [run_unfold fn10 rfl]
  rcases hsv with ⟨hs, rfl⟩ | ⟨hs, rfl⟩
  · simp (config := { maxSteps := 2000000 }) only [go_sem, simprocAttr, Try.f10, sc, hov, unwind, modeEx, resultsOf, one]
    exact ⟨_, rfl⟩
  · have lm : M.m.length = M.rows.length := by simp [MatV.m]
    have hs' := hs
    unfold sumsB at hs'
    simp only [Bool.and_eq_true, List.all_eq_true, sideOk, decide_eq_true_eq] at hs'
    obtain ⟨⟨⟨x1, x2⟩, x3, x4⟩, x5⟩ := hs'
    have hw : ∀ b ∈ M.rows, b.l.length = firstW M.m := fun b hb => by
      have := x5 b.l (List.mem_map.2 ⟨b, hb, rfl⟩)
      simp only [rowSh, Bool.and_eq_true, decide_eq_true_eq] at this
      exact this.1
    have hR1 : 1 ≤ M.rows.length := by omega
    obtain ⟨b0, hb0⟩ : ∃ b, M.rows[0]? = some b := ⟨_, List.getElem?_eq_getElem (by omega)⟩
    have hb0l := hw b0 (List.mem_of_getElem? hb0)
    have hMz : M.sz = 1 := hM.sz.resolve_left (fun e => by rw [e] at hR1; simp at hR1)
    have hb0z : b0.sz = 1 := (hM.each b0 (List.mem_of_getElem? hb0)).resolve_left (fun e => by rw [e] at hb0l; simp at hb0l; omega)
    have hm0 : (M.rows.map SlI.v)[0]? = some (.lit b0.cl 1 (b0.l.map (AVal.int .i64))) := by
      rw [List.getElem?_map, hb0]
      simp only [Option.map_some, SlI.v, hb0z]
    have hb0m : (b0.l.map (AVal.int .i64)).length = firstW M.m := by rw [List.length_map, hb0l]
    have hlr : (sumR M.m).length = M.rows.length := by simp [sumR, vecA_length, lm]
    have hlc : (sumC M.m).length = firstW M.m := by simp [sumC, vecA_length]
    have hRn : decide ((M.rows.length : Int) = 0) = false := decide_eq_false (by omega)
    have dd : ∀ n : Int, decide (n = n) = true := fun n => decide_eq_true rfl
    simp only [MatV.v, hMz] at sc
    cases d1 : decide ((6 : Int) < (M.rows.length : Int)) with
    | true =>
      simp (config := { maxSteps := 2000000 }) only [go_sem, simprocAttr, Try.f10, MatV.v, hMz, sc, hov, List.length_map, hRn, hm0, hb0l, d1, unwind, modeEx, resultsOf, one]
      exact ⟨_, rfl⟩
    | false =>
    cases d2 : decide ((6 : Int) < (firstW M.m : Int)) with
    | true =>
      simp (config := { maxSteps := 2000000 }) only [go_sem, simprocAttr, Try.f10, MatV.v, hMz, sc, hov, List.length_map, hRn, hm0, hb0l, d1, d2, unwind, modeEx, resultsOf, one]
      exact ⟨_, rfl⟩
    | false =>
    cases d3 : decide ((off.l.length : Int) = 0) with
    | true =>
      simp (config := { maxSteps := 2000000 }) only [go_sem, simprocAttr, Try.f10, MatV.v, hMz, sc, hov, List.length_map, hRn, hm0, hb0l, d1, d2, d3, unwind, modeEx, resultsOf, one]
      exact ⟨_, rfl⟩
    | false =>
    cases d4 : decide (row < 0) with
    | true =>
      simp (config := { maxSteps := 2000000 }) only [go_sem, simprocAttr, Try.f10, MatV.v, hMz, sc, hov, List.length_map, hRn, hm0, hb0l, d1, d2, d3, d4, unwind, modeEx, resultsOf, one]
      exact ⟨_, rfl⟩
    | false =>
    cases d5 : decide ((M.rows.length : Int) ≤ row) with
    | true =>
      simp (config := { maxSteps := 2000000 }) only [go_sem, simprocAttr, Try.f10, MatV.v, hMz, sc, hov, List.length_map, hRn, hm0, hb0l, d1, d2, d3, d4, d5, unwind, modeEx, resultsOf, one]
      exact ⟨_, rfl⟩
    | false =>
    cases d6 : decide (col < 0) with
    | true =>
      simp (config := { maxSteps := 2000000 }) only [go_sem, simprocAttr, Try.f10, MatV.v, hMz, sc, hov, List.length_map, hRn, hm0, hb0l, d1, d2, d3, d4, d5, d6, unwind, modeEx, resultsOf, one]
      exact ⟨_, rfl⟩
    | false =>
    cases d7 : decide ((firstW M.m : Int) ≤ col) with
    | true =>
      simp (config := { maxSteps := 2000000 }) only [go_sem, simprocAttr, Try.f10, MatV.v, hMz, sc, hov, List.length_map, hRn, hm0, hb0l, d1, d2, d3, d4, d5, d6, d7, unwind, modeEx, resultsOf, one]
      exact ⟨_, rfl⟩
    | false =>
    have n1 := of_decide_eq_false d1
    have n2 := of_decide_eq_false d2
    have n3 := of_decide_eq_false d3
    have hne : off.l ≠ [] := fun e => n3 (by rw [e]; rfl)
    obtain ⟨r, rfl, hr⟩ : ∃ r : Nat, row = r ∧ r < M.rows.length := ⟨row.toNat, by simp at d4; omega, by simp at d4 d5; omega⟩
    obtain ⟨c, rfl, hc⟩ : ∃ c : Nat, col = c ∧ c < firstW M.m := ⟨col.toNat, by simp at d6; omega, by simp at d6 d7; omega⟩
    have r0 : (0 : Int) ≤ (r : Int) := by omega
    have c0 : (0 : Int) ≤ (c : Int) := by omega
    obtain ⟨ea, sa, hxa, hpa⟩ := hd_off (v0 := .lit M.cl 1 (M.rows.map SlI.v)) (v2 := .int .i64 r) (v3 := .int .i64 c) (v11 := .lit false 1 ((sumR M.m).map (AVal.int .i64))) (v12 := .lit false 1 ((sumC M.m).map (AVal.int .i64))) (cl := off.cl) hol' [offB off.cl 1 off.l, .cells 0 2 false [cu.v]] off.l.length 0 _ _ _ _ _ _ _ _ _ _ _ _ _ _ _ _ _ _ _ _ _ _ _ _ _ _ _ _ _ _ _ _ _ _ _ _ _ _ _ _ _ _ _ _ _ _ _ _ _ _ _ _ _ _ _ _ _ _ _ _ _ _ _ _ _ _ _ _ _ _ _ _ _ _ _ _ _ _ _ _ _ _ _ _ _ _ _ _ _ _ _ _ _ _ _ _ _ _ _ _ _ _ _ _ _ _ _ _ _ _ _ _ _ _ _ _ _ _ _ _ _ _ _ _ _ _ _ _ _ _ _ _ _ _ _ _ _ _ _ _ _ _ _ _ _ _ _ _ _ _ _ _ _ _ _ _ _ _ _ _ _ _ _ _ _ _ _ _ _ _ _ _ _ _ _ _ _ _ _ _ _ _ _ _ _ _ _ _ _ _ _ _ _ _ _ _ _ _ _ _ _ _ _ _ _ _ _ _ _ _ _ _ _ _ _ _ _ _ _ _ _ _ _ _ _ _ _ _ _ _ _ _ _ _ _ _ _ _ _ _ _ _ _ _ _ _ _ _ _ _ _ _ _ _ _ _ _ _ _ _ _ _ _ _ _ _ _ _ (by omega) (fun x hx => by simp at hx)
    rcases hpa with ⟨rfl, jp, rfl⟩ | ⟨rfl, hob, jq, rfl⟩
    · simp (config := { maxSteps := 2000000 }) only [go_sem, simprocAttr, Try.f10, offB, Int.ofNat_zero, Int.natCast_zero] at hxa
      simp (config := { maxSteps := 2000000 }) only [go_sem, simprocAttr, Try.f10, MatV.v, hMz, sc, hov, List.length_map, hRn, hm0, hb0l, d1, d2, d3, d4, d5, d6, d7]
      rw [hxa]
      simp (config := { maxSteps := 2000000 }) only [go_sem, simprocAttr, unwind, modeEx, resultsOf, one]
      exact ⟨_, rfl⟩
    · have hA0 : Hd (offB off.cl 1 off.l) (.cells 0 2 false [cu.v]) [offB off.cl 1 off.l, .cells 0 2 false [cu.v], .cells 0 1 true [.int .i64 0], .cells 0 0 false [], .cells 0 0 false [], .cells 0 0 false [], .cells 0 3 false [.agg [.ref 3 0 0 0 false, .ref 4 0 0 0 false, .ref 5 0 0 0 false]]] (firstW M.m * 0) [] [] [] (firstW M.m) := ⟨rfl, rfl, rfl, rfl, rfl, rfl, rfl, fun i l h => by simp at h⟩
      obtain ⟨eb, sb, hxb, hpb⟩ := hd_outer (v0 := .lit M.cl 1 (M.rows.map SlI.v)) (v2 := .int .i64 r) (v3 := .int .i64 c) (v11 := .lit false 1 ((sumR M.m).map (AVal.int .i64))) (v12 := .lit false 1 ((sumC M.m).map (AVal.int .i64))) (.inr rfl) hne hol' hob (.cells 0 2 false [cu.v]) hM rfl (by omega) x3 (by omega) hw M.rows.length 0 _ [] _ _ _ _ _ _ _ _ _ _ _ _ _ _ _ _ _ _ _ _ _ _ _ _ _ _ _ _ _ _ _ _ _ _ _ _ _ _ _ _ _ _ _ _ _ _ _ _ _ _ _ _ _ _ _ _ _ _ _ _ _ _ _ _ _ _ _ _ _ _ _ _ _ _ _ _ _ _ _ _ _ _ _ _ _ _ _ _ _ _ _ _ _ _ _ _ _ _ _ _ _ _ _ _ _ _ _ _ _ _ _ _ _ _ _ _ _ _ _ _ _ _ _ _ _ _ _ _ _ _ _ _ _ _ _ _ _ _ _ _ _ _ _ _ _ _ _ _ _ _ _ _ _ _ _ _ _ _ _ _ _ _ _ _ _ _ _ _ _ _ _ _ _ _ _ _ _ _ _ _ _ _ _ _ _ _ _ _ _ _ _ _ _ _ _ _ _ _ _ _ _ _ _ _ _ _ _ _ _ _ _ _ _ _ _ _ _ _ _ _ _ _ _ _ _ _ _ _ _ _ _ _ _ _ _ _ _ _ _ _ _ _ _ _ _ _ _ _ _ _ _ _ _ _ _ _ _ _ _ _ _ _ _ _ _ _ (by omega) rfl hA0 rfl (fun j b ys _ h => by simp at h)
      rcases hpb with ⟨rfl, H1, ju, rfl⟩ | ⟨rfl, H1, cells, ⟨hA1, hl1, hcl, hok⟩, ju, rfl⟩
      · simp (config := { maxSteps := 2000000 }) only [go_sem, simprocAttr, Try.f10, offB, Int.ofNat_zero, Int.natCast_zero] at hxa hxb
        simp (config := { maxSteps := 2000000 }) only [go_sem, simprocAttr, Try.f10, MatV.v, hMz, sc, hov, List.length_map, hRn, hm0, hb0l, d1, d2, d3, d4, d5, d6, d7]
        rw [hxa]
        simp (config := { maxSteps := 2000000 }) only [go_sem, simprocAttr, virtual, List.length_map]
        rw [hxb]
        simp (config := { maxSteps := 2000000 }) only [go_sem, simprocAttr, unwind, modeEx, resultsOf, one]
        exact ⟨_, rfl⟩
      · have shr := fun i k hi hk => hd_share hM hw hcl hok (i := i) (k := k) hi hk
        have hb1 : ∀ x ∈ sumR M.m, 0 ≤ x ∧ x ≤ 10 ^ 8 := fun x hx => by
          unfold sumR vecA at hx
          obtain ⟨i, hi, rfl⟩ := List.mem_map.1 hx
          have hi := List.mem_range.1 hi
          have := sumN_bd (n := firstW M.m) (f := matOf M.m i) (B := 10 ^ 6) fun k hk => shr i k (by omega) hk
          omega
        have hb2 : ∀ x ∈ sumC M.m, 0 ≤ x ∧ x ≤ 10 ^ 8 := fun x hx => by
          unfold sumC vecA at hx
          obtain ⟨k, hk, rfl⟩ := List.mem_map.1 hx
          have hk := List.mem_range.1 hk
          have := sumN_bd (n := M.m.length) (f := fun i => matOf M.m i k) (B := 10 ^ 6) fun i hi => shr i k (by omega) hk
          omega
        have hmul : firstW M.m * M.rows.length ≤ 6 * 6 := Nat.mul_le_mul (by omega) (by omega)
        obtain ⟨ec, sc', hxc, hpc⟩ := hd_rows (v0 := .lit M.cl 1 (M.rows.map SlI.v)) (v2 := .int .i64 r) (v3 := .int .i64 c) (v11 := .lit false 1 ((sumR M.m).map (AVal.int .i64))) (v12 := .lit false 1 ((sumC M.m).map (AVal.int .i64))) (c2 := false) (.inr rfl) hne hol' hob (.cells 0 2 false [cu.v]) (by omega) hb1 (sumR M.m).length 0 _ _ [] _ _ _ _ _ _ _ _ _ _ _ _ _ _ _ _ _ _ _ _ _ _ _ _ _ _ _ _ _ _ _ _ _ _ _ _ _ _ _ _ _ _ _ _ _ _ _ _ _ _ _ _ _ _ _ _ _ _ _ _ _ _ _ _ _ _ _ _ _ _ _ _ _ _ _ _ _ _ _ _ _ _ _ _ _ _ _ _ _ _ _ _ _ _ _ _ _ _ _ _ _ _ _ _ _ _ _ _ _ _ _ _ _ _ _ _ _ _ _ _ _ _ _ _ _ _ _ _ _ _ _ _ _ _ _ _ _ _ _ _ _ _ _ _ _ _ _ _ _ _ _ _ _ _ _ _ _ _ _ _ _ _ _ _ _ _ _ _ _ _ _ _ _ _ _ _ _ _ _ _ _ _ _ _ _ _ _ _ _ _ _ _ _ _ _ _ _ _ _ _ _ _ _ _ _ _ _ _ _ _ _ _ _ _ _ _ _ _ _ _ _ _ _ _ _ _ _ _ _ _ _ _ _ _ _ _ _ _ _ _ _ _ _ _ _ _ _ _ _ _ _ _ _ _ _ _ _ _ _ _ _ _ _ _ _ _ _ (by omega) (by omega) rfl hA1 hl1 ⟨rfl, fun i n y h _ => by simp at h⟩
        obtain ⟨rfl, H2, rs, ⟨hA2, hl2, har⟩, jw, rfl⟩ := hpc
        obtain ⟨ed, sd, hxd, hpd⟩ := hd_cols (v0 := .lit M.cl 1 (M.rows.map SlI.v)) (v2 := .int .i64 r) (v3 := .int .i64 c) (v11 := .lit false 1 ((sumR M.m).map (AVal.int .i64))) (v12 := .lit false 1 ((sumC M.m).map (AVal.int .i64))) (c2 := false) (.inr rfl) hne hol' hob (.cells 0 2 false [cu.v]) (by omega) hb2 (sumC M.m).length 0 _ _ [] _ _ _ _ _ _ _ _ _ _ _ _ _ _ _ _ _ _ _ _ _ _ _ _ _ _ _ _ _ _ _ _ _ _ _ _ _ _ _ _ _ _ _ _ _ _ _ _ _ _ _ _ _ _ _ _ _ _ _ _ _ _ _ _ _ _ _ _ _ _ _ _ _ _ _ _ _ _ _ _ _ _ _ _ _ _ _ _ _ _ _ _ _ _ _ _ _ _ _ _ _ _ _ _ _ _ _ _ _ _ _ _ _ _ _ _ _ _ _ _ _ _ _ _ _ _ _ _ _ _ _ _ _ _ _ _ _ _ _ _ _ _ _ _ _ _ _ _ _ _ _ _ _ _ _ _ _ _ _ _ _ _ _ _ _ _ _ _ _ _ _ _ _ _ _ _ _ _ _ _ _ _ _ _ _ _ _ _ _ _ _ _ _ _ _ _ _ _ _ _ _ _ _ _ _ _ _ _ _ _ _ _ _ _ _ _ _ _ _ _ _ _ _ _ _ _ _ _ _ _ _ _ _ _ _ _ _ _ _ _ _ _ _ _ _ _ _ _ _ _ _ _ _ _ _ _ _ _ _ _ _ _ _ _ _ _ _ (by omega) (by omega) rfl hA2 hl2 ⟨rfl, fun i n y h _ => by simp at h⟩
        obtain ⟨rfl, H3, cs, ⟨hA3, hl3, hac⟩, jy, rfl⟩ := hpd
        obtain ⟨hO, hf, e1, e2⟩ := hd_fits hs hcl hok har hac
        rw [← e2] at hA3
        have hat := hA3.tab (by omega) (by omega) (by omega)
        have hdim : dimsB (⟨rs, cs, cells⟩ : Tab) M.m = true := by
          unfold dimsB
          rw [Bool.and_eq_true]
          refine ⟨decide_eq_true (by show M.m.length = rs.length; omega), List.all_eq_true.2 fun l hl => ?_⟩
          obtain ⟨b, hb, rfl⟩ := List.mem_map.1 hl
          exact decide_eq_true (by show b.l.length = cs.length; rw [hw b hb, e2])
        obtain ⟨x, y, z, fx, fy, fz, asks⟩ := hd_asks hO hM hf hdim hcu (r := r) (c := c) (by show r < rs.length; omega) (by show c < cs.length; omega) (a := 3) (b := 4) (q := 5) (ga := rs.length) (gb := cs.length) (g := rs.length) (gr := cs.length) (ps := fun i => 7 + 2 * i)
        have hbox : H3[6]? = some (.cells 0 3 false [.agg [.ref 3 rs.length 0 rs.length false, .ref 4 cs.length 0 cs.length false, .ref 5 rs.length 0 rs.length false]]) := by
          have := hA3.box
          rwa [show cells.length = rs.length by omega] at this
        have hcut := hA3.cut
        obtain ⟨L, hL⟩ : ∃ L, H3.length = L := ⟨_, rfl⟩
        have hL7 : 6 < L := by omega
        have lo1 := fun (b : Blk) (j : Nat) (hj : j < L) => (List.getElem?_append_left (l₂ := [b]) (show j < H3.length by omega))
        have lo2 := fun (b b' : Blk) (j : Nat) (hj : j < L) => (List.getElem?_append_left (l₁ := H3 ++ [b]) (l₂ := [b']) (show j < (H3 ++ [b]).length by rw [List.length_append]; omega)).trans (lo1 b j hj)
        have lo3 := fun (b b' b'' : Blk) (j : Nat) (hj : j < L) => (List.getElem?_append_left (l₁ := H3 ++ [b] ++ [b']) (l₂ := [b'']) (show j < (H3 ++ [b] ++ [b']).length by rw [List.length_append, List.length_append]; omega)).trans (lo2 b b' j hj)
        have m1 := fun b : Blk => len_snoc hL b
        have m2 := fun b b' : Blk => len_snoc (m1 b) b'
        have m3 := fun b b' b'' : Blk => len_snoc (m2 b b') b''
        have q1 := (asks H3 hat L).1
        have q2 := fun b : Blk => (asks (H3 ++ [b]) (hat.mono fun j hj => lo1 b j (by omega)) (L + 1)).2.1
        have q3 := fun b b' : Blk => (asks (H3 ++ [b] ++ [b']) (hat.mono fun j hj => lo2 b b' j (by omega)) (L + 1 + 1)).2.2.1
        have q4 := fun b b' b'' : Blk => (asks (H3 ++ [b] ++ [b'] ++ [b'']) (hat.mono fun j hj => lo3 b b' b'' j (by omega)) (L + 1 + 1 + 1)).2.2.2.1
        have q5 := fun b b' b'' : Blk => (asks (H3 ++ [b] ++ [b'] ++ [b'']) (hat.mono fun j hj => lo3 b b' b'' j (by omega)) (L + 1 + 1 + 1)).2.2.2.2
        have lk : ∃ l, looks (H3 ++ [.cells 0 2 true [spV x]] ++ [.cells 0 2 true [spV y]] ++ [.cells 0 2 true [spV z]]) fuel0 [3, 4, 5] [] = some l := (hat.mono fun j hj => lo3 _ _ _ j (by omega)).looks (by show rs.length ≤ 8; omega)
        obtain ⟨ll, lk⟩ := lk
        have hmt : memT ⟨rs, cs, cells⟩ 3 4 5 rs.length cs.length rs.length = .agg [.ref 3 rs.length 0 rs.length false, .ref 4 cs.length 0 cs.length false, .ref 5 rs.length 0 rs.length false] := rfl
        rw [hmt] at q1
        simp only [hmt] at q2 q3 q4 q5
        have b1 : ∀ b : Blk, (H3 ++ [b])[6]? = _ := fun b => (lo1 b 6 hL7).trans hbox
        have b2 : ∀ b b' : Blk, (H3 ++ [b] ++ [b'])[6]? = _ := fun b b' => (lo2 b b' 6 hL7).trans hbox
        have b3 : ∀ b b' b'' : Blk, (H3 ++ [b] ++ [b'] ++ [b''])[6]? = _ := fun b b' b'' => (lo3 b b' b'' 6 hL7).trans hbox
        have b4 : ∀ b b' b'' : Blk, (H3 ++ [b] ++ [b'] ++ [b''])[1]? = _ := fun b b' b'' => (lo3 b b' b'' 1 (by omega)).trans hcut
        have g1 : ∀ b b' b'' : Blk, (H3 ++ [b] ++ [b'] ++ [b''])[L]? = some b := fun b b' b'' => by
          rw [List.getElem?_append_left (by rw [m2]; omega), List.getElem?_append_left (by rw [m1]; omega)]; exact get_snoc hL b
        have g2 : ∀ b b' b'' : Blk, (H3 ++ [b] ++ [b'] ++ [b''])[L + 1]? = some b' := fun b b' b'' => by
          rw [List.getElem?_append_left (by rw [m2]; omega)]; exact get_snoc (m1 b) b'
        have g3 : ∀ b b' b'' : Blk, (H3 ++ [b] ++ [b'] ++ [b''])[L + 1 + 1]? = some b'' := fun b b' b'' => get_snoc (m2 b b') b''
        have hfx : decide (x.lo ≤ matOf M.m r c) = true ∧ decide (matOf M.m r c ≤ x.hi) = true := ⟨decide_eq_true fx.1, decide_eq_true fx.2⟩
        have fy : y.lo ≤ sumN cs.length (matOf M.m r) ∧ sumN cs.length (matOf M.m r) ≤ y.hi := fy
        have fz : z.lo ≤ (sumN rs.length fun i => matOf M.m i c) ∧ (sumN rs.length fun i => matOf M.m i c) ≤ z.hi := fz
        rw [e2] at fy
        rw [e1, ← lm] at fz
        have hfy : decide (y.lo ≤ sumN (firstW M.m) (matOf M.m r)) = true ∧ decide (sumN (firstW M.m) (matOf M.m r) ≤ y.hi) = true := ⟨decide_eq_true fy.1, decide_eq_true fy.2⟩
        have hfz : decide (z.lo ≤ sumN M.m.length fun i => matOf M.m i c) = true ∧ decide ((sumN M.m.length fun i => matOf M.m i c) ≤ z.hi) = true := ⟨decide_eq_true fz.1, decide_eq_true fz.2⟩
        have gr : ((sumR M.m).map (AVal.int .i64))[r]? = some (.int .i64 (sumN (firstW M.m) (matOf M.m r))) := by
          unfold sumR
          rw [List.getElem?_map, vecA_get _ (by omega)]; rfl
        have gc : ((sumC M.m).map (AVal.int .i64))[c]? = some (.int .i64 (sumN M.m.length fun i => matOf M.m i c)) := by
          unfold sumC
          rw [List.getElem?_map, vecA_get _ hc]; rfl
        obtain ⟨br, hbr⟩ : ∃ b, M.rows[r]? = some b := ⟨_, List.getElem?_eq_getElem hr⟩
        have hbrl := hw br (List.mem_of_getElem? hbr)
        have hbrz : br.sz = 1 := (hM.each br (List.mem_of_getElem? hbr)).resolve_left (fun e => by rw [e] at hbrl; simp at hbrl; omega)
        have hmr : (M.rows.map SlI.v)[r]? = some (.lit br.cl 1 (br.l.map (AVal.int .i64))) := by
          rw [List.getElem?_map, hbr]
          simp only [Option.map_some, SlI.v, hbrz]
        have hmc : (br.l.map (AVal.int .i64))[c]? = some (.int .i64 (matOf M.m r c)) := by
          obtain ⟨n, hn⟩ : ∃ n, br.l[c]? = some n := ⟨_, List.getElem?_eq_getElem (by omega)⟩
          rw [matOf_get hbr hn, List.getElem?_map, hn]; rfl
        have gs1 := fun b : Blk => get_snoc hL b
        have ss1 := fun b b' : Blk => set_snoc hL b b'
        have gs2 := fun b b' : Blk => get_snoc (m1 b) b'
        have ss2 := fun b b' b'' : Blk => set_snoc (m1 b) b' b''
        have gs3 := fun b b' b'' : Blk => get_snoc (m2 b b') b''
        have ss3 := fun b b' b'' d : Blk => set_snoc (m2 b b') b'' d
        have wrx : ∀ u w : Spn, writeAt (spV u) 0 (spV w) = some (spV w) := fun _ _ => rfl
        have w0 : decide (1 < L + 1 + 1 + 1) = true := decide_eq_true (by omega)
        have w1 : decide (6 < L + 1 + 1 + 1) = true := decide_eq_true (by omega)
        have w2 : decide (L < L + 1 + 1 + 1) = true := decide_eq_true (by omega)
        have w3 : decide (L + 1 < L + 1 + 1 + 1) = true := decide_eq_true (by omega)
        have w4 : decide (L + 1 + 1 < L + 1 + 1 + 1) = true := decide_eq_true (by omega)
        have hw0 : decide ((61 : Int) = 0) = false := rfl
        simp only [MatV.v, hMz] at q4
        simp (config := { maxSteps := 2000000 }) only [go_sem, simprocAttr, Try.f10, offB, hlr, hlc, Int.ofNat_zero, Int.natCast_zero] at hxa hxb hxc hxd
        simp (config := { maxSteps := 2000000 }) only [go_sem, simprocAttr, Try.f10, MatV.v, hMz, sc, hov, List.length_map, hRn, hm0, hb0l, d1, d2, d3, d4, d5, d6, d7]
        rw [hxa]
        simp (config := { maxSteps := 2000000 }) only [go_sem, simprocAttr, virtual, List.length_map]
        rw [hxb]
        simp (config := { maxSteps := 2000000 }) only [go_sem, simprocAttr, List.length_map, hm0, hb0l, hlr, hlc, dd]
        rw [hxc]
        simp (config := { maxSteps := 2000000 }) only [go_sem, simprocAttr, List.length_map, hlc]
        rw [hxd]
        simp (config := { maxSteps := 2000000 }) only [go_sem, simprocAttr, hbox, hL, q1, gs1, ss1, gs2, ss2, gs3, ss3, wrx, Nat.lt_add_one, Nat.zero_le, m1, b1, q2, m2, b2, q3, m3, b3, b4, g1, g2, g3, q4, q5, lk, r0, c0, Int.toNat_natCast, hmr, hmc, gr, gc, hfx, hfy, hfz, w0, w1, w2, w3, w4, dd, List.append_eq, List.cons_append, List.nil_append, List.toList_toArray]
        simp (config := { maxSteps := 2000000 }) only [go_sem, simprocAttr, unwind, modeEx, resultsOf, one]
        exact ⟨_, rfl⟩
end Go.Proofs.Ytgfejpngfikjiaa.Tidy

