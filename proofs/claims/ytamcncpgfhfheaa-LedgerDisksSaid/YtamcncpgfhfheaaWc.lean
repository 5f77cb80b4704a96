/-
  What the functions that LedgerDisks reaches compute; the law, run.
-/
import Derived.Test.YtamcncpgfhfheaaWb
import Derived.Test.YtamcncpgfhfheaaWa
import Derived.Test.YtamcncpgfhfheaaMe
import Derived.Test.YtamcncpgfhfheaaMc
set_option linter.all false
/-
  A disk of the reference: turned on again, whole; new.
-/
namespace Go.Proofs.Ytamcncpgfhfheaa.Tidy
open Go Go.IntWalk
set_option maxRecDepth 10000
set_option linter.unusedSimpArgs false

theorem copied_set (sf nw : List Sec) (h : nw.length = sf.length) {i : Nat} {s : Sec} (hs : sf[i]? = some s) : (sf.take i ++ nw.drop i).set i s = sf.take (i + 1) ++ nw.drop (i + 1) := by
  have hi := (List.getElem?_eq_some_iff.1 hs).1
  apply List.ext_getElem?
  intro j
  by_cases hj : j = i
  · subst hj
    rw [List.getElem?_set_self (by simp; omega), List.getElem?_append_left (by simp; omega), List.getElem?_take, if_pos (by omega), hs]
  · rw [List.getElem?_set_ne (fun e => hj e.symm)]
    by_cases hlt : j < i
    · rw [List.getElem?_append_left (by simp; omega), List.getElem?_append_left (by simp; omega), List.getElem?_take, List.getElem?_take, if_pos hlt, if_pos (by omega)]
    · rw [List.getElem?_append_right (by simp; omega), List.getElem?_append_right (by simp; omega), List.getElem?_drop, List.getElem?_drop]
      simp only [List.length_take]
      congr 1; omega


set_option maxHeartbeats 2000000 in
theorem copyD_loop (d : DiskS) (ga gb : Nat) (sf nw : List Sec) (hl : nw.length = sf.length) (hs60 : sf.length < 2 ^ 60) : ∀ (m i : Nat) (j1 j2 j3 j4 j5 j6 j7 j8 j10 j11 j12 j13 j14 j15 j16 j17 j18 j19 j20 j21 j22 j23 j24 j25 j26 j27 j28 j29 j30 j31 j32 j33 j34 j35 j36 j37 j38 j39 j40 j41 j42 j43 j44 j45 j46 j47 j48 j49 j50 j51 j52 j53 j54 j55 j56 j57 j58 j59 j60 j61 j62 j63 j64 j65 j66 j67 j68 j69 j70 j71 j72 j73 j74 j75 j76 j77 j78 j79 j80 j81 j82 j83 j84 j85 j86 j87 j88 j89 j90 j91 j92 j93 j94 j95 j96 j97 j98 j99 j100 j101 j102 j103 j104 j105 j106 j107 j108 j109 j110 j111 j112 j113 j114 j115 j116 j117 j118 j119 j120 j121 j122 j123 j124 j125 j126 : AVal), i + m = sf.length →
    Goes (execT env (Try.f45.at [1, 1, 1, 1, 0, 1, 0]) ⟨[.ptr 0 0 0 0, j1, j2, j3, j4, j5, j6, j7, j8, .int .i64 i, j10, j11, j12, j13, j14, j15, j16, j17, j18, j19, j20, j21, j22, j23, j24, j25, j26, j27, j28, j29, j30, j31, j32, j33, j34, j35, j36, j37, j38, j39, j40, j41, j42, j43, j44, j45, j46, j47, j48, j49, j50, j51, j52, j53, j54, j55, j56, j57, j58, j59, j60, j61, j62, j63, j64, j65, j66, j67, j68, j69, j70, j71, j72, j73, j74, j75, j76, j77, j78, j79, j80, j81, j82, j83, j84, j85, j86, j87, j88, j89, j90, j91, j92, j93, j94, j95, j96, j97, j98, j99, j100, j101, j102, j103, j104, j105, j106, j107, j108, j109, j110, j111, j112, j113, j114, j115, j116, j117, j118, j119, j120, j121, j122, j123, j124, j125, j126], [rdiskB d (.ref 1 ga 0 sf.length false) (.ref 2 gb 0 sf.length false) (.lit true 0 []), .cells ga 1 true (sf.map .str), .cells gb 1 true ((sf.take i ++ nw.drop i).map .str)], [], 0, []⟩) fun e s => e = .exit 4 ∧
      ∃ j1 j2 j3 j4 j5 j6 j7 j8 j9 j10 j11 j12 j13 j14 j15 j16 j17 j18 j19 j20 j21 j22 j23 j24 j25 j26 j27 j28 j29 j30 j31 j32 j33 j34 j35 j36 j37 j38 j39 j40 j41 j42 j43 j44 j45 j46 j47 j48 j49 j50 j51 j52 j53 j54 j55 j56 j57 j58 j59 j60 j61 j62 j63 j64 j65 j66 j67 j68 j69 j70 j71 j72 j73 j74 j75 j76 j77 j78 j79 j80 j81 j82 j83 j84 j85 j86 j87 j88 j89 j90 j91 j92 j93 j94 j95 j96 j97 j98 j99 j100 j101 j102 j103 j104 j105 j106 j107 j108 j109 j110 j111 j112 j113 j114 j115 j116 j117 j118 j119 j120 j121 j122 j123 j124 j125 j126, s = ⟨[.ptr 0 0 0 0, j1, j2, j3, j4, j5, j6, j7, j8, j9, j10, j11, j12, j13, j14, j15, j16, j17, j18, j19, j20, j21, j22, j23, j24, j25, j26, j27, j28, j29, j30, j31, j32, j33, j34, j35, j36, j37, j38, j39, j40, j41, j42, j43, j44, j45, j46, j47, j48, j49, j50, j51, j52, j53, j54, j55, j56, j57, j58, j59, j60, j61, j62, j63, j64, j65, j66, j67, j68, j69, j70, j71, j72, j73, j74, j75, j76, j77, j78, j79, j80, j81, j82, j83, j84, j85, j86, j87, j88, j89, j90, j91, j92, j93, j94, j95, j96, j97, j98, j99, j100, j101, j102, j103, j104, j105, j106, j107, j108, j109, j110, j111, j112, j113, j114, j115, j116, j117, j118, j119, j120, j121, j122, j123, j124, j125, j126], [rdiskB d (.ref 1 ga 0 sf.length false) (.ref 2 gb 0 sf.length false) (.lit true 0 []), .cells ga 1 true (sf.map .str), .cells gb 1 true (sf.map .str)], [], 0, []⟩ := by
  intro m
  induction m with
  | zero =>
    intro i j1 j2 j3 j4 j5 j6 j7 j8 j10 j11 j12 j13 j14 j15 j16 j17 j18 j19 j20 j21 j22 j23 j24 j25 j26 j27 j28 j29 j30 j31 j32 j33 j34 j35 j36 j37 j38 j39 j40 j41 j42 j43 j44 j45 j46 j47 j48 j49 j50 j51 j52 j53 j54 j55 j56 j57 j58 j59 j60 j61 j62 j63 j64 j65 j66 j67 j68 j69 j70 j71 j72 j73 j74 j75 j76 j77 j78 j79 j80 j81 j82 j83 j84 j85 j86 j87 j88 j89 j90 j91 j92 j93 j94 j95 j96 j97 j98 j99 j100 j101 j102 j103 j104 j105 j106 j107 j108 j109 j110 j111 j112 j113 j114 j115 j116 j117 j118 j119 j120 j121 j122 j123 j124 j125 j126 hi
    have hd : decide ((i : Int) < (sf.length : Int)) = false := by simp; omega
    have ht : sf.take i ++ nw.drop i = sf := by rw [List.take_of_length_le (by omega), List.drop_eq_nil_of_le (by omega), List.append_nil]
    rw [ht]
    simp only [go_sem, Nat.reduceAdd, Nat.reduceSub, Nat.reduceMul, Nat.reduceDiv, Nat.reduceMod, Nat.reducePow, Nat.reduceLeDiff, Nat.reduceLT, Nat.reduceEqDiff, Nat.reduceBEq, Nat.reduceBNe, Int.reduceAdd, Int.reduceSub, Int.reduceMul, Int.reducePow, Int.reduceLE, Int.reduceLT, Int.reduceEq, Int.reduceToNat, Int.reduceNeg, reduceCtorEq, Nat.add_zero, Nat.zero_add, beq_self_eq_true, Try.f45, rdiskB]
    rw [execT_loop]
    simp only [go_sem, Nat.reduceAdd, Nat.reduceSub, Nat.reduceMul, Nat.reduceDiv, Nat.reduceMod, Nat.reducePow, Nat.reduceLeDiff, Nat.reduceLT, Nat.reduceEqDiff, Nat.reduceBEq, Nat.reduceBNe, Int.reduceAdd, Int.reduceSub, Int.reduceMul, Int.reducePow, Int.reduceLE, Int.reduceLT, Int.reduceEq, Int.reduceToNat, Int.reduceNeg, reduceCtorEq, Nat.add_zero, Nat.zero_add, beq_self_eq_true, hd]
    exact ⟨_, _, _, _, _, _, _, _, _, _, _, _, _, _, _, _, _, _, _, _, _, _, _, _, _, _, _, _, _, _, _, _, _, _, _, _, _, _, _, _, _, _, _, _, _, _, _, _, _, _, _, _, _, _, _, _, _, _, _, _, _, _, _, _, _, _, _, _, _, _, _, _, _, _, _, _, _, _, _, _, _, _, _, _, _, _, _, _, _, _, _, _, _, _, _, _, _, _, _, _, _, _, _, _, _, _, _, _, _, _, _, _, _, _, _, _, _, _, _, _, _, _, _, _, _, _, rfl⟩
  | succ m ih =>
    intro i j1 j2 j3 j4 j5 j6 j7 j8 j10 j11 j12 j13 j14 j15 j16 j17 j18 j19 j20 j21 j22 j23 j24 j25 j26 j27 j28 j29 j30 j31 j32 j33 j34 j35 j36 j37 j38 j39 j40 j41 j42 j43 j44 j45 j46 j47 j48 j49 j50 j51 j52 j53 j54 j55 j56 j57 j58 j59 j60 j61 j62 j63 j64 j65 j66 j67 j68 j69 j70 j71 j72 j73 j74 j75 j76 j77 j78 j79 j80 j81 j82 j83 j84 j85 j86 j87 j88 j89 j90 j91 j92 j93 j94 j95 j96 j97 j98 j99 j100 j101 j102 j103 j104 j105 j106 j107 j108 j109 j110 j111 j112 j113 j114 j115 j116 j117 j118 j119 j120 j121 j122 j123 j124 j125 j126 hi
    have hd : decide ((i : Int) < (sf.length : Int)) = true := by simp; omega
    have g0 : (0 : Int) ≤ (i : Int) := by omega
    obtain ⟨s, hs, _⟩ := get_drop (show i < sf.length by omega)
    have hgs : (sf.map AVal.str)[i]? = some (.str s) := get_map hs
    have hset : ((sf.take i ++ nw.drop i).map AVal.str).set i (.str s) = (sf.take (i + 1) ++ nw.drop (i + 1)).map .str := by rw [← List.map_set, copied_set sf nw hl hs]
    obtain ⟨o, ho⟩ : ∃ o, ((sf.take i ++ nw.drop i).map AVal.str)[i]? = some (.str o) := by
      obtain ⟨o, ho, _⟩ := get_drop (show i < (sf.take i ++ nw.drop i).length by simp; omega)
      exact ⟨o, get_map ho⟩
    have ih' := ih (i + 1)
    simp only [go_sem, Nat.reduceAdd, Nat.reduceSub, Nat.reduceMul, Nat.reduceDiv, Nat.reduceMod, Nat.reducePow, Nat.reduceLeDiff, Nat.reduceLT, Nat.reduceEqDiff, Nat.reduceBEq, Nat.reduceBNe, Int.reduceAdd, Int.reduceSub, Int.reduceMul, Int.reducePow, Int.reduceLE, Int.reduceLT, Int.reduceEq, Int.reduceToNat, Int.reduceNeg, reduceCtorEq, Nat.add_zero, Nat.zero_add, beq_self_eq_true, Try.f45, rdiskB] at ih' ⊢
    generalize sf.take (i + 1) ++ nw.drop (i + 1) = Y at hset ih'
    generalize sf.take i ++ nw.drop i = X at hset ho ⊢
    rw [execT_loop]
    simp only [go_sem, Nat.reduceAdd, Nat.reduceSub, Nat.reduceMul, Nat.reduceDiv, Nat.reduceMod, Nat.reducePow, Nat.reduceLeDiff, Nat.reduceLT, Nat.reduceEqDiff, Nat.reduceBEq, Nat.reduceBNe, Int.reduceAdd, Int.reduceSub, Int.reduceMul, Int.reducePow, Int.reduceLE, Int.reduceLT, Int.reduceEq, Int.reduceToNat, Int.reduceNeg, reduceCtorEq, Nat.add_zero, Nat.zero_add, beq_self_eq_true, hd, g0, Int.toNat_natCast, hgs, ho, hset]
    rw [apart_ok]
    · simp only [go_sem, Nat.reduceAdd, Nat.reduceSub, Nat.reduceMul, Nat.reduceDiv, Nat.reduceMod, Nat.reducePow, Nat.reduceLeDiff, Nat.reduceLT, Nat.reduceEqDiff, Nat.reduceBEq, Nat.reduceBNe, Int.reduceAdd, Int.reduceSub, Int.reduceMul, Int.reducePow, Int.reduceLE, Int.reduceLT, Int.reduceEq, Int.reduceToNat, Int.reduceNeg, reduceCtorEq, Nat.add_zero, Nat.zero_add, beq_self_eq_true, wrap_succ (show i < 2 ^ 63 - 1 by omega)]
      exact ih' _ _ _ _ _ _ _ _ _ _ _ _ _ _ _ _ _ _ _ _ _ _ _ _ _ _ _ _ _ _ _ _ _ _ _ _ _ _ _ _ _ _ _ _ _ _ _ _ _ _ _ _ _ _ _ _ _ _ _ _ _ _ _ _ _ _ _ _ _ _ _ _ _ _ _ _ _ _ _ _ _ _ _ _ _ _ _ _ _ _ _ _ _ _ _ _ _ _ _ _ _ _ _ _ _ _ _ _ _ _ _ _ _ _ _ _ _ _ _ _ _ _ _ _ _ (by omega)
    · kernel_rfl

set_option maxHeartbeats 2000000 in
theorem copyW_loop (d : DiskS) (ga gb : Nat) (gc : Nat) (wr : List (Nat × Sec)) (sf nw : List Sec) (hl : nw.length = sf.length) (hs60 : sf.length < 2 ^ 60) : ∀ (m i : Nat) (j1 j2 j3 j4 j5 j6 j7 j8 j10 j11 j12 j13 j14 j15 j16 j17 j18 j19 j20 j21 j22 j23 j24 j25 j26 j27 j28 j29 j30 j31 j32 j33 j34 j35 j36 j37 j38 j39 j40 j41 j42 j43 j44 j45 j46 j47 j48 j49 j50 j51 j52 j53 j54 j55 j56 j57 j58 j59 j60 j61 j62 j63 j64 j65 j66 j67 j68 j69 j70 j71 j72 j73 j74 j75 j76 j77 j78 j79 j80 j81 j82 j83 j84 j85 j86 j87 j88 j89 j90 j91 j92 j93 j94 j95 j96 j97 j98 j99 j100 j101 j102 j103 j104 j105 j106 j107 j108 j109 j110 j111 j112 j113 j114 j115 j116 j117 j118 j119 j120 j121 j122 j123 j124 j125 j126 : AVal), i + m = sf.length →
    Goes (execT env (Try.f45.at [1, 1, 1, 1, 0, 1, 0]) ⟨[.ptr 0 0 0 0, j1, j2, j3, j4, j5, j6, j7, j8, .int .i64 i, j10, j11, j12, j13, j14, j15, j16, j17, j18, j19, j20, j21, j22, j23, j24, j25, j26, j27, j28, j29, j30, j31, j32, j33, j34, j35, j36, j37, j38, j39, j40, j41, j42, j43, j44, j45, j46, j47, j48, j49, j50, j51, j52, j53, j54, j55, j56, j57, j58, j59, j60, j61, j62, j63, j64, j65, j66, j67, j68, j69, j70, j71, j72, j73, j74, j75, j76, j77, j78, j79, j80, j81, j82, j83, j84, j85, j86, j87, j88, j89, j90, j91, j92, j93, j94, j95, j96, j97, j98, j99, j100, j101, j102, j103, j104, j105, j106, j107, j108, j109, j110, j111, j112, j113, j114, j115, j116, j117, j118, j119, j120, j121, j122, j123, j124, j125, j126], [rdiskB d (.ref 1 ga 0 sf.length false) (.ref 2 gb 0 sf.length false) (.ref 3 gc 0 wr.length false), .cells ga 1 true (sf.map .str), .cells gb 1 true ((sf.take i ++ nw.drop i).map .str), .cells gc 2 true (wr.map rwrV)], [], 0, []⟩) fun e s => e = .exit 4 ∧
      ∃ j1 j2 j3 j4 j5 j6 j7 j8 j9 j10 j11 j12 j13 j14 j15 j16 j17 j18 j19 j20 j21 j22 j23 j24 j25 j26 j27 j28 j29 j30 j31 j32 j33 j34 j35 j36 j37 j38 j39 j40 j41 j42 j43 j44 j45 j46 j47 j48 j49 j50 j51 j52 j53 j54 j55 j56 j57 j58 j59 j60 j61 j62 j63 j64 j65 j66 j67 j68 j69 j70 j71 j72 j73 j74 j75 j76 j77 j78 j79 j80 j81 j82 j83 j84 j85 j86 j87 j88 j89 j90 j91 j92 j93 j94 j95 j96 j97 j98 j99 j100 j101 j102 j103 j104 j105 j106 j107 j108 j109 j110 j111 j112 j113 j114 j115 j116 j117 j118 j119 j120 j121 j122 j123 j124 j125 j126, s = ⟨[.ptr 0 0 0 0, j1, j2, j3, j4, j5, j6, j7, j8, j9, j10, j11, j12, j13, j14, j15, j16, j17, j18, j19, j20, j21, j22, j23, j24, j25, j26, j27, j28, j29, j30, j31, j32, j33, j34, j35, j36, j37, j38, j39, j40, j41, j42, j43, j44, j45, j46, j47, j48, j49, j50, j51, j52, j53, j54, j55, j56, j57, j58, j59, j60, j61, j62, j63, j64, j65, j66, j67, j68, j69, j70, j71, j72, j73, j74, j75, j76, j77, j78, j79, j80, j81, j82, j83, j84, j85, j86, j87, j88, j89, j90, j91, j92, j93, j94, j95, j96, j97, j98, j99, j100, j101, j102, j103, j104, j105, j106, j107, j108, j109, j110, j111, j112, j113, j114, j115, j116, j117, j118, j119, j120, j121, j122, j123, j124, j125, j126], [rdiskB d (.ref 1 ga 0 sf.length false) (.ref 2 gb 0 sf.length false) (.ref 3 gc 0 wr.length false), .cells ga 1 true (sf.map .str), .cells gb 1 true (sf.map .str), .cells gc 2 true (wr.map rwrV)], [], 0, []⟩ := by
  intro m
  induction m with
  | zero =>
    intro i j1 j2 j3 j4 j5 j6 j7 j8 j10 j11 j12 j13 j14 j15 j16 j17 j18 j19 j20 j21 j22 j23 j24 j25 j26 j27 j28 j29 j30 j31 j32 j33 j34 j35 j36 j37 j38 j39 j40 j41 j42 j43 j44 j45 j46 j47 j48 j49 j50 j51 j52 j53 j54 j55 j56 j57 j58 j59 j60 j61 j62 j63 j64 j65 j66 j67 j68 j69 j70 j71 j72 j73 j74 j75 j76 j77 j78 j79 j80 j81 j82 j83 j84 j85 j86 j87 j88 j89 j90 j91 j92 j93 j94 j95 j96 j97 j98 j99 j100 j101 j102 j103 j104 j105 j106 j107 j108 j109 j110 j111 j112 j113 j114 j115 j116 j117 j118 j119 j120 j121 j122 j123 j124 j125 j126 hi
    have hd : decide ((i : Int) < (sf.length : Int)) = false := by simp; omega
    have ht : sf.take i ++ nw.drop i = sf := by rw [List.take_of_length_le (by omega), List.drop_eq_nil_of_le (by omega), List.append_nil]
    rw [ht]
    simp only [go_sem, Nat.reduceAdd, Nat.reduceSub, Nat.reduceMul, Nat.reduceDiv, Nat.reduceMod, Nat.reducePow, Nat.reduceLeDiff, Nat.reduceLT, Nat.reduceEqDiff, Nat.reduceBEq, Nat.reduceBNe, Int.reduceAdd, Int.reduceSub, Int.reduceMul, Int.reducePow, Int.reduceLE, Int.reduceLT, Int.reduceEq, Int.reduceToNat, Int.reduceNeg, reduceCtorEq, Nat.add_zero, Nat.zero_add, beq_self_eq_true, Try.f45, rdiskB]
    rw [execT_loop]
    simp only [go_sem, Nat.reduceAdd, Nat.reduceSub, Nat.reduceMul, Nat.reduceDiv, Nat.reduceMod, Nat.reducePow, Nat.reduceLeDiff, Nat.reduceLT, Nat.reduceEqDiff, Nat.reduceBEq, Nat.reduceBNe, Int.reduceAdd, Int.reduceSub, Int.reduceMul, Int.reducePow, Int.reduceLE, Int.reduceLT, Int.reduceEq, Int.reduceToNat, Int.reduceNeg, reduceCtorEq, Nat.add_zero, Nat.zero_add, beq_self_eq_true, hd]
    exact ⟨_, _, _, _, _, _, _, _, _, _, _, _, _, _, _, _, _, _, _, _, _, _, _, _, _, _, _, _, _, _, _, _, _, _, _, _, _, _, _, _, _, _, _, _, _, _, _, _, _, _, _, _, _, _, _, _, _, _, _, _, _, _, _, _, _, _, _, _, _, _, _, _, _, _, _, _, _, _, _, _, _, _, _, _, _, _, _, _, _, _, _, _, _, _, _, _, _, _, _, _, _, _, _, _, _, _, _, _, _, _, _, _, _, _, _, _, _, _, _, _, _, _, _, _, _, _, rfl⟩
  | succ m ih =>
    intro i j1 j2 j3 j4 j5 j6 j7 j8 j10 j11 j12 j13 j14 j15 j16 j17 j18 j19 j20 j21 j22 j23 j24 j25 j26 j27 j28 j29 j30 j31 j32 j33 j34 j35 j36 j37 j38 j39 j40 j41 j42 j43 j44 j45 j46 j47 j48 j49 j50 j51 j52 j53 j54 j55 j56 j57 j58 j59 j60 j61 j62 j63 j64 j65 j66 j67 j68 j69 j70 j71 j72 j73 j74 j75 j76 j77 j78 j79 j80 j81 j82 j83 j84 j85 j86 j87 j88 j89 j90 j91 j92 j93 j94 j95 j96 j97 j98 j99 j100 j101 j102 j103 j104 j105 j106 j107 j108 j109 j110 j111 j112 j113 j114 j115 j116 j117 j118 j119 j120 j121 j122 j123 j124 j125 j126 hi
    have hd : decide ((i : Int) < (sf.length : Int)) = true := by simp; omega
    have g0 : (0 : Int) ≤ (i : Int) := by omega
    obtain ⟨s, hs, _⟩ := get_drop (show i < sf.length by omega)
    have hgs : (sf.map AVal.str)[i]? = some (.str s) := get_map hs
    have hset : ((sf.take i ++ nw.drop i).map AVal.str).set i (.str s) = (sf.take (i + 1) ++ nw.drop (i + 1)).map .str := by rw [← List.map_set, copied_set sf nw hl hs]
    obtain ⟨o, ho⟩ : ∃ o, ((sf.take i ++ nw.drop i).map AVal.str)[i]? = some (.str o) := by
      obtain ⟨o, ho, _⟩ := get_drop (show i < (sf.take i ++ nw.drop i).length by simp; omega)
      exact ⟨o, get_map ho⟩
    have ih' := ih (i + 1)
    simp only [go_sem, Nat.reduceAdd, Nat.reduceSub, Nat.reduceMul, Nat.reduceDiv, Nat.reduceMod, Nat.reducePow, Nat.reduceLeDiff, Nat.reduceLT, Nat.reduceEqDiff, Nat.reduceBEq, Nat.reduceBNe, Int.reduceAdd, Int.reduceSub, Int.reduceMul, Int.reducePow, Int.reduceLE, Int.reduceLT, Int.reduceEq, Int.reduceToNat, Int.reduceNeg, reduceCtorEq, Nat.add_zero, Nat.zero_add, beq_self_eq_true, Try.f45, rdiskB] at ih' ⊢
    generalize sf.take (i + 1) ++ nw.drop (i + 1) = Y at hset ih'
    generalize sf.take i ++ nw.drop i = X at hset ho ⊢
    rw [execT_loop]
    simp only [go_sem, Nat.reduceAdd, Nat.reduceSub, Nat.reduceMul, Nat.reduceDiv, Nat.reduceMod, Nat.reducePow, Nat.reduceLeDiff, Nat.reduceLT, Nat.reduceEqDiff, Nat.reduceBEq, Nat.reduceBNe, Int.reduceAdd, Int.reduceSub, Int.reduceMul, Int.reducePow, Int.reduceLE, Int.reduceLT, Int.reduceEq, Int.reduceToNat, Int.reduceNeg, reduceCtorEq, Nat.add_zero, Nat.zero_add, beq_self_eq_true, hd, g0, Int.toNat_natCast, hgs, ho, hset]
    rw [apart_ok]
    · simp only [go_sem, Nat.reduceAdd, Nat.reduceSub, Nat.reduceMul, Nat.reduceDiv, Nat.reduceMod, Nat.reducePow, Nat.reduceLeDiff, Nat.reduceLT, Nat.reduceEqDiff, Nat.reduceBEq, Nat.reduceBNe, Int.reduceAdd, Int.reduceSub, Int.reduceMul, Int.reducePow, Int.reduceLE, Int.reduceLT, Int.reduceEq, Int.reduceToNat, Int.reduceNeg, reduceCtorEq, Nat.add_zero, Nat.zero_add, beq_self_eq_true, wrap_succ (show i < 2 ^ 63 - 1 by omega)]
      exact ih' _ _ _ _ _ _ _ _ _ _ _ _ _ _ _ _ _ _ _ _ _ _ _ _ _ _ _ _ _ _ _ _ _ _ _ _ _ _ _ _ _ _ _ _ _ _ _ _ _ _ _ _ _ _ _ _ _ _ _ _ _ _ _ _ _ _ _ _ _ _ _ _ _ _ _ _ _ _ _ _ _ _ _ _ _ _ _ _ _ _ _ _ _ _ _ _ _ _ _ _ _ _ _ _ _ _ _ _ _ _ _ _ _ _ _ _ _ _ _ _ _ _ _ _ _ (by omega)
    · kernel_rfl

theorem rcanW_storm (d : DiskS) (ga gb gc : Nat) : rcanW d ga gb gc = rstormH d d.safe.length d.now.length d.wr.length ga gb gc d.safe d.now d.wr := rfl

theorem last_nz (keep : Sec) (n : Nat) : ∀ r : Nat, (r : Int) = lastFrom keep n 0 (-1) → keep.getD r 0 ≠ 0 := by
  intro r hr
  rcases lastFrom_spec keep n 0 (-1) with h | ⟨q, h, _, _, _, h3⟩
  · omega
  · have : r = q := by omega
    subst this; exact h3

theorem last_wr (keep : Sec) (n : Nat) : lastFrom keep n 0 (-1) < n := by
  rcases lastFrom_spec keep n 0 (-1) with h | ⟨q, h, _, h2, _⟩
  · omega
  · omega


set_option maxHeartbeats 4000000 in
theorem rrestart_run (d : DiskS) (hwf : d.wf) (hwl : d.wr.length < 2 ^ 60) (keep : Sec) : ∀ C, RIsCan C d → ∃ H' F', runT env 45 [.ptr 0 0 0 0, .str keep] C 0 = some (.ret (.tuple []), H') ∧ RDiskAt H' 0 (restartD d keep) F' ∧ C.length ≤ H'.length := by
  intro C h
  rw [run_unfold fn45 rfl]
  have z0 : decide ((0 : Int) < ((0 : Nat) : Int)) = false := by decide
  have zm : decide ((0 : Int) ≤ -1) = false := by decide
  have hfew := hwf.few
  cases hdn : d.down with
  | true =>
    rcases h with ⟨hw, ga, gb, rfl⟩ | ⟨hw, ga, gb, gc, rfl⟩
    · have hsf : restartD d keep = { d with now := d.safe, wr := [], armed := 0, down := false } := by
        simp only [restartD, hw, List.length_nil, lastFrom, tornAt, hdn, if_true]
      obtain ⟨e, s, hx, rfl, hp0⟩ := copyD_loop d ga gb d.safe d.now hwf.same (by omega) d.safe.length 0 _ _ _ _ _ _ _ _ _ _ _ _ _ _ _ _ _ _ _ _ _ _ _ _ _ _ _ _ _ _ _ _ _ _ _ _ _ _ _ _ _ _ _ _ _ _ _ _ _ _ _ _ _ _ _ _ _ _ _ _ _ _ _ _ _ _ _ _ _ _ _ _ _ _ _ _ _ _ _ _ _ _ _ _ _ _ _ _ _ _ _ _ _ _ _ _ _ _ _ _ _ _ _ _ _ _ _ _ _ _ _ _ _ _ _ _ _ _ _ _ _ _ _ _ _ (by omega)
      revert hx
      have hxx := hp0
      refine Exists.elim hxx fun j1 hxx => Exists.elim hxx fun j2 hxx => Exists.elim hxx fun j3 hxx => Exists.elim hxx fun j4 hxx => Exists.elim hxx fun j5 hxx => Exists.elim hxx fun j6 hxx => Exists.elim hxx fun j7 hxx => Exists.elim hxx fun j8 hxx => Exists.elim hxx fun j9 hxx => Exists.elim hxx fun j10 hxx => Exists.elim hxx fun j11 hxx => Exists.elim hxx fun j12 hxx => Exists.elim hxx fun j13 hxx => Exists.elim hxx fun j14 hxx => Exists.elim hxx fun j15 hxx => Exists.elim hxx fun j16 hxx => Exists.elim hxx fun j17 hxx => Exists.elim hxx fun j18 hxx => Exists.elim hxx fun j19 hxx => Exists.elim hxx fun j20 hxx => Exists.elim hxx fun j21 hxx => Exists.elim hxx fun j22 hxx => Exists.elim hxx fun j23 hxx => Exists.elim hxx fun j24 hxx => Exists.elim hxx fun j25 hxx => Exists.elim hxx fun j26 hxx => Exists.elim hxx fun j27 hxx => Exists.elim hxx fun j28 hxx => Exists.elim hxx fun j29 hxx => Exists.elim hxx fun j30 hxx => Exists.elim hxx fun j31 hxx => Exists.elim hxx fun j32 hxx => Exists.elim hxx fun j33 hxx => Exists.elim hxx fun j34 hxx => Exists.elim hxx fun j35 hxx => Exists.elim hxx fun j36 hxx => Exists.elim hxx fun j37 hxx => Exists.elim hxx fun j38 hxx => Exists.elim hxx fun j39 hxx => Exists.elim hxx fun j40 hxx => Exists.elim hxx fun j41 hxx => Exists.elim hxx fun j42 hxx => Exists.elim hxx fun j43 hxx => Exists.elim hxx fun j44 hxx => Exists.elim hxx fun j45 hxx => Exists.elim hxx fun j46 hxx => Exists.elim hxx fun j47 hxx => Exists.elim hxx fun j48 hxx => Exists.elim hxx fun j49 hxx => Exists.elim hxx fun j50 hxx => Exists.elim hxx fun j51 hxx => Exists.elim hxx fun j52 hxx => Exists.elim hxx fun j53 hxx => Exists.elim hxx fun j54 hxx => Exists.elim hxx fun j55 hxx => Exists.elim hxx fun j56 hxx => Exists.elim hxx fun j57 hxx => Exists.elim hxx fun j58 hxx => Exists.elim hxx fun j59 hxx => Exists.elim hxx fun j60 hxx => Exists.elim hxx fun j61 hxx => Exists.elim hxx fun j62 hxx => Exists.elim hxx fun j63 hxx => Exists.elim hxx fun j64 hxx => Exists.elim hxx fun j65 hxx => Exists.elim hxx fun j66 hxx => Exists.elim hxx fun j67 hxx => Exists.elim hxx fun j68 hxx => Exists.elim hxx fun j69 hxx => Exists.elim hxx fun j70 hxx => Exists.elim hxx fun j71 hxx => Exists.elim hxx fun j72 hxx => Exists.elim hxx fun j73 hxx => Exists.elim hxx fun j74 hxx => Exists.elim hxx fun j75 hxx => Exists.elim hxx fun j76 hxx => Exists.elim hxx fun j77 hxx => Exists.elim hxx fun j78 hxx => Exists.elim hxx fun j79 hxx => Exists.elim hxx fun j80 hxx => Exists.elim hxx fun j81 hxx => Exists.elim hxx fun j82 hxx => Exists.elim hxx fun j83 hxx => Exists.elim hxx fun j84 hxx => Exists.elim hxx fun j85 hxx => Exists.elim hxx fun j86 hxx => Exists.elim hxx fun j87 hxx => Exists.elim hxx fun j88 hxx => Exists.elim hxx fun j89 hxx => Exists.elim hxx fun j90 hxx => Exists.elim hxx fun j91 hxx => Exists.elim hxx fun j92 hxx => Exists.elim hxx fun j93 hxx => Exists.elim hxx fun j94 hxx => Exists.elim hxx fun j95 hxx => Exists.elim hxx fun j96 hxx => Exists.elim hxx fun j97 hxx => Exists.elim hxx fun j98 hxx => Exists.elim hxx fun j99 hxx => Exists.elim hxx fun j100 hxx => Exists.elim hxx fun j101 hxx => Exists.elim hxx fun j102 hxx => Exists.elim hxx fun j103 hxx => Exists.elim hxx fun j104 hxx => Exists.elim hxx fun j105 hxx => Exists.elim hxx fun j106 hxx => Exists.elim hxx fun j107 hxx => Exists.elim hxx fun j108 hxx => Exists.elim hxx fun j109 hxx => Exists.elim hxx fun j110 hxx => Exists.elim hxx fun j111 hxx => Exists.elim hxx fun j112 hxx => Exists.elim hxx fun j113 hxx => Exists.elim hxx fun j114 hxx => Exists.elim hxx fun j115 hxx => Exists.elim hxx fun j116 hxx => Exists.elim hxx fun j117 hxx => Exists.elim hxx fun j118 hxx => Exists.elim hxx fun j119 hxx => Exists.elim hxx fun j120 hxx => Exists.elim hxx fun j121 hxx => Exists.elim hxx fun j122 hxx => Exists.elim hxx fun j123 hxx => Exists.elim hxx fun j124 hxx => Exists.elim hxx fun j125 hxx => Exists.elim hxx fun j126 hxx => ?_
      subst hxx
      intro hx
      simp only [go_sem, Nat.reduceAdd, Nat.reduceSub, Nat.reduceMul, Nat.reduceDiv, Nat.reduceMod, Nat.reducePow, Nat.reduceLeDiff, Nat.reduceLT, Nat.reduceEqDiff, Nat.reduceBEq, Nat.reduceBNe, Int.reduceAdd, Int.reduceSub, Int.reduceMul, Int.reducePow, Int.reduceLE, Int.reduceLT, Int.reduceEq, Int.reduceToNat, Int.reduceNeg, reduceCtorEq, Nat.add_zero, Nat.zero_add, beq_self_eq_true, Try.f45, Int.ofNat_zero, Int.natCast_zero, rdiskB, hdn, Bool.not_true, List.take_zero, List.nil_append, List.drop_zero, hwf.same] at hx
      simp only [go_sem, Nat.reduceAdd, Nat.reduceSub, Nat.reduceMul, Nat.reduceDiv, Nat.reduceMod, Nat.reducePow, Nat.reduceLeDiff, Nat.reduceLT, Nat.reduceEqDiff, Nat.reduceBEq, Nat.reduceBNe, Int.reduceAdd, Int.reduceSub, Int.reduceMul, Int.reducePow, Int.reduceLE, Int.reduceLT, Int.reduceEq, Int.reduceToNat, Int.reduceNeg, reduceCtorEq, Nat.add_zero, Nat.zero_add, beq_self_eq_true, Try.f45, rcanD, rdiskB, hdn, Bool.not_true, hwf.same]
      rw [execT_loop]
      simp only [go_sem, Nat.reduceAdd, Nat.reduceSub, Nat.reduceMul, Nat.reduceDiv, Nat.reduceMod, Nat.reducePow, Nat.reduceLeDiff, Nat.reduceLT, Nat.reduceEqDiff, Nat.reduceBEq, Nat.reduceBNe, Int.reduceAdd, Int.reduceSub, Int.reduceMul, Int.reducePow, Int.reduceLE, Int.reduceLT, Int.reduceEq, Int.reduceToNat, Int.reduceNeg, reduceCtorEq, Nat.add_zero, Nat.zero_add, beq_self_eq_true, z0]
      rw [execT_loop]
      simp only [go_sem, Nat.reduceAdd, Nat.reduceSub, Nat.reduceMul, Nat.reduceDiv, Nat.reduceMod, Nat.reducePow, Nat.reduceLeDiff, Nat.reduceLT, Nat.reduceEqDiff, Nat.reduceBEq, Nat.reduceBNe, Int.reduceAdd, Int.reduceSub, Int.reduceMul, Int.reducePow, Int.reduceLE, Int.reduceLT, Int.reduceEq, Int.reduceToNat, Int.reduceNeg, reduceCtorEq, Nat.add_zero, Nat.zero_add, beq_self_eq_true, zm]
      rw [hx]
      simp only [go_sem, Nat.reduceAdd, Nat.reduceSub, Nat.reduceMul, Nat.reduceDiv, Nat.reduceMod, Nat.reducePow, Nat.reduceLeDiff, Nat.reduceLT, Nat.reduceEqDiff, Nat.reduceBEq, Nat.reduceBNe, Int.reduceAdd, Int.reduceSub, Int.reduceMul, Int.reducePow, Int.reduceLE, Int.reduceLT, Int.reduceEq, Int.reduceToNat, Int.reduceNeg, reduceCtorEq, Nat.add_zero, Nat.zero_add, beq_self_eq_true, unwind, modeEx, resultsOf, one]
      rw [hsf]
      exact ⟨_, [0, 1, 2], rfl, ⟨1, ga, 2, gb, _, rfl, rfl, rfl, .inl ⟨rfl, rfl, rfl⟩, by decide⟩, Nat.le_refl 3⟩
    · have hln := tornAt_length keep (lastFrom keep d.wr.length 0 (-1)) d.wr 0 d.safe
      have hsf : restartD d keep = { d with safe := tornAt keep (lastFrom keep d.wr.length 0 (-1)) d.wr 0 d.safe, now := tornAt keep (lastFrom keep d.wr.length 0 (-1)) d.wr 0 d.safe, wr := [], armed := 0, down := false } := by
        simp only [restartD, hdn, if_true]
      obtain ⟨e, s, hx, rfl, hp0⟩ := rlast_loop keep d d.safe.length d.now.length ga gb gc d.safe d.now d.wr hwl d.wr.length 0 (-1) _ _ _ _ _ _ _ _ _ _ _ _ _ _ _ _ _ _ _ _ _ _ _ _ _ _ _ _ _ _ _ _ _ _ _ _ _ _ _ _ _ _ _ _ _ _ _ _ _ _ _ _ _ _ _ _ _ _ _ _ _ _ _ _ _ _ _ _ _ _ _ _ _ _ _ _ _ _ _ _ _ _ _ _ _ _ _ _ _ _ _ _ _ _ _ _ _ _ _ _ _ _ _ _ _ _ _ _ _ _ _ _ _ _ _ _ _ _ _ _ _ _ _ (by omega)
      revert hx
      have hxx := hp0
      refine Exists.elim hxx fun j2 hxx => Exists.elim hxx fun j3 hxx => Exists.elim hxx fun j5 hxx => Exists.elim hxx fun j6 hxx => Exists.elim hxx fun j7 hxx => Exists.elim hxx fun j8 hxx => Exists.elim hxx fun j9 hxx => Exists.elim hxx fun j10 hxx => Exists.elim hxx fun j11 hxx => Exists.elim hxx fun j12 hxx => Exists.elim hxx fun j13 hxx => Exists.elim hxx fun j14 hxx => Exists.elim hxx fun j15 hxx => Exists.elim hxx fun j16 hxx => Exists.elim hxx fun j17 hxx => Exists.elim hxx fun j18 hxx => Exists.elim hxx fun j19 hxx => Exists.elim hxx fun j20 hxx => Exists.elim hxx fun j21 hxx => Exists.elim hxx fun j22 hxx => Exists.elim hxx fun j23 hxx => Exists.elim hxx fun j24 hxx => Exists.elim hxx fun j25 hxx => Exists.elim hxx fun j26 hxx => Exists.elim hxx fun j27 hxx => Exists.elim hxx fun j28 hxx => Exists.elim hxx fun j29 hxx => Exists.elim hxx fun j30 hxx => Exists.elim hxx fun j31 hxx => Exists.elim hxx fun j32 hxx => Exists.elim hxx fun j33 hxx => Exists.elim hxx fun j34 hxx => Exists.elim hxx fun j35 hxx => Exists.elim hxx fun j36 hxx => Exists.elim hxx fun j37 hxx => Exists.elim hxx fun j38 hxx => Exists.elim hxx fun j39 hxx => Exists.elim hxx fun j40 hxx => Exists.elim hxx fun j41 hxx => Exists.elim hxx fun j42 hxx => Exists.elim hxx fun j43 hxx => Exists.elim hxx fun j44 hxx => Exists.elim hxx fun j45 hxx => Exists.elim hxx fun j46 hxx => Exists.elim hxx fun j47 hxx => Exists.elim hxx fun j48 hxx => Exists.elim hxx fun j49 hxx => Exists.elim hxx fun j50 hxx => Exists.elim hxx fun j51 hxx => Exists.elim hxx fun j52 hxx => Exists.elim hxx fun j53 hxx => Exists.elim hxx fun j54 hxx => Exists.elim hxx fun j55 hxx => Exists.elim hxx fun j56 hxx => Exists.elim hxx fun j57 hxx => Exists.elim hxx fun j58 hxx => Exists.elim hxx fun j59 hxx => Exists.elim hxx fun j60 hxx => Exists.elim hxx fun j61 hxx => Exists.elim hxx fun j62 hxx => Exists.elim hxx fun j63 hxx => Exists.elim hxx fun j64 hxx => Exists.elim hxx fun j65 hxx => Exists.elim hxx fun j66 hxx => Exists.elim hxx fun j67 hxx => Exists.elim hxx fun j68 hxx => Exists.elim hxx fun j69 hxx => Exists.elim hxx fun j70 hxx => Exists.elim hxx fun j71 hxx => Exists.elim hxx fun j72 hxx => Exists.elim hxx fun j73 hxx => Exists.elim hxx fun j74 hxx => Exists.elim hxx fun j75 hxx => Exists.elim hxx fun j76 hxx => Exists.elim hxx fun j77 hxx => Exists.elim hxx fun j78 hxx => Exists.elim hxx fun j79 hxx => Exists.elim hxx fun j80 hxx => Exists.elim hxx fun j81 hxx => Exists.elim hxx fun j82 hxx => Exists.elim hxx fun j83 hxx => Exists.elim hxx fun j84 hxx => Exists.elim hxx fun j85 hxx => Exists.elim hxx fun j86 hxx => Exists.elim hxx fun j87 hxx => Exists.elim hxx fun j88 hxx => Exists.elim hxx fun j89 hxx => Exists.elim hxx fun j90 hxx => Exists.elim hxx fun j91 hxx => Exists.elim hxx fun j92 hxx => Exists.elim hxx fun j93 hxx => Exists.elim hxx fun j94 hxx => Exists.elim hxx fun j95 hxx => Exists.elim hxx fun j96 hxx => Exists.elim hxx fun j97 hxx => Exists.elim hxx fun j98 hxx => Exists.elim hxx fun j99 hxx => Exists.elim hxx fun j100 hxx => Exists.elim hxx fun j101 hxx => Exists.elim hxx fun j102 hxx => Exists.elim hxx fun j103 hxx => Exists.elim hxx fun j104 hxx => Exists.elim hxx fun j105 hxx => Exists.elim hxx fun j106 hxx => Exists.elim hxx fun j107 hxx => Exists.elim hxx fun j108 hxx => Exists.elim hxx fun j109 hxx => Exists.elim hxx fun j110 hxx => Exists.elim hxx fun j111 hxx => Exists.elim hxx fun j112 hxx => Exists.elim hxx fun j113 hxx => Exists.elim hxx fun j114 hxx => Exists.elim hxx fun j115 hxx => Exists.elim hxx fun j116 hxx => Exists.elim hxx fun j117 hxx => Exists.elim hxx fun j118 hxx => Exists.elim hxx fun j119 hxx => Exists.elim hxx fun j120 hxx => Exists.elim hxx fun j121 hxx => Exists.elim hxx fun j122 hxx => Exists.elim hxx fun j123 hxx => Exists.elim hxx fun j124 hxx => Exists.elim hxx fun j125 hxx => Exists.elim hxx fun j126 hxx => ?_
      subst hxx
      intro hx
      obtain ⟨e, s', hy, rfl, hp1⟩ := rtorn_loop keep (lastFrom keep d.wr.length 0 (-1)) (last_lt keep _) (last_nz keep _) d d.safe.length d.now.length ga gb gc d.now d.wr (last_wr keep _) (fun w hw => (hwf.wr w hw).1) (fun w hw => (hwf.wr w hw).2) hwl d.wr.length 0 d.safe _ _ _ _ _ _ _ _ _ _ _ _ _ _ _ _ _ _ _ _ _ _ _ _ _ _ _ _ _ _ _ _ _ _ _ _ _ _ _ _ _ _ _ _ _ _ _ _ _ _ _ _ _ _ _ _ _ _ _ _ _ _ _ _ _ _ _ _ _ _ _ _ _ _ _ _ _ _ _ _ _ _ _ _ _ _ _ _ _ _ _ _ _ _ _ _ _ _ _ _ _ _ _ _ _ _ _ _ _ _ _ _ _ _ _ _ _ _ _ _ _ _ _ (by omega) rfl hwf.safe
      revert hy
      have hxx := hp1
      refine Exists.elim hxx fun k2 hxx => Exists.elim hxx fun k3 hxx => Exists.elim hxx fun k4 hxx => Exists.elim hxx fun k5 hxx => Exists.elim hxx fun k6 hxx => Exists.elim hxx fun k7 hxx => Exists.elim hxx fun k8 hxx => Exists.elim hxx fun k9 hxx => Exists.elim hxx fun k10 hxx => Exists.elim hxx fun k11 hxx => Exists.elim hxx fun k12 hxx => Exists.elim hxx fun k13 hxx => Exists.elim hxx fun k14 hxx => Exists.elim hxx fun k15 hxx => Exists.elim hxx fun k16 hxx => Exists.elim hxx fun k17 hxx => Exists.elim hxx fun k18 hxx => Exists.elim hxx fun k19 hxx => Exists.elim hxx fun k20 hxx => Exists.elim hxx fun k21 hxx => Exists.elim hxx fun k22 hxx => Exists.elim hxx fun k23 hxx => Exists.elim hxx fun k24 hxx => Exists.elim hxx fun k25 hxx => Exists.elim hxx fun k26 hxx => Exists.elim hxx fun k27 hxx => Exists.elim hxx fun k28 hxx => Exists.elim hxx fun k29 hxx => Exists.elim hxx fun k30 hxx => Exists.elim hxx fun k31 hxx => Exists.elim hxx fun k32 hxx => Exists.elim hxx fun k33 hxx => Exists.elim hxx fun k34 hxx => Exists.elim hxx fun k35 hxx => Exists.elim hxx fun k36 hxx => Exists.elim hxx fun k37 hxx => Exists.elim hxx fun k38 hxx => Exists.elim hxx fun k39 hxx => Exists.elim hxx fun k40 hxx => Exists.elim hxx fun k41 hxx => Exists.elim hxx fun k42 hxx => Exists.elim hxx fun k43 hxx => Exists.elim hxx fun k44 hxx => Exists.elim hxx fun k45 hxx => Exists.elim hxx fun k46 hxx => Exists.elim hxx fun k47 hxx => Exists.elim hxx fun k48 hxx => Exists.elim hxx fun k49 hxx => Exists.elim hxx fun k50 hxx => Exists.elim hxx fun k51 hxx => Exists.elim hxx fun k52 hxx => Exists.elim hxx fun k53 hxx => Exists.elim hxx fun k54 hxx => Exists.elim hxx fun k55 hxx => Exists.elim hxx fun k56 hxx => Exists.elim hxx fun k57 hxx => Exists.elim hxx fun k58 hxx => Exists.elim hxx fun k59 hxx => Exists.elim hxx fun k60 hxx => Exists.elim hxx fun k61 hxx => Exists.elim hxx fun k62 hxx => Exists.elim hxx fun k63 hxx => Exists.elim hxx fun k64 hxx => Exists.elim hxx fun k65 hxx => Exists.elim hxx fun k66 hxx => Exists.elim hxx fun k67 hxx => Exists.elim hxx fun k68 hxx => Exists.elim hxx fun k69 hxx => Exists.elim hxx fun k70 hxx => Exists.elim hxx fun k71 hxx => Exists.elim hxx fun k72 hxx => Exists.elim hxx fun k73 hxx => Exists.elim hxx fun k74 hxx => Exists.elim hxx fun k75 hxx => Exists.elim hxx fun k76 hxx => Exists.elim hxx fun k77 hxx => Exists.elim hxx fun k78 hxx => Exists.elim hxx fun k79 hxx => Exists.elim hxx fun k80 hxx => Exists.elim hxx fun k81 hxx => Exists.elim hxx fun k82 hxx => Exists.elim hxx fun k83 hxx => Exists.elim hxx fun k84 hxx => Exists.elim hxx fun k85 hxx => Exists.elim hxx fun k86 hxx => Exists.elim hxx fun k87 hxx => Exists.elim hxx fun k88 hxx => Exists.elim hxx fun k89 hxx => Exists.elim hxx fun k90 hxx => Exists.elim hxx fun k91 hxx => Exists.elim hxx fun k92 hxx => Exists.elim hxx fun k93 hxx => Exists.elim hxx fun k94 hxx => Exists.elim hxx fun k95 hxx => Exists.elim hxx fun k96 hxx => Exists.elim hxx fun k97 hxx => Exists.elim hxx fun k98 hxx => Exists.elim hxx fun k99 hxx => Exists.elim hxx fun k100 hxx => Exists.elim hxx fun k101 hxx => Exists.elim hxx fun k102 hxx => Exists.elim hxx fun k103 hxx => Exists.elim hxx fun k104 hxx => Exists.elim hxx fun k105 hxx => Exists.elim hxx fun k106 hxx => Exists.elim hxx fun k107 hxx => Exists.elim hxx fun k108 hxx => Exists.elim hxx fun k109 hxx => Exists.elim hxx fun k110 hxx => Exists.elim hxx fun k111 hxx => Exists.elim hxx fun k112 hxx => Exists.elim hxx fun k113 hxx => Exists.elim hxx fun k114 hxx => Exists.elim hxx fun k115 hxx => Exists.elim hxx fun k116 hxx => Exists.elim hxx fun k117 hxx => Exists.elim hxx fun k118 hxx => Exists.elim hxx fun k119 hxx => Exists.elim hxx fun k120 hxx => Exists.elim hxx fun k121 hxx => Exists.elim hxx fun k122 hxx => Exists.elim hxx fun k123 hxx => Exists.elim hxx fun k124 hxx => Exists.elim hxx fun k125 hxx => Exists.elim hxx fun k126 hxx => ?_
      subst hxx
      intro hy
      obtain ⟨e, s'', hz, rfl, hp2⟩ := copyW_loop d ga gb gc d.wr (tornAt keep (lastFrom keep d.wr.length 0 (-1)) d.wr 0 d.safe) d.now (by rw [hln]; exact hwf.same) (by omega) d.safe.length 0 _ _ _ _ _ _ _ _ _ _ _ _ _ _ _ _ _ _ _ _ _ _ _ _ _ _ _ _ _ _ _ _ _ _ _ _ _ _ _ _ _ _ _ _ _ _ _ _ _ _ _ _ _ _ _ _ _ _ _ _ _ _ _ _ _ _ _ _ _ _ _ _ _ _ _ _ _ _ _ _ _ _ _ _ _ _ _ _ _ _ _ _ _ _ _ _ _ _ _ _ _ _ _ _ _ _ _ _ _ _ _ _ _ _ _ _ _ _ _ _ _ _ _ _ _ (by omega)
      revert hz
      have hxx := hp2
      refine Exists.elim hxx fun l1 hxx => Exists.elim hxx fun l2 hxx => Exists.elim hxx fun l3 hxx => Exists.elim hxx fun l4 hxx => Exists.elim hxx fun l5 hxx => Exists.elim hxx fun l6 hxx => Exists.elim hxx fun l7 hxx => Exists.elim hxx fun l8 hxx => Exists.elim hxx fun l9 hxx => Exists.elim hxx fun l10 hxx => Exists.elim hxx fun l11 hxx => Exists.elim hxx fun l12 hxx => Exists.elim hxx fun l13 hxx => Exists.elim hxx fun l14 hxx => Exists.elim hxx fun l15 hxx => Exists.elim hxx fun l16 hxx => Exists.elim hxx fun l17 hxx => Exists.elim hxx fun l18 hxx => Exists.elim hxx fun l19 hxx => Exists.elim hxx fun l20 hxx => Exists.elim hxx fun l21 hxx => Exists.elim hxx fun l22 hxx => Exists.elim hxx fun l23 hxx => Exists.elim hxx fun l24 hxx => Exists.elim hxx fun l25 hxx => Exists.elim hxx fun l26 hxx => Exists.elim hxx fun l27 hxx => Exists.elim hxx fun l28 hxx => Exists.elim hxx fun l29 hxx => Exists.elim hxx fun l30 hxx => Exists.elim hxx fun l31 hxx => Exists.elim hxx fun l32 hxx => Exists.elim hxx fun l33 hxx => Exists.elim hxx fun l34 hxx => Exists.elim hxx fun l35 hxx => Exists.elim hxx fun l36 hxx => Exists.elim hxx fun l37 hxx => Exists.elim hxx fun l38 hxx => Exists.elim hxx fun l39 hxx => Exists.elim hxx fun l40 hxx => Exists.elim hxx fun l41 hxx => Exists.elim hxx fun l42 hxx => Exists.elim hxx fun l43 hxx => Exists.elim hxx fun l44 hxx => Exists.elim hxx fun l45 hxx => Exists.elim hxx fun l46 hxx => Exists.elim hxx fun l47 hxx => Exists.elim hxx fun l48 hxx => Exists.elim hxx fun l49 hxx => Exists.elim hxx fun l50 hxx => Exists.elim hxx fun l51 hxx => Exists.elim hxx fun l52 hxx => Exists.elim hxx fun l53 hxx => Exists.elim hxx fun l54 hxx => Exists.elim hxx fun l55 hxx => Exists.elim hxx fun l56 hxx => Exists.elim hxx fun l57 hxx => Exists.elim hxx fun l58 hxx => Exists.elim hxx fun l59 hxx => Exists.elim hxx fun l60 hxx => Exists.elim hxx fun l61 hxx => Exists.elim hxx fun l62 hxx => Exists.elim hxx fun l63 hxx => Exists.elim hxx fun l64 hxx => Exists.elim hxx fun l65 hxx => Exists.elim hxx fun l66 hxx => Exists.elim hxx fun l67 hxx => Exists.elim hxx fun l68 hxx => Exists.elim hxx fun l69 hxx => Exists.elim hxx fun l70 hxx => Exists.elim hxx fun l71 hxx => Exists.elim hxx fun l72 hxx => Exists.elim hxx fun l73 hxx => Exists.elim hxx fun l74 hxx => Exists.elim hxx fun l75 hxx => Exists.elim hxx fun l76 hxx => Exists.elim hxx fun l77 hxx => Exists.elim hxx fun l78 hxx => Exists.elim hxx fun l79 hxx => Exists.elim hxx fun l80 hxx => Exists.elim hxx fun l81 hxx => Exists.elim hxx fun l82 hxx => Exists.elim hxx fun l83 hxx => Exists.elim hxx fun l84 hxx => Exists.elim hxx fun l85 hxx => Exists.elim hxx fun l86 hxx => Exists.elim hxx fun l87 hxx => Exists.elim hxx fun l88 hxx => Exists.elim hxx fun l89 hxx => Exists.elim hxx fun l90 hxx => Exists.elim hxx fun l91 hxx => Exists.elim hxx fun l92 hxx => Exists.elim hxx fun l93 hxx => Exists.elim hxx fun l94 hxx => Exists.elim hxx fun l95 hxx => Exists.elim hxx fun l96 hxx => Exists.elim hxx fun l97 hxx => Exists.elim hxx fun l98 hxx => Exists.elim hxx fun l99 hxx => Exists.elim hxx fun l100 hxx => Exists.elim hxx fun l101 hxx => Exists.elim hxx fun l102 hxx => Exists.elim hxx fun l103 hxx => Exists.elim hxx fun l104 hxx => Exists.elim hxx fun l105 hxx => Exists.elim hxx fun l106 hxx => Exists.elim hxx fun l107 hxx => Exists.elim hxx fun l108 hxx => Exists.elim hxx fun l109 hxx => Exists.elim hxx fun l110 hxx => Exists.elim hxx fun l111 hxx => Exists.elim hxx fun l112 hxx => Exists.elim hxx fun l113 hxx => Exists.elim hxx fun l114 hxx => Exists.elim hxx fun l115 hxx => Exists.elim hxx fun l116 hxx => Exists.elim hxx fun l117 hxx => Exists.elim hxx fun l118 hxx => Exists.elim hxx fun l119 hxx => Exists.elim hxx fun l120 hxx => Exists.elim hxx fun l121 hxx => Exists.elim hxx fun l122 hxx => Exists.elim hxx fun l123 hxx => Exists.elim hxx fun l124 hxx => Exists.elim hxx fun l125 hxx => Exists.elim hxx fun l126 hxx => ?_
      subst hxx
      intro hz
      simp only [go_sem, Nat.reduceAdd, Nat.reduceSub, Nat.reduceMul, Nat.reduceDiv, Nat.reduceMod, Nat.reducePow, Nat.reduceLeDiff, Nat.reduceLT, Nat.reduceEqDiff, Nat.reduceBEq, Nat.reduceBNe, Int.reduceAdd, Int.reduceSub, Int.reduceMul, Int.reducePow, Int.reduceLE, Int.reduceLT, Int.reduceEq, Int.reduceToNat, Int.reduceNeg, reduceCtorEq, Nat.add_zero, Nat.zero_add, beq_self_eq_true, Try.f45, Int.ofNat_zero, Int.natCast_zero, rstormH, rdiskB, hdn, Bool.not_true, List.drop_zero, List.take_zero, List.nil_append, hwf.same, hln] at hx hy hz
      simp only [go_sem, Nat.reduceAdd, Nat.reduceSub, Nat.reduceMul, Nat.reduceDiv, Nat.reduceMod, Nat.reducePow, Nat.reduceLeDiff, Nat.reduceLT, Nat.reduceEqDiff, Nat.reduceBEq, Nat.reduceBNe, Int.reduceAdd, Int.reduceSub, Int.reduceMul, Int.reducePow, Int.reduceLE, Int.reduceLT, Int.reduceEq, Int.reduceToNat, Int.reduceNeg, reduceCtorEq, Nat.add_zero, Nat.zero_add, beq_self_eq_true, Try.f45, rcanW, rdiskB, hdn, Bool.not_true, hwf.same]
      rw [hx]
      simp only [go_sem, Nat.reduceAdd, Nat.reduceSub, Nat.reduceMul, Nat.reduceDiv, Nat.reduceMod, Nat.reducePow, Nat.reduceLeDiff, Nat.reduceLT, Nat.reduceEqDiff, Nat.reduceBEq, Nat.reduceBNe, Int.reduceAdd, Int.reduceSub, Int.reduceMul, Int.reducePow, Int.reduceLE, Int.reduceLT, Int.reduceEq, Int.reduceToNat, Int.reduceNeg, reduceCtorEq, Nat.add_zero, Nat.zero_add, beq_self_eq_true]
      rw [hy]
      simp only [go_sem, Nat.reduceAdd, Nat.reduceSub, Nat.reduceMul, Nat.reduceDiv, Nat.reduceMod, Nat.reducePow, Nat.reduceLeDiff, Nat.reduceLT, Nat.reduceEqDiff, Nat.reduceBEq, Nat.reduceBNe, Int.reduceAdd, Int.reduceSub, Int.reduceMul, Int.reducePow, Int.reduceLE, Int.reduceLT, Int.reduceEq, Int.reduceToNat, Int.reduceNeg, reduceCtorEq, Nat.add_zero, Nat.zero_add, beq_self_eq_true]
      rw [hz]
      simp only [go_sem, Nat.reduceAdd, Nat.reduceSub, Nat.reduceMul, Nat.reduceDiv, Nat.reduceMod, Nat.reducePow, Nat.reduceLeDiff, Nat.reduceLT, Nat.reduceEqDiff, Nat.reduceBEq, Nat.reduceBNe, Int.reduceAdd, Int.reduceSub, Int.reduceMul, Int.reducePow, Int.reduceLE, Int.reduceLT, Int.reduceEq, Int.reduceToNat, Int.reduceNeg, reduceCtorEq, Nat.add_zero, Nat.zero_add, beq_self_eq_true, unwind, modeEx, resultsOf, one]
      rw [hsf]
      refine ⟨_, [0, 1, 2], rfl, ⟨1, ga, 2, gb, _, ?_, rfl, rfl, .inl ⟨rfl, rfl, rfl⟩, by decide⟩, Nat.le_refl 4⟩
      simp only [List.getElem?_cons_zero, rdiskB, hln]
      rfl
  | false =>
    rcases h with ⟨hw, ga, gb, rfl⟩ | ⟨hw, ga, gb, gc, rfl⟩
    · have hsf : restartD d keep = { d with now := d.safe, wr := [], armed := 0, down := false, falls := IntKind.i64.wrap (d.falls + 1) } := by
        simp only [restartD, hw, List.length_nil, lastFrom, tornAt, hdn, Bool.false_eq_true, if_false]
      obtain ⟨e, s, hx, rfl, hp0⟩ := copyD_loop { d with falls := IntKind.i64.wrap (d.falls + 1) } ga gb d.safe d.now hwf.same (by omega) d.safe.length 0 _ _ _ _ _ _ _ _ _ _ _ _ _ _ _ _ _ _ _ _ _ _ _ _ _ _ _ _ _ _ _ _ _ _ _ _ _ _ _ _ _ _ _ _ _ _ _ _ _ _ _ _ _ _ _ _ _ _ _ _ _ _ _ _ _ _ _ _ _ _ _ _ _ _ _ _ _ _ _ _ _ _ _ _ _ _ _ _ _ _ _ _ _ _ _ _ _ _ _ _ _ _ _ _ _ _ _ _ _ _ _ _ _ _ _ _ _ _ _ _ _ _ _ _ _ (by omega)
      revert hx
      have hxx := hp0
      refine Exists.elim hxx fun j1 hxx => Exists.elim hxx fun j2 hxx => Exists.elim hxx fun j3 hxx => Exists.elim hxx fun j4 hxx => Exists.elim hxx fun j5 hxx => Exists.elim hxx fun j6 hxx => Exists.elim hxx fun j7 hxx => Exists.elim hxx fun j8 hxx => Exists.elim hxx fun j9 hxx => Exists.elim hxx fun j10 hxx => Exists.elim hxx fun j11 hxx => Exists.elim hxx fun j12 hxx => Exists.elim hxx fun j13 hxx => Exists.elim hxx fun j14 hxx => Exists.elim hxx fun j15 hxx => Exists.elim hxx fun j16 hxx => Exists.elim hxx fun j17 hxx => Exists.elim hxx fun j18 hxx => Exists.elim hxx fun j19 hxx => Exists.elim hxx fun j20 hxx => Exists.elim hxx fun j21 hxx => Exists.elim hxx fun j22 hxx => Exists.elim hxx fun j23 hxx => Exists.elim hxx fun j24 hxx => Exists.elim hxx fun j25 hxx => Exists.elim hxx fun j26 hxx => Exists.elim hxx fun j27 hxx => Exists.elim hxx fun j28 hxx => Exists.elim hxx fun j29 hxx => Exists.elim hxx fun j30 hxx => Exists.elim hxx fun j31 hxx => Exists.elim hxx fun j32 hxx => Exists.elim hxx fun j33 hxx => Exists.elim hxx fun j34 hxx => Exists.elim hxx fun j35 hxx => Exists.elim hxx fun j36 hxx => Exists.elim hxx fun j37 hxx => Exists.elim hxx fun j38 hxx => Exists.elim hxx fun j39 hxx => Exists.elim hxx fun j40 hxx => Exists.elim hxx fun j41 hxx => Exists.elim hxx fun j42 hxx => Exists.elim hxx fun j43 hxx => Exists.elim hxx fun j44 hxx => Exists.elim hxx fun j45 hxx => Exists.elim hxx fun j46 hxx => Exists.elim hxx fun j47 hxx => Exists.elim hxx fun j48 hxx => Exists.elim hxx fun j49 hxx => Exists.elim hxx fun j50 hxx => Exists.elim hxx fun j51 hxx => Exists.elim hxx fun j52 hxx => Exists.elim hxx fun j53 hxx => Exists.elim hxx fun j54 hxx => Exists.elim hxx fun j55 hxx => Exists.elim hxx fun j56 hxx => Exists.elim hxx fun j57 hxx => Exists.elim hxx fun j58 hxx => Exists.elim hxx fun j59 hxx => Exists.elim hxx fun j60 hxx => Exists.elim hxx fun j61 hxx => Exists.elim hxx fun j62 hxx => Exists.elim hxx fun j63 hxx => Exists.elim hxx fun j64 hxx => Exists.elim hxx fun j65 hxx => Exists.elim hxx fun j66 hxx => Exists.elim hxx fun j67 hxx => Exists.elim hxx fun j68 hxx => Exists.elim hxx fun j69 hxx => Exists.elim hxx fun j70 hxx => Exists.elim hxx fun j71 hxx => Exists.elim hxx fun j72 hxx => Exists.elim hxx fun j73 hxx => Exists.elim hxx fun j74 hxx => Exists.elim hxx fun j75 hxx => Exists.elim hxx fun j76 hxx => Exists.elim hxx fun j77 hxx => Exists.elim hxx fun j78 hxx => Exists.elim hxx fun j79 hxx => Exists.elim hxx fun j80 hxx => Exists.elim hxx fun j81 hxx => Exists.elim hxx fun j82 hxx => Exists.elim hxx fun j83 hxx => Exists.elim hxx fun j84 hxx => Exists.elim hxx fun j85 hxx => Exists.elim hxx fun j86 hxx => Exists.elim hxx fun j87 hxx => Exists.elim hxx fun j88 hxx => Exists.elim hxx fun j89 hxx => Exists.elim hxx fun j90 hxx => Exists.elim hxx fun j91 hxx => Exists.elim hxx fun j92 hxx => Exists.elim hxx fun j93 hxx => Exists.elim hxx fun j94 hxx => Exists.elim hxx fun j95 hxx => Exists.elim hxx fun j96 hxx => Exists.elim hxx fun j97 hxx => Exists.elim hxx fun j98 hxx => Exists.elim hxx fun j99 hxx => Exists.elim hxx fun j100 hxx => Exists.elim hxx fun j101 hxx => Exists.elim hxx fun j102 hxx => Exists.elim hxx fun j103 hxx => Exists.elim hxx fun j104 hxx => Exists.elim hxx fun j105 hxx => Exists.elim hxx fun j106 hxx => Exists.elim hxx fun j107 hxx => Exists.elim hxx fun j108 hxx => Exists.elim hxx fun j109 hxx => Exists.elim hxx fun j110 hxx => Exists.elim hxx fun j111 hxx => Exists.elim hxx fun j112 hxx => Exists.elim hxx fun j113 hxx => Exists.elim hxx fun j114 hxx => Exists.elim hxx fun j115 hxx => Exists.elim hxx fun j116 hxx => Exists.elim hxx fun j117 hxx => Exists.elim hxx fun j118 hxx => Exists.elim hxx fun j119 hxx => Exists.elim hxx fun j120 hxx => Exists.elim hxx fun j121 hxx => Exists.elim hxx fun j122 hxx => Exists.elim hxx fun j123 hxx => Exists.elim hxx fun j124 hxx => Exists.elim hxx fun j125 hxx => Exists.elim hxx fun j126 hxx => ?_
      subst hxx
      intro hx
      simp only [go_sem, Nat.reduceAdd, Nat.reduceSub, Nat.reduceMul, Nat.reduceDiv, Nat.reduceMod, Nat.reducePow, Nat.reduceLeDiff, Nat.reduceLT, Nat.reduceEqDiff, Nat.reduceBEq, Nat.reduceBNe, Int.reduceAdd, Int.reduceSub, Int.reduceMul, Int.reducePow, Int.reduceLE, Int.reduceLT, Int.reduceEq, Int.reduceToNat, Int.reduceNeg, reduceCtorEq, Nat.add_zero, Nat.zero_add, beq_self_eq_true, Try.f45, Int.ofNat_zero, Int.natCast_zero, rdiskB, hdn, Bool.not_false, List.take_zero, List.nil_append, List.drop_zero, hwf.same] at hx
      simp only [go_sem, Nat.reduceAdd, Nat.reduceSub, Nat.reduceMul, Nat.reduceDiv, Nat.reduceMod, Nat.reducePow, Nat.reduceLeDiff, Nat.reduceLT, Nat.reduceEqDiff, Nat.reduceBEq, Nat.reduceBNe, Int.reduceAdd, Int.reduceSub, Int.reduceMul, Int.reducePow, Int.reduceLE, Int.reduceLT, Int.reduceEq, Int.reduceToNat, Int.reduceNeg, reduceCtorEq, Nat.add_zero, Nat.zero_add, beq_self_eq_true, Try.f45, rcanD, rdiskB, hdn, Bool.not_false, hwf.same]
      rw [execT_loop]
      simp only [go_sem, Nat.reduceAdd, Nat.reduceSub, Nat.reduceMul, Nat.reduceDiv, Nat.reduceMod, Nat.reducePow, Nat.reduceLeDiff, Nat.reduceLT, Nat.reduceEqDiff, Nat.reduceBEq, Nat.reduceBNe, Int.reduceAdd, Int.reduceSub, Int.reduceMul, Int.reducePow, Int.reduceLE, Int.reduceLT, Int.reduceEq, Int.reduceToNat, Int.reduceNeg, reduceCtorEq, Nat.add_zero, Nat.zero_add, beq_self_eq_true, z0]
      rw [execT_loop]
      simp only [go_sem, Nat.reduceAdd, Nat.reduceSub, Nat.reduceMul, Nat.reduceDiv, Nat.reduceMod, Nat.reducePow, Nat.reduceLeDiff, Nat.reduceLT, Nat.reduceEqDiff, Nat.reduceBEq, Nat.reduceBNe, Int.reduceAdd, Int.reduceSub, Int.reduceMul, Int.reducePow, Int.reduceLE, Int.reduceLT, Int.reduceEq, Int.reduceToNat, Int.reduceNeg, reduceCtorEq, Nat.add_zero, Nat.zero_add, beq_self_eq_true, zm]
      rw [hx]
      simp only [go_sem, Nat.reduceAdd, Nat.reduceSub, Nat.reduceMul, Nat.reduceDiv, Nat.reduceMod, Nat.reducePow, Nat.reduceLeDiff, Nat.reduceLT, Nat.reduceEqDiff, Nat.reduceBEq, Nat.reduceBNe, Int.reduceAdd, Int.reduceSub, Int.reduceMul, Int.reducePow, Int.reduceLE, Int.reduceLT, Int.reduceEq, Int.reduceToNat, Int.reduceNeg, reduceCtorEq, Nat.add_zero, Nat.zero_add, beq_self_eq_true, unwind, modeEx, resultsOf, one]
      rw [hsf]
      exact ⟨_, [0, 1, 2], rfl, ⟨1, ga, 2, gb, _, rfl, rfl, rfl, .inl ⟨rfl, rfl, rfl⟩, by decide⟩, Nat.le_refl 3⟩
    · have hln := tornAt_length keep (lastFrom keep d.wr.length 0 (-1)) d.wr 0 d.safe
      have hsf : restartD d keep = { d with safe := tornAt keep (lastFrom keep d.wr.length 0 (-1)) d.wr 0 d.safe, now := tornAt keep (lastFrom keep d.wr.length 0 (-1)) d.wr 0 d.safe, wr := [], armed := 0, down := false, falls := IntKind.i64.wrap (d.falls + 1) } := by
        simp only [restartD, hdn, Bool.false_eq_true, if_false]
      obtain ⟨e, s, hx, rfl, hp0⟩ := rlast_loop keep { d with falls := IntKind.i64.wrap (d.falls + 1) } d.safe.length d.now.length ga gb gc d.safe d.now d.wr hwl d.wr.length 0 (-1) _ _ _ _ _ _ _ _ _ _ _ _ _ _ _ _ _ _ _ _ _ _ _ _ _ _ _ _ _ _ _ _ _ _ _ _ _ _ _ _ _ _ _ _ _ _ _ _ _ _ _ _ _ _ _ _ _ _ _ _ _ _ _ _ _ _ _ _ _ _ _ _ _ _ _ _ _ _ _ _ _ _ _ _ _ _ _ _ _ _ _ _ _ _ _ _ _ _ _ _ _ _ _ _ _ _ _ _ _ _ _ _ _ _ _ _ _ _ _ _ _ _ _ (by omega)
      revert hx
      have hxx := hp0
      refine Exists.elim hxx fun j2 hxx => Exists.elim hxx fun j3 hxx => Exists.elim hxx fun j5 hxx => Exists.elim hxx fun j6 hxx => Exists.elim hxx fun j7 hxx => Exists.elim hxx fun j8 hxx => Exists.elim hxx fun j9 hxx => Exists.elim hxx fun j10 hxx => Exists.elim hxx fun j11 hxx => Exists.elim hxx fun j12 hxx => Exists.elim hxx fun j13 hxx => Exists.elim hxx fun j14 hxx => Exists.elim hxx fun j15 hxx => Exists.elim hxx fun j16 hxx => Exists.elim hxx fun j17 hxx => Exists.elim hxx fun j18 hxx => Exists.elim hxx fun j19 hxx => Exists.elim hxx fun j20 hxx => Exists.elim hxx fun j21 hxx => Exists.elim hxx fun j22 hxx => Exists.elim hxx fun j23 hxx => Exists.elim hxx fun j24 hxx => Exists.elim hxx fun j25 hxx => Exists.elim hxx fun j26 hxx => Exists.elim hxx fun j27 hxx => Exists.elim hxx fun j28 hxx => Exists.elim hxx fun j29 hxx => Exists.elim hxx fun j30 hxx => Exists.elim hxx fun j31 hxx => Exists.elim hxx fun j32 hxx => Exists.elim hxx fun j33 hxx => Exists.elim hxx fun j34 hxx => Exists.elim hxx fun j35 hxx => Exists.elim hxx fun j36 hxx => Exists.elim hxx fun j37 hxx => Exists.elim hxx fun j38 hxx => Exists.elim hxx fun j39 hxx => Exists.elim hxx fun j40 hxx => Exists.elim hxx fun j41 hxx => Exists.elim hxx fun j42 hxx => Exists.elim hxx fun j43 hxx => Exists.elim hxx fun j44 hxx => Exists.elim hxx fun j45 hxx => Exists.elim hxx fun j46 hxx => Exists.elim hxx fun j47 hxx => Exists.elim hxx fun j48 hxx => Exists.elim hxx fun j49 hxx => Exists.elim hxx fun j50 hxx => Exists.elim hxx fun j51 hxx => Exists.elim hxx fun j52 hxx => Exists.elim hxx fun j53 hxx => Exists.elim hxx fun j54 hxx => Exists.elim hxx fun j55 hxx => Exists.elim hxx fun j56 hxx => Exists.elim hxx fun j57 hxx => Exists.elim hxx fun j58 hxx => Exists.elim hxx fun j59 hxx => Exists.elim hxx fun j60 hxx => Exists.elim hxx fun j61 hxx => Exists.elim hxx fun j62 hxx => Exists.elim hxx fun j63 hxx => Exists.elim hxx fun j64 hxx => Exists.elim hxx fun j65 hxx => Exists.elim hxx fun j66 hxx => Exists.elim hxx fun j67 hxx => Exists.elim hxx fun j68 hxx => Exists.elim hxx fun j69 hxx => Exists.elim hxx fun j70 hxx => Exists.elim hxx fun j71 hxx => Exists.elim hxx fun j72 hxx => Exists.elim hxx fun j73 hxx => Exists.elim hxx fun j74 hxx => Exists.elim hxx fun j75 hxx => Exists.elim hxx fun j76 hxx => Exists.elim hxx fun j77 hxx => Exists.elim hxx fun j78 hxx => Exists.elim hxx fun j79 hxx => Exists.elim hxx fun j80 hxx => Exists.elim hxx fun j81 hxx => Exists.elim hxx fun j82 hxx => Exists.elim hxx fun j83 hxx => Exists.elim hxx fun j84 hxx => Exists.elim hxx fun j85 hxx => Exists.elim hxx fun j86 hxx => Exists.elim hxx fun j87 hxx => Exists.elim hxx fun j88 hxx => Exists.elim hxx fun j89 hxx => Exists.elim hxx fun j90 hxx => Exists.elim hxx fun j91 hxx => Exists.elim hxx fun j92 hxx => Exists.elim hxx fun j93 hxx => Exists.elim hxx fun j94 hxx => Exists.elim hxx fun j95 hxx => Exists.elim hxx fun j96 hxx => Exists.elim hxx fun j97 hxx => Exists.elim hxx fun j98 hxx => Exists.elim hxx fun j99 hxx => Exists.elim hxx fun j100 hxx => Exists.elim hxx fun j101 hxx => Exists.elim hxx fun j102 hxx => Exists.elim hxx fun j103 hxx => Exists.elim hxx fun j104 hxx => Exists.elim hxx fun j105 hxx => Exists.elim hxx fun j106 hxx => Exists.elim hxx fun j107 hxx => Exists.elim hxx fun j108 hxx => Exists.elim hxx fun j109 hxx => Exists.elim hxx fun j110 hxx => Exists.elim hxx fun j111 hxx => Exists.elim hxx fun j112 hxx => Exists.elim hxx fun j113 hxx => Exists.elim hxx fun j114 hxx => Exists.elim hxx fun j115 hxx => Exists.elim hxx fun j116 hxx => Exists.elim hxx fun j117 hxx => Exists.elim hxx fun j118 hxx => Exists.elim hxx fun j119 hxx => Exists.elim hxx fun j120 hxx => Exists.elim hxx fun j121 hxx => Exists.elim hxx fun j122 hxx => Exists.elim hxx fun j123 hxx => Exists.elim hxx fun j124 hxx => Exists.elim hxx fun j125 hxx => Exists.elim hxx fun j126 hxx => ?_
      subst hxx
      intro hx
      obtain ⟨e, s', hy, rfl, hp1⟩ := rtorn_loop keep (lastFrom keep d.wr.length 0 (-1)) (last_lt keep _) (last_nz keep _) { d with falls := IntKind.i64.wrap (d.falls + 1) } d.safe.length d.now.length ga gb gc d.now d.wr (last_wr keep _) (fun w hw => (hwf.wr w hw).1) (fun w hw => (hwf.wr w hw).2) hwl d.wr.length 0 d.safe _ _ _ _ _ _ _ _ _ _ _ _ _ _ _ _ _ _ _ _ _ _ _ _ _ _ _ _ _ _ _ _ _ _ _ _ _ _ _ _ _ _ _ _ _ _ _ _ _ _ _ _ _ _ _ _ _ _ _ _ _ _ _ _ _ _ _ _ _ _ _ _ _ _ _ _ _ _ _ _ _ _ _ _ _ _ _ _ _ _ _ _ _ _ _ _ _ _ _ _ _ _ _ _ _ _ _ _ _ _ _ _ _ _ _ _ _ _ _ _ _ _ _ (by omega) rfl hwf.safe
      revert hy
      have hxx := hp1
      refine Exists.elim hxx fun k2 hxx => Exists.elim hxx fun k3 hxx => Exists.elim hxx fun k4 hxx => Exists.elim hxx fun k5 hxx => Exists.elim hxx fun k6 hxx => Exists.elim hxx fun k7 hxx => Exists.elim hxx fun k8 hxx => Exists.elim hxx fun k9 hxx => Exists.elim hxx fun k10 hxx => Exists.elim hxx fun k11 hxx => Exists.elim hxx fun k12 hxx => Exists.elim hxx fun k13 hxx => Exists.elim hxx fun k14 hxx => Exists.elim hxx fun k15 hxx => Exists.elim hxx fun k16 hxx => Exists.elim hxx fun k17 hxx => Exists.elim hxx fun k18 hxx => Exists.elim hxx fun k19 hxx => Exists.elim hxx fun k20 hxx => Exists.elim hxx fun k21 hxx => Exists.elim hxx fun k22 hxx => Exists.elim hxx fun k23 hxx => Exists.elim hxx fun k24 hxx => Exists.elim hxx fun k25 hxx => Exists.elim hxx fun k26 hxx => Exists.elim hxx fun k27 hxx => Exists.elim hxx fun k28 hxx => Exists.elim hxx fun k29 hxx => Exists.elim hxx fun k30 hxx => Exists.elim hxx fun k31 hxx => Exists.elim hxx fun k32 hxx => Exists.elim hxx fun k33 hxx => Exists.elim hxx fun k34 hxx => Exists.elim hxx fun k35 hxx => Exists.elim hxx fun k36 hxx => Exists.elim hxx fun k37 hxx => Exists.elim hxx fun k38 hxx => Exists.elim hxx fun k39 hxx => Exists.elim hxx fun k40 hxx => Exists.elim hxx fun k41 hxx => Exists.elim hxx fun k42 hxx => Exists.elim hxx fun k43 hxx => Exists.elim hxx fun k44 hxx => Exists.elim hxx fun k45 hxx => Exists.elim hxx fun k46 hxx => Exists.elim hxx fun k47 hxx => Exists.elim hxx fun k48 hxx => Exists.elim hxx fun k49 hxx => Exists.elim hxx fun k50 hxx => Exists.elim hxx fun k51 hxx => Exists.elim hxx fun k52 hxx => Exists.elim hxx fun k53 hxx => Exists.elim hxx fun k54 hxx => Exists.elim hxx fun k55 hxx => Exists.elim hxx fun k56 hxx => Exists.elim hxx fun k57 hxx => Exists.elim hxx fun k58 hxx => Exists.elim hxx fun k59 hxx => Exists.elim hxx fun k60 hxx => Exists.elim hxx fun k61 hxx => Exists.elim hxx fun k62 hxx => Exists.elim hxx fun k63 hxx => Exists.elim hxx fun k64 hxx => Exists.elim hxx fun k65 hxx => Exists.elim hxx fun k66 hxx => Exists.elim hxx fun k67 hxx => Exists.elim hxx fun k68 hxx => Exists.elim hxx fun k69 hxx => Exists.elim hxx fun k70 hxx => Exists.elim hxx fun k71 hxx => Exists.elim hxx fun k72 hxx => Exists.elim hxx fun k73 hxx => Exists.elim hxx fun k74 hxx => Exists.elim hxx fun k75 hxx => Exists.elim hxx fun k76 hxx => Exists.elim hxx fun k77 hxx => Exists.elim hxx fun k78 hxx => Exists.elim hxx fun k79 hxx => Exists.elim hxx fun k80 hxx => Exists.elim hxx fun k81 hxx => Exists.elim hxx fun k82 hxx => Exists.elim hxx fun k83 hxx => Exists.elim hxx fun k84 hxx => Exists.elim hxx fun k85 hxx => Exists.elim hxx fun k86 hxx => Exists.elim hxx fun k87 hxx => Exists.elim hxx fun k88 hxx => Exists.elim hxx fun k89 hxx => Exists.elim hxx fun k90 hxx => Exists.elim hxx fun k91 hxx => Exists.elim hxx fun k92 hxx => Exists.elim hxx fun k93 hxx => Exists.elim hxx fun k94 hxx => Exists.elim hxx fun k95 hxx => Exists.elim hxx fun k96 hxx => Exists.elim hxx fun k97 hxx => Exists.elim hxx fun k98 hxx => Exists.elim hxx fun k99 hxx => Exists.elim hxx fun k100 hxx => Exists.elim hxx fun k101 hxx => Exists.elim hxx fun k102 hxx => Exists.elim hxx fun k103 hxx => Exists.elim hxx fun k104 hxx => Exists.elim hxx fun k105 hxx => Exists.elim hxx fun k106 hxx => Exists.elim hxx fun k107 hxx => Exists.elim hxx fun k108 hxx => Exists.elim hxx fun k109 hxx => Exists.elim hxx fun k110 hxx => Exists.elim hxx fun k111 hxx => Exists.elim hxx fun k112 hxx => Exists.elim hxx fun k113 hxx => Exists.elim hxx fun k114 hxx => Exists.elim hxx fun k115 hxx => Exists.elim hxx fun k116 hxx => Exists.elim hxx fun k117 hxx => Exists.elim hxx fun k118 hxx => Exists.elim hxx fun k119 hxx => Exists.elim hxx fun k120 hxx => Exists.elim hxx fun k121 hxx => Exists.elim hxx fun k122 hxx => Exists.elim hxx fun k123 hxx => Exists.elim hxx fun k124 hxx => Exists.elim hxx fun k125 hxx => Exists.elim hxx fun k126 hxx => ?_
      subst hxx
      intro hy
      obtain ⟨e, s'', hz, rfl, hp2⟩ := copyW_loop { d with falls := IntKind.i64.wrap (d.falls + 1) } ga gb gc d.wr (tornAt keep (lastFrom keep d.wr.length 0 (-1)) d.wr 0 d.safe) d.now (by rw [hln]; exact hwf.same) (by omega) d.safe.length 0 _ _ _ _ _ _ _ _ _ _ _ _ _ _ _ _ _ _ _ _ _ _ _ _ _ _ _ _ _ _ _ _ _ _ _ _ _ _ _ _ _ _ _ _ _ _ _ _ _ _ _ _ _ _ _ _ _ _ _ _ _ _ _ _ _ _ _ _ _ _ _ _ _ _ _ _ _ _ _ _ _ _ _ _ _ _ _ _ _ _ _ _ _ _ _ _ _ _ _ _ _ _ _ _ _ _ _ _ _ _ _ _ _ _ _ _ _ _ _ _ _ _ _ _ _ (by omega)
      revert hz
      have hxx := hp2
      refine Exists.elim hxx fun l1 hxx => Exists.elim hxx fun l2 hxx => Exists.elim hxx fun l3 hxx => Exists.elim hxx fun l4 hxx => Exists.elim hxx fun l5 hxx => Exists.elim hxx fun l6 hxx => Exists.elim hxx fun l7 hxx => Exists.elim hxx fun l8 hxx => Exists.elim hxx fun l9 hxx => Exists.elim hxx fun l10 hxx => Exists.elim hxx fun l11 hxx => Exists.elim hxx fun l12 hxx => Exists.elim hxx fun l13 hxx => Exists.elim hxx fun l14 hxx => Exists.elim hxx fun l15 hxx => Exists.elim hxx fun l16 hxx => Exists.elim hxx fun l17 hxx => Exists.elim hxx fun l18 hxx => Exists.elim hxx fun l19 hxx => Exists.elim hxx fun l20 hxx => Exists.elim hxx fun l21 hxx => Exists.elim hxx fun l22 hxx => Exists.elim hxx fun l23 hxx => Exists.elim hxx fun l24 hxx => Exists.elim hxx fun l25 hxx => Exists.elim hxx fun l26 hxx => Exists.elim hxx fun l27 hxx => Exists.elim hxx fun l28 hxx => Exists.elim hxx fun l29 hxx => Exists.elim hxx fun l30 hxx => Exists.elim hxx fun l31 hxx => Exists.elim hxx fun l32 hxx => Exists.elim hxx fun l33 hxx => Exists.elim hxx fun l34 hxx => Exists.elim hxx fun l35 hxx => Exists.elim hxx fun l36 hxx => Exists.elim hxx fun l37 hxx => Exists.elim hxx fun l38 hxx => Exists.elim hxx fun l39 hxx => Exists.elim hxx fun l40 hxx => Exists.elim hxx fun l41 hxx => Exists.elim hxx fun l42 hxx => Exists.elim hxx fun l43 hxx => Exists.elim hxx fun l44 hxx => Exists.elim hxx fun l45 hxx => Exists.elim hxx fun l46 hxx => Exists.elim hxx fun l47 hxx => Exists.elim hxx fun l48 hxx => Exists.elim hxx fun l49 hxx => Exists.elim hxx fun l50 hxx => Exists.elim hxx fun l51 hxx => Exists.elim hxx fun l52 hxx => Exists.elim hxx fun l53 hxx => Exists.elim hxx fun l54 hxx => Exists.elim hxx fun l55 hxx => Exists.elim hxx fun l56 hxx => Exists.elim hxx fun l57 hxx => Exists.elim hxx fun l58 hxx => Exists.elim hxx fun l59 hxx => Exists.elim hxx fun l60 hxx => Exists.elim hxx fun l61 hxx => Exists.elim hxx fun l62 hxx => Exists.elim hxx fun l63 hxx => Exists.elim hxx fun l64 hxx => Exists.elim hxx fun l65 hxx => Exists.elim hxx fun l66 hxx => Exists.elim hxx fun l67 hxx => Exists.elim hxx fun l68 hxx => Exists.elim hxx fun l69 hxx => Exists.elim hxx fun l70 hxx => Exists.elim hxx fun l71 hxx => Exists.elim hxx fun l72 hxx => Exists.elim hxx fun l73 hxx => Exists.elim hxx fun l74 hxx => Exists.elim hxx fun l75 hxx => Exists.elim hxx fun l76 hxx => Exists.elim hxx fun l77 hxx => Exists.elim hxx fun l78 hxx => Exists.elim hxx fun l79 hxx => Exists.elim hxx fun l80 hxx => Exists.elim hxx fun l81 hxx => Exists.elim hxx fun l82 hxx => Exists.elim hxx fun l83 hxx => Exists.elim hxx fun l84 hxx => Exists.elim hxx fun l85 hxx => Exists.elim hxx fun l86 hxx => Exists.elim hxx fun l87 hxx => Exists.elim hxx fun l88 hxx => Exists.elim hxx fun l89 hxx => Exists.elim hxx fun l90 hxx => Exists.elim hxx fun l91 hxx => Exists.elim hxx fun l92 hxx => Exists.elim hxx fun l93 hxx => Exists.elim hxx fun l94 hxx => Exists.elim hxx fun l95 hxx => Exists.elim hxx fun l96 hxx => Exists.elim hxx fun l97 hxx => Exists.elim hxx fun l98 hxx => Exists.elim hxx fun l99 hxx => Exists.elim hxx fun l100 hxx => Exists.elim hxx fun l101 hxx => Exists.elim hxx fun l102 hxx => Exists.elim hxx fun l103 hxx => Exists.elim hxx fun l104 hxx => Exists.elim hxx fun l105 hxx => Exists.elim hxx fun l106 hxx => Exists.elim hxx fun l107 hxx => Exists.elim hxx fun l108 hxx => Exists.elim hxx fun l109 hxx => Exists.elim hxx fun l110 hxx => Exists.elim hxx fun l111 hxx => Exists.elim hxx fun l112 hxx => Exists.elim hxx fun l113 hxx => Exists.elim hxx fun l114 hxx => Exists.elim hxx fun l115 hxx => Exists.elim hxx fun l116 hxx => Exists.elim hxx fun l117 hxx => Exists.elim hxx fun l118 hxx => Exists.elim hxx fun l119 hxx => Exists.elim hxx fun l120 hxx => Exists.elim hxx fun l121 hxx => Exists.elim hxx fun l122 hxx => Exists.elim hxx fun l123 hxx => Exists.elim hxx fun l124 hxx => Exists.elim hxx fun l125 hxx => Exists.elim hxx fun l126 hxx => ?_
      subst hxx
      intro hz
      simp only [go_sem, Nat.reduceAdd, Nat.reduceSub, Nat.reduceMul, Nat.reduceDiv, Nat.reduceMod, Nat.reducePow, Nat.reduceLeDiff, Nat.reduceLT, Nat.reduceEqDiff, Nat.reduceBEq, Nat.reduceBNe, Int.reduceAdd, Int.reduceSub, Int.reduceMul, Int.reducePow, Int.reduceLE, Int.reduceLT, Int.reduceEq, Int.reduceToNat, Int.reduceNeg, reduceCtorEq, Nat.add_zero, Nat.zero_add, beq_self_eq_true, Try.f45, Int.ofNat_zero, Int.natCast_zero, rstormH, rdiskB, hdn, Bool.not_false, List.drop_zero, List.take_zero, List.nil_append, hwf.same, hln] at hx hy hz
      simp only [go_sem, Nat.reduceAdd, Nat.reduceSub, Nat.reduceMul, Nat.reduceDiv, Nat.reduceMod, Nat.reducePow, Nat.reduceLeDiff, Nat.reduceLT, Nat.reduceEqDiff, Nat.reduceBEq, Nat.reduceBNe, Int.reduceAdd, Int.reduceSub, Int.reduceMul, Int.reducePow, Int.reduceLE, Int.reduceLT, Int.reduceEq, Int.reduceToNat, Int.reduceNeg, reduceCtorEq, Nat.add_zero, Nat.zero_add, beq_self_eq_true, Try.f45, rcanW, rdiskB, hdn, Bool.not_false, hwf.same]
      rw [hx]
      simp only [go_sem, Nat.reduceAdd, Nat.reduceSub, Nat.reduceMul, Nat.reduceDiv, Nat.reduceMod, Nat.reducePow, Nat.reduceLeDiff, Nat.reduceLT, Nat.reduceEqDiff, Nat.reduceBEq, Nat.reduceBNe, Int.reduceAdd, Int.reduceSub, Int.reduceMul, Int.reducePow, Int.reduceLE, Int.reduceLT, Int.reduceEq, Int.reduceToNat, Int.reduceNeg, reduceCtorEq, Nat.add_zero, Nat.zero_add, beq_self_eq_true]
      rw [hy]
      simp only [go_sem, Nat.reduceAdd, Nat.reduceSub, Nat.reduceMul, Nat.reduceDiv, Nat.reduceMod, Nat.reducePow, Nat.reduceLeDiff, Nat.reduceLT, Nat.reduceEqDiff, Nat.reduceBEq, Nat.reduceBNe, Int.reduceAdd, Int.reduceSub, Int.reduceMul, Int.reducePow, Int.reduceLE, Int.reduceLT, Int.reduceEq, Int.reduceToNat, Int.reduceNeg, reduceCtorEq, Nat.add_zero, Nat.zero_add, beq_self_eq_true]
      rw [hz]
      simp only [go_sem, Nat.reduceAdd, Nat.reduceSub, Nat.reduceMul, Nat.reduceDiv, Nat.reduceMod, Nat.reducePow, Nat.reduceLeDiff, Nat.reduceLT, Nat.reduceEqDiff, Nat.reduceBEq, Nat.reduceBNe, Int.reduceAdd, Int.reduceSub, Int.reduceMul, Int.reducePow, Int.reduceLE, Int.reduceLT, Int.reduceEq, Int.reduceToNat, Int.reduceNeg, reduceCtorEq, Nat.add_zero, Nat.zero_add, beq_self_eq_true, unwind, modeEx, resultsOf, one]
      rw [hsf]
      refine ⟨_, [0, 1, 2], rfl, ⟨1, ga, 2, gb, _, ?_, rfl, rfl, .inl ⟨rfl, rfl, rfl⟩, by decide⟩, Nat.le_refl 4⟩
      simp only [List.getElem?_cons_zero, rdiskB, hln]
      rfl

theorem zeros_call (ro : Nat) (H : Heap) (nx : Nat) : callT env 97 [] ro H nx = some (.ret (.str (List.replicate 64 0)), .ups []) := by
  have : ∃ H', runT env 97 [] [] 0 = some (.ret (.str (List.replicate 64 0)), H') := by
    rw [run_unfold fn97 rfl]
    have hmx : 64 * (1 + 1) ≤ maxBytes := by decide
    simp only [go_sem, Nat.reduceAdd, Nat.reduceSub, Nat.reduceMul, Nat.reduceDiv, Nat.reduceMod, Nat.reducePow, Nat.reduceLeDiff, Nat.reduceLT, Nat.reduceEqDiff, Nat.reduceBEq, Nat.reduceBNe, Int.reduceAdd, Int.reduceSub, Int.reduceMul, Int.reducePow, Int.reduceLE, Int.reduceLT, Int.reduceEq, Int.reduceToNat, Int.reduceNeg, reduceCtorEq, Nat.add_zero, Nat.zero_add, beq_self_eq_true, Try.f97, hmx, unwind, modeEx, resultsOf, one]
    exact ⟨_, rfl⟩
  obtain ⟨H', h⟩ := this
  exact call_pure rfl rfl rfl rfl h rfl ro H nx
end Go.Proofs.Ytamcncpgfhfheaa.Tidy

/-
  A disk of the reference: new.
-/
namespace Go.Proofs.Ytamcncpgfhfheaa.Tidy
open Go Go.IntWalk
set_option maxRecDepth 10000
set_option linter.unusedSimpArgs false

abbrev zs : Sec := List.replicate 64 0

theorem append64r {g nx id : Nat} {L : List Sec} {s : Sec} {H : Heap} (hne : L ≠ []) (hl : L.length ≤ 100000) (hH : H[id]? = some (.cells g 1 true (L.map .str))) :
    appendOp env 0 nx 64 (.ref id g 0 L.length false) (.lit true 1 [.str s]) H = some (.ref id (g + 1) 0 (L.length + 1) false, [(id, .cells (g + 1) 1 true ((L ++ [s]).map .str))]) := by
  have hb : (L.length + 1) * (16 + 1) ≤ maxBytes := by unfold maxBytes; omega
  have := append_ref (E := env) (ro := 0) (nx := nx) (H := H) (id := id) (g := g) (fl := true) (x := .lit true 1 [.str s]) (bs := L.map .str) (len := L.length) (new := [.str s]) ti64 ti9 rfl ⟨by decide, rfl, rfl⟩ rfl (by simp) hH (by simp) (List.length_pos_iff.2 hne) (Nat.zero_le _) (by simpa using hb) (fun _ => rfl)
  simpa using this
theorem append64n {nx : Nat} {s : Sec} {H : Heap} : appendOp env 0 nx 64 (.lit true 0 []) (.lit true 1 [.str s]) H = some (.ref nx 0 0 1 false, [(nx, .cells 0 1 true [.str s])]) := by
  have := append_lit (E := env) (ro := 0) (nx := nx) (H := H) (x := .lit true 1 [.str s]) (sz := 0) (es := []) (new := [.str s]) ti64 ti9 rfl ⟨by decide, rfl, rfl⟩ rfl (by simp) (.inl rfl) (by simp [maxBytes]) (fun _ => rfl)
  simpa [newBlk, show flatTy env 8 9 = true from rfl] using this

def nd : DiskS := { safe := [], now := [], wr := [], armed := 0, down := false, falls := 0 }

set_option maxHeartbeats 2000000 in
theorem rnew_loop (z : Sec) (hzc : ∀ ro H nx, callT env 97 [] ro H nx = some (.ret (.str z), .ups [])) (n : Nat) (hn : n ≤ 4096) : ∀ (m i g : Nat) (L : List Sec) (j1 j2 j3 j6 j7 j8 j9 j10 j11 j12 j13 j14 j15 j16 j17 j18 j19 j20 j21 j22 j23 j24 j25 j26 j27 j28 j29 j30 j31 j32 j33 j34 j35 j36 j37 j38 j39 : AVal), i + m = n → L.length = i → 1 ≤ i →
    Goes (execT env (Try.f34.at [1, 1, 1, 0, 1, 0]) ⟨[.int .i64 n, j1, j2, j3, .ptr 0 0 0 0, .int .i64 i, j6, j7, j8, j9, j10, j11, j12, j13, j14, j15, j16, j17, j18, j19, j20, j21, j22, j23, j24, j25, j26, j27, j28, j29, j30, j31, j32, j33, j34, j35, j36, j37, j38, j39], [rdiskB nd (.ref 1 g 0 i false) (.ref 2 g 0 i false) (.lit true 0 []), .cells g 1 true (L.map .str), .cells g 1 true (L.map .str)], [], 0, []⟩) fun e s => e = .exit 0 ∧ ∃ g', 
      ∃ j1 j2 j3 j5 j6 j7 j8 j9 j10 j11 j12 j13 j14 j15 j16 j17 j18 j19 j20 j21 j22 j23 j24 j25 j26 j27 j28 j29 j30 j31 j32 j33 j34 j35 j36 j37 j38 j39, s = ⟨[.int .i64 n, j1, j2, j3, .ptr 0 0 0 0, j5, j6, j7, j8, j9, j10, j11, j12, j13, j14, j15, j16, j17, j18, j19, j20, j21, j22, j23, j24, j25, j26, j27, j28, j29, j30, j31, j32, j33, j34, j35, j36, j37, j38, j39], [rdiskB nd (.ref 1 g' 0 n false) (.ref 2 g' 0 n false) (.lit true 0 []), .cells g' 1 true ((L ++ List.replicate m z).map .str), .cells g' 1 true ((L ++ List.replicate m z).map .str)], [], 0, []⟩ := by
  intro m
  induction m with
  | zero =>
    intro i g L j1 j2 j3 j6 j7 j8 j9 j10 j11 j12 j13 j14 j15 j16 j17 j18 j19 j20 j21 j22 j23 j24 j25 j26 j27 j28 j29 j30 j31 j32 j33 j34 j35 j36 j37 j38 j39 hi hL h1
    have hd : decide ((i : Int) < (n : Int)) = false := by simp; omega
    obtain rfl : n = i := by omega
    rw [List.replicate_zero, List.append_nil]
    simp only [go_sem, Nat.reduceAdd, Nat.reduceSub, Nat.reduceMul, Nat.reduceDiv, Nat.reduceMod, Nat.reducePow, Nat.reduceLeDiff, Nat.reduceLT, Nat.reduceEqDiff, Nat.reduceBEq, Nat.reduceBNe, Int.reduceAdd, Int.reduceSub, Int.reduceMul, Int.reducePow, Int.reduceLE, Int.reduceLT, Int.reduceEq, Int.reduceToNat, Int.reduceNeg, reduceCtorEq, Nat.add_zero, Nat.zero_add, beq_self_eq_true, Try.f34, rdiskB]
    rw [execT_loop]
    simp only [go_sem, Nat.reduceAdd, Nat.reduceSub, Nat.reduceMul, Nat.reduceDiv, Nat.reduceMod, Nat.reducePow, Nat.reduceLeDiff, Nat.reduceLT, Nat.reduceEqDiff, Nat.reduceBEq, Nat.reduceBNe, Int.reduceAdd, Int.reduceSub, Int.reduceMul, Int.reducePow, Int.reduceLE, Int.reduceLT, Int.reduceEq, Int.reduceToNat, Int.reduceNeg, reduceCtorEq, Nat.add_zero, Nat.zero_add, beq_self_eq_true, hd]
    exact ⟨g, _, _, _, _, _, _, _, _, _, _, _, _, _, _, _, _, _, _, _, _, _, _, _, _, _, _, _, _, _, _, _, _, _, _, _, _, _, _, rfl⟩
  | succ m ih =>
    intro i g L j1 j2 j3 j6 j7 j8 j9 j10 j11 j12 j13 j14 j15 j16 j17 j18 j19 j20 j21 j22 j23 j24 j25 j26 j27 j28 j29 j30 j31 j32 j33 j34 j35 j36 j37 j38 j39 hi hL h1
    subst hL
    have hd : decide ((L.length : Int) < (n : Int)) = true := by simp; omega
    have hne : L ≠ [] := List.length_pos_iff.1 h1
    have a1 := fun nx => append64r (nx := nx) (id := 1) (g := g) (s := z) (H := [rdiskB nd (.ref 1 g 0 L.length false) (.ref 2 g 0 L.length false) (.lit true 0 []), .cells g 1 true (L.map .str), .cells g 1 true (L.map .str)]) hne (by omega) rfl
    have a2 := fun nx => append64r (nx := nx) (id := 2) (g := g) (s := z) (H := [rdiskB nd (.ref 1 (g + 1) 0 (L.length + 1) false) (.ref 2 g 0 L.length false) (.lit true 0 []), .cells (g + 1) 1 true ((L ++ [z]).map .str), .cells g 1 true (L.map .str)]) hne (by omega) rfl
    have ih' := ih (L.length + 1) (g + 1) (L ++ [z])
    have hrep : L ++ List.replicate (m + 1) z = L ++ [z] ++ List.replicate m z := by rw [List.replicate_succ]; simp
    rw [hrep]
    simp only [rdiskB, nd, Bool.not_false] at a1 a2
    simp only [go_sem, Nat.reduceAdd, Nat.reduceSub, Nat.reduceMul, Nat.reduceDiv, Nat.reduceMod, Nat.reducePow, Nat.reduceLeDiff, Nat.reduceLT, Nat.reduceEqDiff, Nat.reduceBEq, Nat.reduceBNe, Int.reduceAdd, Int.reduceSub, Int.reduceMul, Int.reducePow, Int.reduceLE, Int.reduceLT, Int.reduceEq, Int.reduceToNat, Int.reduceNeg, reduceCtorEq, Nat.add_zero, Nat.zero_add, beq_self_eq_true, Try.f34, rdiskB, nd] at ih' ⊢
    rw [execT_loop]
    simp only [go_sem, Nat.reduceAdd, Nat.reduceSub, Nat.reduceMul, Nat.reduceDiv, Nat.reduceMod, Nat.reducePow, Nat.reduceLeDiff, Nat.reduceLT, Nat.reduceEqDiff, Nat.reduceBEq, Nat.reduceBNe, Int.reduceAdd, Int.reduceSub, Int.reduceMul, Int.reducePow, Int.reduceLE, Int.reduceLT, Int.reduceEq, Int.reduceToNat, Int.reduceNeg, reduceCtorEq, Nat.add_zero, Nat.zero_add, beq_self_eq_true, hd, hzc, a1, a2]
    rw [apart_ok]
    · simp only [go_sem, Nat.reduceAdd, Nat.reduceSub, Nat.reduceMul, Nat.reduceDiv, Nat.reduceMod, Nat.reducePow, Nat.reduceLeDiff, Nat.reduceLT, Nat.reduceEqDiff, Nat.reduceBEq, Nat.reduceBNe, Int.reduceAdd, Int.reduceSub, Int.reduceMul, Int.reducePow, Int.reduceLE, Int.reduceLT, Int.reduceEq, Int.reduceToNat, Int.reduceNeg, reduceCtorEq, Nat.add_zero, Nat.zero_add, beq_self_eq_true, hzc, a1, a2]
      rw [apart_ok]
      · simp only [go_sem, Nat.reduceAdd, Nat.reduceSub, Nat.reduceMul, Nat.reduceDiv, Nat.reduceMod, Nat.reducePow, Nat.reduceLeDiff, Nat.reduceLT, Nat.reduceEqDiff, Nat.reduceBEq, Nat.reduceBNe, Int.reduceAdd, Int.reduceSub, Int.reduceMul, Int.reducePow, Int.reduceLE, Int.reduceLT, Int.reduceEq, Int.reduceToNat, Int.reduceNeg, reduceCtorEq, Nat.add_zero, Nat.zero_add, beq_self_eq_true, wrap_succ (show L.length < 2 ^ 63 - 1 by omega)]
        exact ih' _ _ _ _ _ _ _ _ _ _ _ _ _ _ _ _ _ _ _ _ _ _ _ _ _ _ _ _ _ _ _ _ _ _ _ _ _ (by omega) (by simp) (by simp)
      · kernel_rfl
    · kernel_rfl

set_option maxHeartbeats 2000000 in
theorem rnewdisk_run1 (z : Sec) (hzc : ∀ ro H nx, callT env 97 [] ro H nx = some (.ret (.str z), .ups [])) (n : Nat) (h1 : 1 ≤ n) (h2 : n ≤ 4096) : ∃ g, runT env 34 [.int .i64 n] [] 0 = some (.ret (.tuple [.ptr 0 0 0 0, .int .i64 0]), [rdiskB nd (.ref 1 g 0 n false) (.ref 2 g 0 n false) (.lit true 0 []), .cells g 1 true ((List.replicate n z).map .str), .cells g 1 true ((List.replicate n z).map .str)]) := by
  have d1 : decide ((n : Int) < 1) = false := by simp only [decide_eq_false_iff_not]; omega
  have d2 : decide (4096 < (n : Int)) = false := by simp only [decide_eq_false_iff_not]; omega
  have d3 : decide ((0 : Int) < (n : Int)) = true := by simp only [decide_eq_true_eq]; omega
  obtain ⟨e, s, hx, rfl, g', hp0⟩ := rnew_loop z hzc n h2 (n - 1) 1 0 [z] _ _ _ _ _ _ _ _ _ _ _ _ _ _ _ _ _ _ _ _ _ _ _ _ _ _ _ _ _ _ _ _ _ _ _ _ _ (by omega) rfl (Nat.le_refl _)
  revert hx
  have hxx := hp0
  refine Exists.elim hxx fun j1 hxx => Exists.elim hxx fun j2 hxx => Exists.elim hxx fun j3 hxx => Exists.elim hxx fun j5 hxx => Exists.elim hxx fun j6 hxx => Exists.elim hxx fun j7 hxx => Exists.elim hxx fun j8 hxx => Exists.elim hxx fun j9 hxx => Exists.elim hxx fun j10 hxx => Exists.elim hxx fun j11 hxx => Exists.elim hxx fun j12 hxx => Exists.elim hxx fun j13 hxx => Exists.elim hxx fun j14 hxx => Exists.elim hxx fun j15 hxx => Exists.elim hxx fun j16 hxx => Exists.elim hxx fun j17 hxx => Exists.elim hxx fun j18 hxx => Exists.elim hxx fun j19 hxx => Exists.elim hxx fun j20 hxx => Exists.elim hxx fun j21 hxx => Exists.elim hxx fun j22 hxx => Exists.elim hxx fun j23 hxx => Exists.elim hxx fun j24 hxx => Exists.elim hxx fun j25 hxx => Exists.elim hxx fun j26 hxx => Exists.elim hxx fun j27 hxx => Exists.elim hxx fun j28 hxx => Exists.elim hxx fun j29 hxx => Exists.elim hxx fun j30 hxx => Exists.elim hxx fun j31 hxx => Exists.elim hxx fun j32 hxx => Exists.elim hxx fun j33 hxx => Exists.elim hxx fun j34 hxx => Exists.elim hxx fun j35 hxx => Exists.elim hxx fun j36 hxx => Exists.elim hxx fun j37 hxx => Exists.elim hxx fun j38 hxx => Exists.elim hxx fun j39 hxx => ?_
  subst hxx
  intro hx
  have hrep : [z] ++ List.replicate (n - 1) z = List.replicate n z := by
    rw [show n = (n - 1) + 1 by omega, List.replicate_succ]; rfl
  rw [hrep] at hx
  refine ⟨g', ?_⟩
  generalize List.replicate n z = Z at hx ⊢
  have w1 : IntKind.i64.wrap 1 = 1 := by decide
  have a1 := fun nx H => append64n (nx := nx) (s := z) (H := H)
  simp only [go_sem, Nat.reduceAdd, Nat.reduceSub, Nat.reduceMul, Nat.reduceDiv, Nat.reduceMod, Nat.reducePow, Nat.reduceLeDiff, Nat.reduceLT, Nat.reduceEqDiff, Nat.reduceBEq, Nat.reduceBNe, Int.reduceAdd, Int.reduceSub, Int.reduceMul, Int.reducePow, Int.reduceLE, Int.reduceLT, Int.reduceEq, Int.reduceToNat, Int.reduceNeg, reduceCtorEq, Nat.add_zero, Nat.zero_add, beq_self_eq_true, Try.f34, Int.natCast_one, rdiskB, nd, List.map_cons, List.map_nil] at hx
  rw [run_unfold fn34 rfl]
  simp only [go_sem, Nat.reduceAdd, Nat.reduceSub, Nat.reduceMul, Nat.reduceDiv, Nat.reduceMod, Nat.reducePow, Nat.reduceLeDiff, Nat.reduceLT, Nat.reduceEqDiff, Nat.reduceBEq, Nat.reduceBNe, Int.reduceAdd, Int.reduceSub, Int.reduceMul, Int.reducePow, Int.reduceLE, Int.reduceLT, Int.reduceEq, Int.reduceToNat, Int.reduceNeg, reduceCtorEq, Nat.add_zero, Nat.zero_add, beq_self_eq_true, Try.f34, d1, d2, build, fill, places, Option.isSome_some]
  rw [execT_loop]
  simp only [go_sem, Nat.reduceAdd, Nat.reduceSub, Nat.reduceMul, Nat.reduceDiv, Nat.reduceMod, Nat.reducePow, Nat.reduceLeDiff, Nat.reduceLT, Nat.reduceEqDiff, Nat.reduceBEq, Nat.reduceBNe, Int.reduceAdd, Int.reduceSub, Int.reduceMul, Int.reducePow, Int.reduceLE, Int.reduceLT, Int.reduceEq, Int.reduceToNat, Int.reduceNeg, reduceCtorEq, Nat.add_zero, Nat.zero_add, beq_self_eq_true, d3, hzc, a1]
  rw [apart_ok]
  · simp only [go_sem, Nat.reduceAdd, Nat.reduceSub, Nat.reduceMul, Nat.reduceDiv, Nat.reduceMod, Nat.reducePow, Nat.reduceLeDiff, Nat.reduceLT, Nat.reduceEqDiff, Nat.reduceBEq, Nat.reduceBNe, Int.reduceAdd, Int.reduceSub, Int.reduceMul, Int.reducePow, Int.reduceLE, Int.reduceLT, Int.reduceEq, Int.reduceToNat, Int.reduceNeg, reduceCtorEq, Nat.add_zero, Nat.zero_add, beq_self_eq_true, hzc, a1]
    rw [apart_ok]
    · simp only [go_sem, Nat.reduceAdd, Nat.reduceSub, Nat.reduceMul, Nat.reduceDiv, Nat.reduceMod, Nat.reducePow, Nat.reduceLeDiff, Nat.reduceLT, Nat.reduceEqDiff, Nat.reduceBEq, Nat.reduceBNe, Int.reduceAdd, Int.reduceSub, Int.reduceMul, Int.reducePow, Int.reduceLE, Int.reduceLT, Int.reduceEq, Int.reduceToNat, Int.reduceNeg, reduceCtorEq, Nat.add_zero, Nat.zero_add, beq_self_eq_true, w1, trunc, underB]
      rw [hx]
      simp only [go_sem, Nat.reduceAdd, Nat.reduceSub, Nat.reduceMul, Nat.reduceDiv, Nat.reduceMod, Nat.reducePow, Nat.reduceLeDiff, Nat.reduceLT, Nat.reduceEqDiff, Nat.reduceBEq, Nat.reduceBNe, Int.reduceAdd, Int.reduceSub, Int.reduceMul, Int.reducePow, Int.reduceLE, Int.reduceLT, Int.reduceEq, Int.reduceToNat, Int.reduceNeg, reduceCtorEq, Nat.add_zero, Nat.zero_add, beq_self_eq_true, unwind, modeEx, resultsOf, one, rdiskB, nd]
    · kernel_rfl
  · kernel_rfl

theorem rnewdisk_run (n : Nat) (h1 : 1 ≤ n) (h2 : n ≤ 4096) : ∃ g, runT env 34 [.int .i64 n] [] 0 = some (.ret (.tuple [.ptr 0 0 0 0, .int .i64 0]), [rdiskB nd (.ref 1 g 0 n false) (.ref 2 g 0 n false) (.lit true 0 []), .cells g 1 true ((List.replicate n zs).map .str), .cells g 1 true ((List.replicate n zs).map .str)]) :=
  rnewdisk_run1 zs zeros_call n h1 h2

theorem rnewdisk_none (n : Int) (h : n < 1 ∨ 4096 < n) (ro : Nat) (H : Heap) (nx : Nat) : callT env 34 [.int .i64 n] ro H nx = some (.ret (.tuple [.nilptr, .int .i64 1]), .ups []) := by
  have hrun : runT env 34 [.int .i64 n] [] 0 = some (.ret (.tuple [.nilptr, .int .i64 1]), []) := by
    rw [run_unfold fn34 rfl]
    cases d1 : decide (n < 1) with
    | true => simp only [go_sem, Nat.reduceAdd, Nat.reduceSub, Nat.reduceMul, Nat.reduceDiv, Nat.reduceMod, Nat.reducePow, Nat.reduceLeDiff, Nat.reduceLT, Nat.reduceEqDiff, Nat.reduceBEq, Nat.reduceBNe, Int.reduceAdd, Int.reduceSub, Int.reduceMul, Int.reducePow, Int.reduceLE, Int.reduceLT, Int.reduceEq, Int.reduceToNat, Int.reduceNeg, reduceCtorEq, Nat.add_zero, Nat.zero_add, beq_self_eq_true, Try.f34, d1, unwind, modeEx, resultsOf, one]
    | false =>
      have d2 : decide (4096 < n) = true := by simp only [decide_eq_false_iff_not] at d1; simp only [decide_eq_true_eq]; omega
      simp only [go_sem, Nat.reduceAdd, Nat.reduceSub, Nat.reduceMul, Nat.reduceDiv, Nat.reduceMod, Nat.reducePow, Nat.reduceLeDiff, Nat.reduceLT, Nat.reduceEqDiff, Nat.reduceBEq, Nat.reduceBNe, Int.reduceAdd, Int.reduceSub, Int.reduceMul, Int.reducePow, Int.reduceLE, Int.reduceLT, Int.reduceEq, Int.reduceToNat, Int.reduceNeg, reduceCtorEq, Nat.add_zero, Nat.zero_add, beq_self_eq_true, Try.f34, d1, d2, unwind, modeEx, resultsOf, one]
  rw [call_of_run rfl rfl hrun]
  rfl

theorem rnewdisk_call (n : Nat) (h1 : 1 ≤ n) (h2 : n ≤ 4096) (ro : Nat) (H : Heap) (nx : Nat) : ∃ g, callT env 34 [.int .i64 n] ro H nx = some (.ret (.tuple [.ptr nx 0 0 0, .int .i64 0]),
    .ups [(nx, rdiskB nd (.ref (nx + 1) g 0 n false) (.ref (nx + 2) g 0 n false) (.lit true 0 [])), (nx + 1, .cells g 1 true ((List.replicate n zs).map .str)), (nx + 2, .cells g 1 true ((List.replicate n zs).map .str))]) := by
  obtain ⟨g, hrun⟩ := rnewdisk_run n h1 h2
  refine ⟨g, ?_⟩
  rw [call_of_run rfl rfl hrun]
  generalize (List.replicate n zs).map AVal.str = Z
  have hu : uniq (List.filter (fun j => decide (List.length ([] : List Nat) ≤ j) && decide (j < List.length [rdiskB nd (.ref 1 g 0 n false) (.ref 2 g 0 n false) (.lit true 0 []), .cells g 1 true Z, .cells g 1 true Z])) [0, 1, 2]) = [0, 1, 2] := rfl
  simp only [callBack, hint34, keepOf, Bool.false_eq_true, if_false, hu]
  rfl
end Go.Proofs.Ytamcncpgfhfheaa.Tidy

/-
  Disks: what stays true of them; sectors; trunk memory.
-/
namespace Go.Proofs.Ytamcncpgfhfheaa.Tidy
open Go Go.IntWalk
set_option maxRecDepth 10000
set_option linter.unusedSimpArgs false

def sectorS (s : Sec) : Sec := if 0 < s.length ∧ s.length < 64 then s ++ List.replicate (64 - s.length) 0 else s

theorem toBytes_zeros : ∀ k : Nat, toBytes (List.replicate k (.int .u8 0)) = some (List.replicate k 0)
  | 0 => rfl
  | k + 1 => by
    rw [List.replicate_succ, List.replicate_succ]
    simp only [toBytes]
    rw [toBytes_zeros k]; rfl

theorem sector_call (s : Sec) (ro : Nat) (H : Heap) (nx : Nat) : callT env 36 [.str s] ro H nx = some (.ret (.str (sectorS s)), .ups []) := by
  have : ∃ H', runT env 36 [.str s] [] 0 = some (.ret (.str (sectorS s)), H') := by
    rw [run_unfold fn36 rfl]
    unfold sectorS
    cases d0 : decide ((0 : Int) < (s.length : Int)) with
    | false =>
      rw [if_neg (by simp only [decide_eq_false_iff_not] at d0; omega)]
      simp only [go_sem, Nat.reduceAdd, Nat.reduceSub, Nat.reduceMul, Nat.reduceDiv, Nat.reduceMod, Nat.reducePow, Nat.reduceLeDiff, Nat.reduceLT, Nat.reduceEqDiff, Nat.reduceBEq, Nat.reduceBNe, Int.reduceAdd, Int.reduceSub, Int.reduceMul, Int.reducePow, Int.reduceLE, Int.reduceLT, Int.reduceEq, Int.reduceToNat, Int.reduceNeg, reduceCtorEq, Nat.add_zero, Nat.zero_add, beq_self_eq_true, Try.f36, d0, unwind, modeEx, resultsOf, one]
      exact ⟨_, rfl⟩
    | true =>
      cases d1 : decide ((s.length : Int) < 64) with
      | false =>
        rw [if_neg (by simp only [decide_eq_false_iff_not] at d1; omega)]
        simp only [go_sem, Nat.reduceAdd, Nat.reduceSub, Nat.reduceMul, Nat.reduceDiv, Nat.reduceMod, Nat.reducePow, Nat.reduceLeDiff, Nat.reduceLT, Nat.reduceEqDiff, Nat.reduceBEq, Nat.reduceBNe, Int.reduceAdd, Int.reduceSub, Int.reduceMul, Int.reducePow, Int.reduceLE, Int.reduceLT, Int.reduceEq, Int.reduceToNat, Int.reduceNeg, reduceCtorEq, Nat.add_zero, Nat.zero_add, beq_self_eq_true, Try.f36, d0, d1, unwind, modeEx, resultsOf, one]
        exact ⟨_, rfl⟩
      | true =>
        simp only [decide_eq_true_eq] at d0 d1
        rw [if_pos (by omega)]
        have e0 : decide ((0 : Int) < (s.length : Int)) = true := by simpa using d0
        have e1 : decide ((s.length : Int) < 64) = true := by simpa using d1
        have w : IntKind.i64.wrap (64 - (s.length : Int)) = ((64 - s.length : Nat) : Int) := by rw [i64_in _ (by omega)]; omega
        have hmx : (64 - s.length) * (1 + 1) ≤ maxBytes := by unfold maxBytes; omega
        have hmy : s.length + (64 - s.length) ≤ maxBytes := by unfold maxBytes; omega
        have g0 : (0 : Int) ≤ ((64 - s.length : Nat) : Int) := by omega
        have htb := toBytes_zeros (64 - s.length)
        have hrl : (List.replicate (64 - s.length) (0 : UInt8)).length = 64 - s.length := List.length_replicate
        have htk : List.take (64 - s.length) (List.replicate (64 - s.length) (AVal.int .u8 0)) = List.replicate (64 - s.length) (.int .u8 0) := List.take_of_length_le (by simp)
        generalize 64 - s.length = k at *
        simp only [go_sem, Nat.reduceAdd, Nat.reduceSub, Nat.reduceMul, Nat.reduceDiv, Nat.reduceMod, Nat.reducePow, Nat.reduceLeDiff, Nat.reduceLT, Nat.reduceEqDiff, Nat.reduceBEq, Nat.reduceBNe, Int.reduceAdd, Int.reduceSub, Int.reduceMul, Int.reducePow, Int.reduceLE, Int.reduceLT, Int.reduceEq, Int.reduceToNat, Int.reduceNeg, reduceCtorEq, Nat.add_zero, Nat.zero_add, beq_self_eq_true, Try.f36, e0, e1, w, hmx, g0, Int.toNat_natCast, htk, htb, hrl, hmy, unwind, modeEx, resultsOf, one]
        exact ⟨_, rfl⟩
  obtain ⟨H', h⟩ := this
  exact call_pure rfl rfl rfl rfl h rfl ro H nx

/-- a disk as it should be, and what is read is what is safe with the writes on it -/
structure DiskS.good (d : DiskS) : Prop where
  wf : d.wf
  cur : d.now = applyW d.safe d.wr

theorem applyW_snoc (sf : List Sec) (wr : List (Nat × Sec)) (w : Nat × Sec) : applyW sf (wr ++ [w]) = (applyW sf wr).set w.1 w.2 := by simp [applyW]

theorem good_fails {d : DiskS} (h : d.good) : (failsD d).1.good := by
  obtain ⟨f1, f2, f3⟩ := failsD_same d
  obtain ⟨⟨h1, h2, h3, h4, h5, h6⟩, h7⟩ := h
  exact ⟨⟨by rw [f1]; exact h1, by rw [f1]; exact h2, by rw [f1, f2]; exact h3, by rw [f1]; exact h4, by rw [f2]; exact h5, by rw [f1, f3]; exact h6⟩, by rw [f1, f2, f3]; exact h7⟩

theorem good_wrote {d : DiskS} (h : d.good) {q : Nat} {s : Sec} (hq : q < d.now.length) (hs : s.length = 64) : (wroteD d q s).good := by
  obtain ⟨⟨h1, h2, h3, h4, h5, h6⟩, h7⟩ := h
  refine ⟨⟨h1, h2, by simpa [wroteD] using h3, h4, ?_, ?_⟩, ?_⟩
  · intro x hx
    rcases List.mem_or_eq_of_mem_set hx with hx | rfl
    · exact h5 x hx
    · exact hs
  · intro w hw
    rcases List.mem_append.1 hw with hw | hw
    · exact h6 w hw
    · obtain rfl := List.mem_singleton.1 hw
      exact ⟨by show q < d.safe.length; omega, hs⟩
  · show d.now.set q s = applyW d.safe (d.wr ++ [(q, s)])
    rw [applyW_snoc, h7]

theorem good_write {d : DiskS} (h : d.good) (pos : Int) (s : Sec) : (writeD d pos s).1.good ∧ (writeD d pos s).1.wr.length ≤ d.wr.length + 1 := by
  unfold writeD
  split
  · rename_i h0
    split
    · rename_i h64
      obtain ⟨_, hp0, hpl⟩ := checkD_zero h0
      exact ⟨good_fails (good_wrote h (by omega) h64), by rw [(failsD_same _).2.2]; simp [wroteD]⟩
    · exact ⟨h, Nat.le_succ _⟩
  · exact ⟨h, Nat.le_succ _⟩

theorem good_sync {d : DiskS} (h : d.good) : (syncD d).1.good ∧ (syncD d).1.wr.length ≤ d.wr.length := by
  unfold syncD
  split
  · exact ⟨h, Nat.le_refl _⟩
  · split
    · exact ⟨good_fails h, by rw [(failsD_same _).2.2]; exact Nat.le_refl _⟩
    · obtain ⟨f1, f2, f3⟩ := failsD_same d
      obtain ⟨⟨h1, h2, h3, h4, h5, h6⟩, h7⟩ := h
      refine ⟨⟨⟨?_, ?_, rfl, ?_, ?_, fun w hw => by cases hw⟩, rfl⟩, Nat.zero_le _⟩
      · show 1 ≤ (failsD d).1.now.length
        rw [f2, h3]; exact h1
      · show (failsD d).1.now.length ≤ 4096
        rw [f2, h3]; exact h2
      · show ∀ s ∈ (failsD d).1.now, s.length = 64
        rw [f2]; exact h5
      · show ∀ s ∈ (failsD d).1.now, s.length = 64
        rw [f2]; exact h5

theorem tornAt_64 (keep : Sec) (last : Int) : ∀ (ws : List (Nat × Sec)) (i : Nat) (sf : List Sec), (∀ w ∈ ws, w.1 < sf.length ∧ w.2.length = 64) → (∀ s ∈ sf, s.length = 64) → ∀ s ∈ tornAt keep last ws i sf, s.length = 64
  | [], _, _, _, h, s, hs => h s hs
  | w :: ws, i, sf, hw, h, s, hs => by
    have hw0 := hw w (by simp)
    have ho : (sf.getD w.1 []).length = 64 := by
      rw [List.getD_eq_getElem?_getD, List.getElem?_eq_getElem hw0.1]
      exact h _ (List.getElem_mem hw0.1)
    simp only [tornAt] at hs
    refine tornAt_64 keep last ws (i + 1) _ (fun w' hw' => ?_) (fun x hx => ?_) s hs
    · have := hw w' (by simp [hw'])
      split
      · simpa using this
      · split
        · simpa using this
        · exact this
    · split at hx
      · rcases List.mem_or_eq_of_mem_set hx with hx | rfl
        · exact h x hx
        · rw [List.length_append, List.length_take, List.length_drop, ho, hw0.2]; omega
      · split at hx
        · rcases List.mem_or_eq_of_mem_set hx with hx | rfl
          · exact h x hx
          · exact hw0.2
        · exact h x hx

theorem restartD_safe (d : DiskS) (keep : Sec) : (restartD d keep).safe = tornAt keep (lastFrom keep d.wr.length 0 (-1)) d.wr 0 d.safe := rfl

theorem good_restart {d : DiskS} (h : d.good) (keep : Sec) : (restartD d keep).good ∧ (restartD d keep).wr.length ≤ d.wr.length := by
  obtain ⟨⟨h1, h2, h3, h4, h5, h6⟩, h7⟩ := h
  have hl := tornAt_length keep (lastFrom keep d.wr.length 0 (-1)) d.wr 0 d.safe
  have h64 := tornAt_64 keep (lastFrom keep d.wr.length 0 (-1)) d.wr 0 d.safe h6 h4
  exact ⟨⟨⟨by rw [restartD_safe, hl]; exact h1, by rw [restartD_safe, hl]; exact h2, rfl, h64, h64, fun w hw => by cases hw⟩, rfl⟩, Nat.zero_le _⟩

theorem good_arm {d : DiskS} (h : d.good) (n : Int) : ({ d with armed := n } : DiskS).good := ⟨⟨h.wf.pos, h.wf.few, h.wf.same, h.wf.safe, h.wf.now, h.wf.wr⟩, h.cur⟩

theorem good_new {n : Nat} (h1 : 1 ≤ n) (h2 : n ≤ 4096) : (newD n).good := by
  refine ⟨⟨by simpa [newD] using h1, by simpa [newD] using h2, rfl, ?_, ?_, fun w hw => by cases hw⟩, rfl⟩ <;> (intro s hs; rw [(List.mem_replicate.1 hs).2]; rfl)

theorem trunc_cases (m : Nat) (s : St) : trunc m s = s ∨ (m < s.H.length ∧ (s.H.take m).all (underB m) = true ∧ trunc m s = { s with H := s.H.take m, tmps := s.tmps.map (scrub m) }) := by
  unfold trunc
  by_cases h : s.H.length ≤ m
  · rw [if_pos h]; exact .inl rfl
  · rw [if_neg h]
    split
    · rename_i hc
      simp only [Bool.and_eq_true] at hc
      exact .inr ⟨by omega, hc.1, rfl⟩
    · exact .inl rfl

theorem scrub_same {m : Nat} {v : AVal} (h : v.under m = true) : scrub m v = v := by unfold scrub; rw [if_pos h]

/-- a disk stays when what is behind goes -/
theorem DiskAt.cut {H : Heap} {p m : Nat} {d : DiskS} {F : List Nat} (h : DiskAt H p d F) (hp : p < m) (hu : (H.take m).all (underB m) = true) : DiskAt (H.take m) p d F ∧ ∀ id ∈ F, id < m := by
  have hlt := h.lt
  obtain ⟨a, ga, b, gb, wv, h1, h2, h3, h4, h5⟩ := h
  have hb : underB m (diskB d (.ref a ga 0 d.safe.length false) (.ref b gb 0 d.now.length false) wv) = true := by
    refine List.all_eq_true.1 hu _ ?_
    exact List.mem_of_getElem? (by rw [List.getElem?_take, if_pos hp]; exact h1)
  simp only [underB, diskB, Bool.false_or, underL, AVal.under, Bool.and_true, Bool.and_eq_true, decide_eq_true_eq] at hb
  have tk : ∀ {j : Nat} {x : Blk}, j < m → H[j]? = some x → (H.take m)[j]? = some x := fun hj hx => by rw [List.getElem?_take, if_pos hj]; exact hx
  rcases h4 with ⟨hw, rfl, rfl⟩ | ⟨hw, c, gc, rfl, hc, rfl⟩
  · refine ⟨⟨a, ga, b, gb, _, tk hp h1, tk hb.1 h2, tk hb.2.1 h3, .inl ⟨hw, rfl, rfl⟩, h5⟩, fun id hid => ?_⟩
    simp only [List.mem_cons, List.not_mem_nil, or_false] at hid
    rcases hid with rfl | rfl | rfl
    · exact hp
    · exact hb.1
    · exact hb.2.1
  · simp only [AVal.under, decide_eq_true_eq] at hb
    refine ⟨⟨a, ga, b, gb, _, tk hp h1, tk hb.1 h2, tk hb.2.1 h3, .inr ⟨hw, c, gc, rfl, tk hb.2.2 hc, rfl⟩, h5⟩, fun id hid => ?_⟩
    simp only [List.mem_cons, List.not_mem_nil, or_false] at hid
    rcases hid with rfl | rfl | rfl | rfl
    · exact hp
    · exact hb.1
    · exact hb.2.1
    · exact hb.2.2

/-- a disk stays when what is behind goes -/
theorem RDiskAt.cut {H : Heap} {p m : Nat} {d : DiskS} {F : List Nat} (h : RDiskAt H p d F) (hp : p < m) (hu : (H.take m).all (underB m) = true) : RDiskAt (H.take m) p d F ∧ ∀ id ∈ F, id < m := by
  have hlt := h.lt
  obtain ⟨a, ga, b, gb, wv, h1, h2, h3, h4, h5⟩ := h
  have hb : underB m (rdiskB d (.ref a ga 0 d.safe.length false) (.ref b gb 0 d.now.length false) wv) = true := by
    refine List.all_eq_true.1 hu _ ?_
    exact List.mem_of_getElem? (by rw [List.getElem?_take, if_pos hp]; exact h1)
  simp only [underB, rdiskB, Bool.false_or, underL, AVal.under, Bool.and_true, Bool.and_eq_true, decide_eq_true_eq] at hb
  have tk : ∀ {j : Nat} {x : Blk}, j < m → H[j]? = some x → (H.take m)[j]? = some x := fun hj hx => by rw [List.getElem?_take, if_pos hj]; exact hx
  rcases h4 with ⟨hw, rfl, rfl⟩ | ⟨hw, c, gc, rfl, hc, rfl⟩
  · refine ⟨⟨a, ga, b, gb, _, tk hp h1, tk hb.1 h2, tk hb.2.1 h3, .inl ⟨hw, rfl, rfl⟩, h5⟩, fun id hid => ?_⟩
    simp only [List.mem_cons, List.not_mem_nil, or_false] at hid
    rcases hid with rfl | rfl | rfl
    · exact hp
    · exact hb.1
    · exact hb.2.1
  · simp only [AVal.under, decide_eq_true_eq] at hb
    refine ⟨⟨a, ga, b, gb, _, tk hp h1, tk hb.1 h2, tk hb.2.1 h3, .inr ⟨hw, c, gc, rfl, tk hb.2.2 hc, rfl⟩, h5⟩, fun id hid => ?_⟩
    simp only [List.mem_cons, List.not_mem_nil, or_false] at hid
    rcases hid with rfl | rfl | rfl | rfl
    · exact hp
    · exact hb.1
    · exact hb.2.1
    · exact hb.2.2
end Go.Proofs.Ytamcncpgfhfheaa.Tidy

/-
  Disks compared.
-/
namespace Go.Proofs.Ytamcncpgfhfheaa.Tidy
open Go Go.IntWalk
set_option maxRecDepth 10000
set_option linter.unusedSimpArgs false

/-- both disks in memory, alike -/
structure Pair (H : Heap) (p q : Nat) (d : DiskS) (F G : List Nat) : Prop where
  one : DiskAt H p d F
  two : RDiskAt H q d G
  apart : ∀ id ∈ F, id ∉ G
  good : d.good

section
variable {H : Heap} {p q : Nat} {d : DiskS} {F G : List Nat} (h : Pair H p q d F G)
include h

theorem Pair.up (ro nx : Nat) : callT env 46 [.ptr p 0 0 0] ro H nx = some (.ret (.bool !d.down), .ups []) :=
  disk_look (args := []) rfl rfl rfl rfl rfl rfl rfl (up_can d) h.one ro nx
theorem Pair.rup (ro nx : Nat) : callT env 47 [.ptr q 0 0 0] ro H nx = some (.ret (.bool !d.down), .ups []) :=
  rdisk_look (args := []) rfl rfl rfl rfl rfl rfl rfl (rup_can d) h.two ro nx
theorem Pair.sectors (ro nx : Nat) : callT env 48 [.ptr p 0 0 0] ro H nx = some (.ret (.int .i64 d.safe.length), .ups []) := by
  rw [← h.good.wf.same]
  exact disk_look (args := []) rfl rfl rfl rfl rfl rfl rfl (sectors_can d) h.one ro nx
theorem Pair.rsectors (ro nx : Nat) : callT env 49 [.ptr q 0 0 0] ro H nx = some (.ret (.int .i64 d.safe.length), .ups []) :=
  rdisk_look (args := []) rfl rfl rfl rfl rfl rfl rfl (rsectors_can d) h.two ro nx
theorem Pair.read (pos : Int) (ro nx : Nat) : callT env 40 [.ptr p 0 0 0, .int .i64 pos] ro H nx = some (.ret (.tuple [.str (readD d pos).1, .int .i64 (readD d pos).2]), .ups []) :=
  disk_look (args := [.int .i64 pos]) rfl rfl rfl rfl rfl rfl rfl (read_can d h.good.wf.now pos) h.one ro nx
theorem Pair.rread (pos : Int) (ro nx : Nat) : callT env 41 [.ptr q 0 0 0, .int .i64 pos] ro H nx = some (.ret (.tuple [.str (readD d pos).1, .int .i64 (readD d pos).2]), .ups []) :=
  rdisk_look (args := [.int .i64 pos]) rfl rfl rfl rfl rfl rfl rfl (rread_can d pos) h.two ro nx
end

theorem equalDisks_loop {H : Heap} {p q : Nat} {d : DiskS} {F G : List Nat} (h : Pair H p q d F G) : ∀ (m i : Nat) (j2 j3 j4 j5 j6 j7 j8 j9 j10 j11 j12 j13 j14 j15 j16 j17 j18 j19 j20 j21 j22 j25 j26 j27 j28 j29 j30 j31 j32 j33 j34 j35 j36 j37 j38 j39 j40 j41 j42 j43 j44 j45 j46 j47 : AVal), i + m = d.safe.length →
    Goes (execT env (Try.f50.at [1, 1, 0, 1, 0]) ⟨[.ptr p 0 0 0, .ptr q 0 0 0, j2, j3, j4, j5, j6, j7, j8, j9, j10, j11, j12, j13, j14, j15, j16, j17, j18, j19, j20, j21, j22, .int .i64 d.safe.length, .int .i64 i, j25, j26, j27, j28, j29, j30, j31, j32, j33, j34, j35, j36, j37, j38, j39, j40, j41, j42, j43, j44, j45, j46, j47], H, [], 0, []⟩) fun e s => e = .exit 0 ∧
      ∃ j0 j1 j2 j3 j4 j5 j6 j7 j8 j9 j10 j11 j12 j13 j14 j15 j16 j17 j18 j19 j20 j21 j22 j23 j24 j25 j26 j27 j28 j29 j30 j31 j32 j33 j34 j35 j36 j37 j38 j39 j40 j41 j42 j43 j44 j45 j46 j47, s = ⟨[j0, j1, j2, j3, j4, j5, j6, j7, j8, j9, j10, j11, j12, j13, j14, j15, j16, j17, j18, j19, j20, j21, j22, j23, j24, j25, j26, j27, j28, j29, j30, j31, j32, j33, j34, j35, j36, j37, j38, j39, j40, j41, j42, j43, j44, j45, j46, j47], H, [], 0, []⟩ := by
  have hfew := h.good.wf.few
  intro m
  induction m with
  | zero =>
    intro i j2 j3 j4 j5 j6 j7 j8 j9 j10 j11 j12 j13 j14 j15 j16 j17 j18 j19 j20 j21 j22 j25 j26 j27 j28 j29 j30 j31 j32 j33 j34 j35 j36 j37 j38 j39 j40 j41 j42 j43 j44 j45 j46 j47 hi
    have hd : decide ((i : Int) < (d.safe.length : Int)) = false := by simp; omega
    simp only [go_sem, Nat.reduceAdd, Nat.reduceSub, Nat.reduceMul, Nat.reduceDiv, Nat.reduceMod, Nat.reducePow, Nat.reduceLeDiff, Nat.reduceLT, Nat.reduceEqDiff, Nat.reduceBEq, Nat.reduceBNe, Int.reduceAdd, Int.reduceSub, Int.reduceMul, Int.reducePow, Int.reduceLE, Int.reduceLT, Int.reduceEq, Int.reduceToNat, Int.reduceNeg, reduceCtorEq, Nat.add_zero, Nat.zero_add, beq_self_eq_true, Try.f50]
    rw [execT_loop]
    simp only [go_sem, Nat.reduceAdd, Nat.reduceSub, Nat.reduceMul, Nat.reduceDiv, Nat.reduceMod, Nat.reducePow, Nat.reduceLeDiff, Nat.reduceLT, Nat.reduceEqDiff, Nat.reduceBEq, Nat.reduceBNe, Int.reduceAdd, Int.reduceSub, Int.reduceMul, Int.reducePow, Int.reduceLE, Int.reduceLT, Int.reduceEq, Int.reduceToNat, Int.reduceNeg, reduceCtorEq, Nat.add_zero, Nat.zero_add, beq_self_eq_true, hd]
    exact ⟨_, _, _, _, _, _, _, _, _, _, _, _, _, _, _, _, _, _, _, _, _, _, _, _, _, _, _, _, _, _, _, _, _, _, _, _, _, _, _, _, _, _, _, _, _, _, _, _, rfl⟩
  | succ m ih =>
    intro i j2 j3 j4 j5 j6 j7 j8 j9 j10 j11 j12 j13 j14 j15 j16 j17 j18 j19 j20 j21 j22 j25 j26 j27 j28 j29 j30 j31 j32 j33 j34 j35 j36 j37 j38 j39 j40 j41 j42 j43 j44 j45 j46 j47 hi
    have hd : decide ((i : Int) < (d.safe.length : Int)) = true := by simp; omega
    have ih' := ih (i + 1)
    simp only [go_sem, Nat.reduceAdd, Nat.reduceSub, Nat.reduceMul, Nat.reduceDiv, Nat.reduceMod, Nat.reducePow, Nat.reduceLeDiff, Nat.reduceLT, Nat.reduceEqDiff, Nat.reduceBEq, Nat.reduceBNe, Int.reduceAdd, Int.reduceSub, Int.reduceMul, Int.reducePow, Int.reduceLE, Int.reduceLT, Int.reduceEq, Int.reduceToNat, Int.reduceNeg, reduceCtorEq, Nat.add_zero, Nat.zero_add, beq_self_eq_true, Try.f50] at ih' ⊢
    rw [execT_loop]
    simp only [go_sem, Nat.reduceAdd, Nat.reduceSub, Nat.reduceMul, Nat.reduceDiv, Nat.reduceMod, Nat.reducePow, Nat.reduceLeDiff, Nat.reduceLT, Nat.reduceEqDiff, Nat.reduceBEq, Nat.reduceBNe, Int.reduceAdd, Int.reduceSub, Int.reduceMul, Int.reducePow, Int.reduceLE, Int.reduceLT, Int.reduceEq, Int.reduceToNat, Int.reduceNeg, reduceCtorEq, Nat.add_zero, Nat.zero_add, beq_self_eq_true, hd, h.read, h.rread, wrap_succ (show i < 2 ^ 63 - 1 by omega)]
    exact ih' _ _ _ _ _ _ _ _ _ _ _ _ _ _ _ _ _ _ _ _ _ _ _ _ _ _ _ _ _ _ _ _ _ _ _ _ _ _ _ _ _ _ _ _ (by omega)

theorem equalDisks_run {H : Heap} {p q : Nat} {d : DiskS} {F G : List Nat} (h : Pair H p q d F G) : runT env 50 [.ptr p 0 0 0, .ptr q 0 0 0] H 0 = some (.ret (.bool true), H) := by
  obtain ⟨e, s, hx, rfl, hp0⟩ := equalDisks_loop h d.safe.length 0 _ _ _ _ _ _ _ _ _ _ _ _ _ _ _ _ _ _ _ _ _ _ _ _ _ _ _ _ _ _ _ _ _ _ _ _ _ _ _ _ _ _ _ _ (by omega)
  revert hx
  have hxx := hp0
  refine Exists.elim hxx fun j0 hxx => Exists.elim hxx fun j1 hxx => Exists.elim hxx fun j2 hxx => Exists.elim hxx fun j3 hxx => Exists.elim hxx fun j4 hxx => Exists.elim hxx fun j5 hxx => Exists.elim hxx fun j6 hxx => Exists.elim hxx fun j7 hxx => Exists.elim hxx fun j8 hxx => Exists.elim hxx fun j9 hxx => Exists.elim hxx fun j10 hxx => Exists.elim hxx fun j11 hxx => Exists.elim hxx fun j12 hxx => Exists.elim hxx fun j13 hxx => Exists.elim hxx fun j14 hxx => Exists.elim hxx fun j15 hxx => Exists.elim hxx fun j16 hxx => Exists.elim hxx fun j17 hxx => Exists.elim hxx fun j18 hxx => Exists.elim hxx fun j19 hxx => Exists.elim hxx fun j20 hxx => Exists.elim hxx fun j21 hxx => Exists.elim hxx fun j22 hxx => Exists.elim hxx fun j23 hxx => Exists.elim hxx fun j24 hxx => Exists.elim hxx fun j25 hxx => Exists.elim hxx fun j26 hxx => Exists.elim hxx fun j27 hxx => Exists.elim hxx fun j28 hxx => Exists.elim hxx fun j29 hxx => Exists.elim hxx fun j30 hxx => Exists.elim hxx fun j31 hxx => Exists.elim hxx fun j32 hxx => Exists.elim hxx fun j33 hxx => Exists.elim hxx fun j34 hxx => Exists.elim hxx fun j35 hxx => Exists.elim hxx fun j36 hxx => Exists.elim hxx fun j37 hxx => Exists.elim hxx fun j38 hxx => Exists.elim hxx fun j39 hxx => Exists.elim hxx fun j40 hxx => Exists.elim hxx fun j41 hxx => Exists.elim hxx fun j42 hxx => Exists.elim hxx fun j43 hxx => Exists.elim hxx fun j44 hxx => Exists.elim hxx fun j45 hxx => Exists.elim hxx fun j46 hxx => Exists.elim hxx fun j47 hxx => ?_
  subst hxx
  intro hx
  simp only [go_sem, Nat.reduceAdd, Nat.reduceSub, Nat.reduceMul, Nat.reduceDiv, Nat.reduceMod, Nat.reducePow, Nat.reduceLeDiff, Nat.reduceLT, Nat.reduceEqDiff, Nat.reduceBEq, Nat.reduceBNe, Int.reduceAdd, Int.reduceSub, Int.reduceMul, Int.reducePow, Int.reduceLE, Int.reduceLT, Int.reduceEq, Int.reduceToNat, Int.reduceNeg, reduceCtorEq, Nat.add_zero, Nat.zero_add, beq_self_eq_true, Try.f50, Int.ofNat_zero, Int.natCast_zero] at hx
  rw [run_unfold fn50 rfl]
  simp only [go_sem, Nat.reduceAdd, Nat.reduceSub, Nat.reduceMul, Nat.reduceDiv, Nat.reduceMod, Nat.reducePow, Nat.reduceLeDiff, Nat.reduceLT, Nat.reduceEqDiff, Nat.reduceBEq, Nat.reduceBNe, Int.reduceAdd, Int.reduceSub, Int.reduceMul, Int.reducePow, Int.reduceLE, Int.reduceLT, Int.reduceEq, Int.reduceToNat, Int.reduceNeg, reduceCtorEq, Nat.add_zero, Nat.zero_add, beq_self_eq_true, Try.f50, h.up, h.rup, h.sectors, h.rsectors, bne_self_eq_false]
  rw [hx]
  simp only [go_sem, Nat.reduceAdd, Nat.reduceSub, Nat.reduceMul, Nat.reduceDiv, Nat.reduceMod, Nat.reducePow, Nat.reduceLeDiff, Nat.reduceLT, Nat.reduceEqDiff, Nat.reduceBEq, Nat.reduceBNe, Int.reduceAdd, Int.reduceSub, Int.reduceMul, Int.reducePow, Int.reduceLE, Int.reduceLT, Int.reduceEq, Int.reduceToNat, Int.reduceNeg, reduceCtorEq, Nat.add_zero, Nat.zero_add, beq_self_eq_true, unwind, modeEx, resultsOf, one]

theorem equalDisks_call {H : Heap} {p q : Nat} {d : DiskS} {F G : List Nat} (h : Pair H p q d F G) (nx : Nat) : callT env 50 [.ptr p 0 0 0, .ptr q 0 0 0] 0 H nx = some (.ret (.bool true), .whole H) := by
  unfold callT
  rw [callF_whole rfl, equalDisks_run h]
  rfl
end Go.Proofs.Ytamcncpgfhfheaa.Tidy

/-
  Trees: paths, of the program and of the reference.
-/
namespace Go.Proofs.Ytamcncpgfhfheaa.Tidy
open Go Go.IntWalk
set_option maxRecDepth 10000
set_option linter.unusedSimpArgs false

/-- a path, from its end -/
def pathR (rt : List Entry → Int) (l : List Entry) (pos : Nat) : List Int :=
  if h : l.length ≤ 1 then [] else
    if pos < splitS l.length then rt (l.drop (splitS l.length)) :: pathR rt (l.take (splitS l.length)) pos
    else rt (l.take (splitS l.length)) :: pathR rt (l.drop (splitS l.length)) (pos - splitS l.length)
termination_by l.length
decreasing_by
  all_goals
    have := splitS_lt (n := l.length) (by omega)
    simp only [List.length_take, List.length_drop]
    omega

theorem pathR_one {rt : List Entry → Int} {l : List Entry} {pos : Nat} (h : l.length ≤ 1) : pathR rt l pos = [] := by
  rw [pathR, dif_pos h]
theorem pathR_left {rt : List Entry → Int} {l : List Entry} {pos : Nat} (h : 2 ≤ l.length) (hp : pos < splitS l.length) : pathR rt l pos = rt (l.drop (splitS l.length)) :: pathR rt (l.take (splitS l.length)) pos := by
  rw [pathR, dif_neg (by omega), if_pos hp]
theorem pathR_right {rt : List Entry → Int} {l : List Entry} {pos : Nat} (h : 2 ≤ l.length) (hp : ¬ pos < splitS l.length) : pathR rt l pos = rt (l.take (splitS l.length)) :: pathR rt (l.drop (splitS l.length)) (pos - splitS l.length) := by
  rw [pathR, dif_neg (by omega), if_neg hp]

theorem pathR_length (rt : List Entry → Int) : ∀ (n : Nat) (l : List Entry) (pos : Nat), l.length ≤ n → (pathR rt l pos).length ≤ n
  | 0, l, pos, h => by rw [pathR_one (by omega)]; simp
  | n + 1, l, pos, h => by
    by_cases h1 : l.length ≤ 1
    · rw [pathR_one h1]; simp
    · have hs := splitS_lt (n := l.length) (by omega)
      by_cases hp : pos < splitS l.length
      · rw [pathR_left (by omega) hp]
        have := pathR_length rt n (l.take (splitS l.length)) pos (by rw [List.length_take]; omega)
        simp only [List.length_cons]; omega
      · rw [pathR_right (by omega) hp]
        have := pathR_length rt n (l.drop (splitS l.length)) (pos - splitS l.length) (by rw [List.length_drop]; omega)
        simp only [List.length_cons]; omega

/-- one number more, in a list of hashes -/
theorem append35 {v : AVal} {us : Ups} {xs : List Int} (hv : VecC .u64 0 v us xs) (hx : xs.length ≤ 600) (y : Int) :
    ∃ u us', appendOp env 0 (putU [] us).length 35 v (.lit true 1 [.int .u64 y]) (putU [] us) = some (u, us') ∧ VecR .u64 u (putU (putU [] us) us') (xs ++ [y]) ∧
      consec 0 0 us = true ∧ (consec (putU [] us).length (putU [] us).length us' && v.refs.all fun j => decide (j < (putU [] us).length)) = true ∧ us'.map (·.1) = [0] ∧ ((us.map (·.1) = [] ∧ v.refs = []) ∨ (us.map (·.1) = [0] ∧ v.refs = [0])) := by
  have hb : (xs.length + 1) * (8 + 1) ≤ maxBytes := by unfold maxBytes; omega
  rcases hv with ⟨sz, rfl, rfl, hsz⟩ | ⟨g, rfl, rfl, h0⟩
  · refine ⟨.ref 0 0 0 (xs.length + 1) false, [(0, .cells 0 1 true ((xs ++ [y]).map (.int .u64)))], ?_, .inr ⟨0, by simp, by simp [putU], by simp⟩, rfl, rfl, rfl, .inl ⟨rfl, rfl⟩⟩
    have := append_lit (E := env) (nx := 0) (ro := 0) (H := []) (x := .lit true 1 [.int .u64 y]) (sz := sz) (es := xs.map (.int .u64)) ti35 ti25 rfl ⟨by decide, rfl, rfl⟩ rfl (by simp) (by rcases hsz with rfl | rfl <;> simp) (by simpa using hb) (fun _ => rfl)
    simpa [putU, newBlk, show flatTy env 8 25 = true from rfl] using this
  · have hl : 0 < xs.length := List.length_pos_iff.2 h0
    refine ⟨.ref 0 (g + 1) 0 (xs.length + 1) false, [(0, .cells (g + 1) 1 true ((xs ++ [y]).map (.int .u64)))], ?_, .inr ⟨g + 1, by simp, by simp [putU], by simp⟩, rfl, rfl, rfl, .inr ⟨rfl, rfl⟩⟩
    have := append_ref (E := env) (nx := 1) (ro := 0) (id := 0) (g := g) (fl := true) (H := [.cells g 1 true (xs.map (.int .u64))]) (x := .lit true 1 [.int .u64 y]) (bs := xs.map (.int .u64)) (len := xs.length) ti35 ti25 rfl ⟨by decide, rfl, rfl⟩ rfl (by simp) rfl (by simp) hl (by omega) (by simpa using hb) (fun _ => rfl)
    simpa [putU] using this

theorem path_run : ∀ (n : Nat) (cl : Bool) (l : List Entry) (pos : Nat), l.length = n → 1 ≤ n → n ≤ 512 → pos < n → small l → ∃ v H', runT env 89 [encL cl l, .int .i64 pos] [] 0 = some (.ret v, H') ∧ VecR .u64 v H' (pathR rootI l pos).reverse := by
  intro n
  induction n using Nat.strongRecOn with
  | _ n ih =>
    intro cl l pos hl h1 hn hp hsm
    rw [run_unfold fn89 rfl]
    by_cases h2 : n = 1
    · have d1 : decide ((l.length : Int) = 1) = true := by simp only [decide_eq_true_eq]; omega
      rw [pathR_one (by omega)]
      simp only [go_sem, Nat.reduceAdd, Nat.reduceSub, Nat.reduceMul, Nat.reduceDiv, Nat.reduceMod, Nat.reducePow, Nat.reduceLeDiff, Nat.reduceLT, Nat.reduceEqDiff, Nat.reduceBEq, Nat.reduceBNe, Int.reduceAdd, Int.reduceSub, Int.reduceMul, Int.reducePow, Int.reduceLE, Int.reduceLT, Int.reduceEq, Int.reduceToNat, Int.reduceNeg, reduceCtorEq, Nat.add_zero, Nat.zero_add, beq_self_eq_true, Try.f89, encL, List.length_map, d1, unwind, modeEx, resultsOf, one]
      exact ⟨_, _, rfl, .inl ⟨0, rfl, rfl, .inl rfl⟩⟩
    · have hs := splitS_lt (n := l.length) (by omega)
      have d1 : decide ((l.length : Int) = 1) = false := by simp only [decide_eq_false_iff_not]; omega
      by_cases hlt : pos < splitS l.length
      · have d2 : decide ((pos : Int) < (splitS l.length : Int)) = true := by simp only [decide_eq_true_eq]; omega
        rw [pathR_left (by omega) hlt]
        obtain ⟨v, H', hr, hv⟩ := ih (l.take (splitS l.length)).length (by rw [List.length_take]; omega) (cl && splitS l.length == l.length) (l.take (splitS l.length)) pos rfl (by rw [List.length_take]; omega) (by rw [List.length_take]; omega) (by rw [List.length_take]; omega) (hsm.take _)
        obtain ⟨u, us, hc, hu⟩ := call_vec rfl rfl rfl rfl rfl hr hv 0 [] 0
        have hlen := pathR_length rootI 512 (l.take (splitS l.length)) pos (by rw [List.length_take]; omega)
        obtain ⟨w, us', ha, hw, g1, g2, g3, g4⟩ := append35 hu (by rw [List.length_reverse]; omega) (rootI (l.drop (splitS l.length)))
        have hrt := fun cl => root_call cl (l.drop (splitS l.length)) (by rw [List.length_drop]; omega) (hsm.drop _)
        simp only [encL] at hc
        simp only [go_sem, Nat.reduceAdd, Nat.reduceSub, Nat.reduceMul, Nat.reduceDiv, Nat.reduceMod, Nat.reducePow, Nat.reduceLeDiff, Nat.reduceLT, Nat.reduceEqDiff, Nat.reduceBEq, Nat.reduceBNe, Int.reduceAdd, Int.reduceSub, Int.reduceMul, Int.reducePow, Int.reduceLE, Int.reduceLT, Int.reduceEq, Int.reduceToNat, Int.reduceNeg, reduceCtorEq, Nat.add_zero, Nat.zero_add, beq_self_eq_true, Try.f89, encL, List.length_map, d1, d2, split_call (n := l.length) (by omega) (by omega), sl_to _ _ _ (show splitS l.length ≤ l.length by omega), sl_from _ _ _ (show splitS l.length ≤ l.length by omega), hc, hrt, ha, g1, g2, g3]
        rw [apart_ok]
        · simp only [go_sem, Nat.reduceAdd, Nat.reduceSub, Nat.reduceMul, Nat.reduceDiv, Nat.reduceMod, Nat.reducePow, Nat.reduceLeDiff, Nat.reduceLT, Nat.reduceEqDiff, Nat.reduceBEq, Nat.reduceBNe, Int.reduceAdd, Int.reduceSub, Int.reduceMul, Int.reducePow, Int.reduceLE, Int.reduceLT, Int.reduceEq, Int.reduceToNat, Int.reduceNeg, reduceCtorEq, Nat.add_zero, Nat.zero_add, beq_self_eq_true, unwind, modeEx, resultsOf, one]
          exact ⟨_, _, rfl, by simpa using hw⟩
        · rcases g4 with ⟨e1, e2⟩ | ⟨e1, e2⟩ <;> rw [e1, e2] <;> kernel_rfl
      · have d2 : decide ((pos : Int) < (splitS l.length : Int)) = false := by simp only [decide_eq_false_iff_not]; omega
        have e1 : IntKind.i64.wrap ((pos : Int) - (splitS l.length : Int)) = ((pos - splitS l.length : Nat) : Int) := by rw [i64_in _ (by omega)]; omega
        rw [pathR_right (by omega) hlt]
        obtain ⟨v, H', hr, hv⟩ := ih (l.drop (splitS l.length)).length (by rw [List.length_drop]; omega) cl (l.drop (splitS l.length)) (pos - splitS l.length) rfl (by rw [List.length_drop]; omega) (by rw [List.length_drop]; omega) (by rw [List.length_drop]; omega) (hsm.drop _)
        obtain ⟨u, us, hc, hu⟩ := call_vec rfl rfl rfl rfl rfl hr hv 0 [] 0
        have hlen := pathR_length rootI 512 (l.drop (splitS l.length)) (pos - splitS l.length) (by rw [List.length_drop]; omega)
        obtain ⟨w, us', ha, hw, g1, g2, g3, g4⟩ := append35 hu (by rw [List.length_reverse]; omega) (rootI (l.take (splitS l.length)))
        have hrt := fun cl => root_call cl (l.take (splitS l.length)) (by rw [List.length_take]; omega) (hsm.take _)
        simp only [encL] at hc
        simp only [go_sem, Nat.reduceAdd, Nat.reduceSub, Nat.reduceMul, Nat.reduceDiv, Nat.reduceMod, Nat.reducePow, Nat.reduceLeDiff, Nat.reduceLT, Nat.reduceEqDiff, Nat.reduceBEq, Nat.reduceBNe, Int.reduceAdd, Int.reduceSub, Int.reduceMul, Int.reducePow, Int.reduceLE, Int.reduceLT, Int.reduceEq, Int.reduceToNat, Int.reduceNeg, reduceCtorEq, Nat.add_zero, Nat.zero_add, beq_self_eq_true, Try.f89, encL, List.length_map, d1, d2, e1, split_call (n := l.length) (by omega) (by omega), sl_to _ _ _ (show splitS l.length ≤ l.length by omega), sl_from _ _ _ (show splitS l.length ≤ l.length by omega), hc, hrt, ha, g1, g2, g3]
        rw [apart_ok]
        · simp only [go_sem, Nat.reduceAdd, Nat.reduceSub, Nat.reduceMul, Nat.reduceDiv, Nat.reduceMod, Nat.reducePow, Nat.reduceLeDiff, Nat.reduceLT, Nat.reduceEqDiff, Nat.reduceBEq, Nat.reduceBNe, Int.reduceAdd, Int.reduceSub, Int.reduceMul, Int.reducePow, Int.reduceLE, Int.reduceLT, Int.reduceEq, Int.reduceToNat, Int.reduceNeg, reduceCtorEq, Nat.add_zero, Nat.zero_add, beq_self_eq_true, unwind, modeEx, resultsOf, one]
          exact ⟨_, _, rfl, by simpa using hw⟩
        · rcases g4 with ⟨e1, e2⟩ | ⟨e1, e2⟩ <;> rw [e1, e2] <;> kernel_rfl
theorem rroot_call1 (cl : Bool) (l : List Entry) (h1 : l.length ≤ 512) (h2 : small l) (ro : Nat) (H : Heap) (nx : Nat) : callT env 84 [.lit cl 3 (l.map Entry.enc)] ro H nx = some (.ret (.int .u64 (rootI l)), .ups []) := by
  rw [rroot_call cl l h1 h2, root_same l h2]

theorem rpath_run : ∀ (n : Nat) (cl : Bool) (l : List Entry) (pos : Nat), l.length = n → 1 ≤ n → n ≤ 512 → pos < n → small l → ∃ v H', runT env 90 [encL cl l, .int .i64 pos] [] 0 = some (.ret v, H') ∧ VecR .u64 v H' (pathR rootI l pos).reverse := by
  intro n
  induction n using Nat.strongRecOn with
  | _ n ih =>
    intro cl l pos hl h1 hn hp hsm
    rw [run_unfold fn90 rfl]
    by_cases h2 : n = 1
    · have d1 : decide ((l.length : Int) = 1) = true := by simp only [decide_eq_true_eq]; omega
      rw [pathR_one (by omega)]
      simp only [go_sem, Nat.reduceAdd, Nat.reduceSub, Nat.reduceMul, Nat.reduceDiv, Nat.reduceMod, Nat.reducePow, Nat.reduceLeDiff, Nat.reduceLT, Nat.reduceEqDiff, Nat.reduceBEq, Nat.reduceBNe, Int.reduceAdd, Int.reduceSub, Int.reduceMul, Int.reducePow, Int.reduceLE, Int.reduceLT, Int.reduceEq, Int.reduceToNat, Int.reduceNeg, reduceCtorEq, Nat.add_zero, Nat.zero_add, beq_self_eq_true, Try.f90, encL, List.length_map, d1, unwind, modeEx, resultsOf, one]
      exact ⟨_, _, rfl, .inl ⟨0, rfl, rfl, .inl rfl⟩⟩
    · have hs := splitS_lt (n := l.length) (by omega)
      have d1 : decide ((l.length : Int) = 1) = false := by simp only [decide_eq_false_iff_not]; omega
      by_cases hlt : pos < splitS l.length
      · have d2 : decide ((pos : Int) < (splitS l.length : Int)) = true := by simp only [decide_eq_true_eq]; omega
        rw [pathR_left (by omega) hlt]
        obtain ⟨v, H', hr, hv⟩ := ih (l.take (splitS l.length)).length (by rw [List.length_take]; omega) true (l.take (splitS l.length)) pos rfl (by rw [List.length_take]; omega) (by rw [List.length_take]; omega) (by rw [List.length_take]; omega) (hsm.take _)
        obtain ⟨u, us, hc, hu⟩ := call_vec rfl rfl rfl rfl rfl hr hv 0 [] 0
        have hlen := pathR_length rootI 512 (l.take (splitS l.length)) pos (by rw [List.length_take]; omega)
        obtain ⟨w, us', ha, hw, g1, g2, g3, g4⟩ := append35 hu (by rw [List.length_reverse]; omega) (rootI (l.drop (splitS l.length)))
        have hrt := fun cl => rroot_call1 cl (l.drop (splitS l.length)) (by rw [List.length_drop]; omega) (hsm.drop _)
        simp only [encL] at hc
        simp only [go_sem, Nat.reduceAdd, Nat.reduceSub, Nat.reduceMul, Nat.reduceDiv, Nat.reduceMod, Nat.reducePow, Nat.reduceLeDiff, Nat.reduceLT, Nat.reduceEqDiff, Nat.reduceBEq, Nat.reduceBNe, Int.reduceAdd, Int.reduceSub, Int.reduceMul, Int.reducePow, Int.reduceLE, Int.reduceLT, Int.reduceEq, Int.reduceToNat, Int.reduceNeg, reduceCtorEq, Nat.add_zero, Nat.zero_add, beq_self_eq_true, Try.f90, encL, List.length_map, d1, d2, rsplit_call (n := l.length) (by omega) (by omega), sl_to3 _ _ _ (show splitS l.length ≤ l.length by omega), sl_from _ _ _ (show splitS l.length ≤ l.length by omega), hc, hrt, ha, g1, g2, g3]
        rw [apart_ok]
        · simp only [go_sem, Nat.reduceAdd, Nat.reduceSub, Nat.reduceMul, Nat.reduceDiv, Nat.reduceMod, Nat.reducePow, Nat.reduceLeDiff, Nat.reduceLT, Nat.reduceEqDiff, Nat.reduceBEq, Nat.reduceBNe, Int.reduceAdd, Int.reduceSub, Int.reduceMul, Int.reducePow, Int.reduceLE, Int.reduceLT, Int.reduceEq, Int.reduceToNat, Int.reduceNeg, reduceCtorEq, Nat.add_zero, Nat.zero_add, beq_self_eq_true, unwind, modeEx, resultsOf, one]
          exact ⟨_, _, rfl, by simpa using hw⟩
        · rcases g4 with ⟨e1, e2⟩ | ⟨e1, e2⟩ <;> rw [e1, e2] <;> kernel_rfl
      · have d2 : decide ((pos : Int) < (splitS l.length : Int)) = false := by simp only [decide_eq_false_iff_not]; omega
        have e1 : IntKind.i64.wrap ((pos : Int) - (splitS l.length : Int)) = ((pos - splitS l.length : Nat) : Int) := by rw [i64_in _ (by omega)]; omega
        rw [pathR_right (by omega) hlt]
        obtain ⟨v, H', hr, hv⟩ := ih (l.drop (splitS l.length)).length (by rw [List.length_drop]; omega) cl (l.drop (splitS l.length)) (pos - splitS l.length) rfl (by rw [List.length_drop]; omega) (by rw [List.length_drop]; omega) (by rw [List.length_drop]; omega) (hsm.drop _)
        obtain ⟨u, us, hc, hu⟩ := call_vec rfl rfl rfl rfl rfl hr hv 0 [] 0
        have hlen := pathR_length rootI 512 (l.drop (splitS l.length)) (pos - splitS l.length) (by rw [List.length_drop]; omega)
        obtain ⟨w, us', ha, hw, g1, g2, g3, g4⟩ := append35 hu (by rw [List.length_reverse]; omega) (rootI (l.take (splitS l.length)))
        have hrt := fun cl => rroot_call1 cl (l.take (splitS l.length)) (by rw [List.length_take]; omega) (hsm.take _)
        simp only [encL] at hc
        simp only [go_sem, Nat.reduceAdd, Nat.reduceSub, Nat.reduceMul, Nat.reduceDiv, Nat.reduceMod, Nat.reducePow, Nat.reduceLeDiff, Nat.reduceLT, Nat.reduceEqDiff, Nat.reduceBEq, Nat.reduceBNe, Int.reduceAdd, Int.reduceSub, Int.reduceMul, Int.reducePow, Int.reduceLE, Int.reduceLT, Int.reduceEq, Int.reduceToNat, Int.reduceNeg, reduceCtorEq, Nat.add_zero, Nat.zero_add, beq_self_eq_true, Try.f90, encL, List.length_map, d1, d2, e1, rsplit_call (n := l.length) (by omega) (by omega), sl_to3 _ _ _ (show splitS l.length ≤ l.length by omega), sl_from _ _ _ (show splitS l.length ≤ l.length by omega), hc, hrt, ha, g1, g2, g3]
        rw [apart_ok]
        · simp only [go_sem, Nat.reduceAdd, Nat.reduceSub, Nat.reduceMul, Nat.reduceDiv, Nat.reduceMod, Nat.reducePow, Nat.reduceLeDiff, Nat.reduceLT, Nat.reduceEqDiff, Nat.reduceBEq, Nat.reduceBNe, Int.reduceAdd, Int.reduceSub, Int.reduceMul, Int.reducePow, Int.reduceLE, Int.reduceLT, Int.reduceEq, Int.reduceToNat, Int.reduceNeg, reduceCtorEq, Nat.add_zero, Nat.zero_add, beq_self_eq_true, unwind, modeEx, resultsOf, one]
          exact ⟨_, _, rfl, by simpa using hw⟩
        · rcases g4 with ⟨e1, e2⟩ | ⟨e1, e2⟩ <;> rw [e1, e2] <;> kernel_rfl
end Go.Proofs.Ytamcncpgfhfheaa.Tidy

/-
  Trees: Path and CheckPath, of the program and of the reference.
-/
namespace Go.Proofs.Ytamcncpgfhfheaa.Tidy
open Go Go.IntWalk
set_option maxRecDepth 10000
set_option linter.unusedSimpArgs false

/-- what Path tells: the numbers, and the error -/
def pathS (l : List Entry) (pos : Int) : List Int × Int :=
  if chkS l = 0 then (if pos < 0 ∨ (l.length : Int) ≤ pos then ([], 1) else ((pathR rootI l pos.toNat).reverse, 0)) else ([], chkS l)

theorem Path_call (cl : Bool) (l : List Entry) (pos : Int) (hlen : l.length < 2 ^ 63) : ∃ cl' sz, ((pathS l pos).1 = [] ∨ sz = 1) ∧ ∀ ro H nx,
    callT env 24 [.lit cl 3 (l.map Entry.enc), .int .i64 pos] ro H nx = some (.ret (.tuple [.lit cl' sz ((pathS l pos).1.map (.int .u64)), .int .i64 (pathS l pos).2]), .ups []) := by
  have : ∃ v H', runT env 24 [.lit cl 3 (l.map Entry.enc), .int .i64 pos] [] 0 = some (.ret (.tuple [v, .int .i64 (pathS l pos).2]), H') ∧ VecR .u64 v H' (pathS l pos).1 := by
    have hck := fun ro H nx => checkList_call cl l hlen ro H nx
    unfold pathS
    rw [run_unfold fn24 rfl]
    by_cases hc : chkS l = 0
    · have hcd : decide (chkS l = 0) = true := by simpa using hc
      rw [if_pos hc]
      obtain ⟨h1, h2⟩ := chk_zero hc
      by_cases hp : pos < 0
      · have d1 : decide (pos < 0) = true := by simpa using hp
        rw [if_pos (.inl hp)]
        simp only [go_sem, Nat.reduceAdd, Nat.reduceSub, Nat.reduceMul, Nat.reduceDiv, Nat.reduceMod, Nat.reducePow, Nat.reduceLeDiff, Nat.reduceLT, Nat.reduceEqDiff, Nat.reduceBEq, Nat.reduceBNe, Int.reduceAdd, Int.reduceSub, Int.reduceMul, Int.reducePow, Int.reduceLE, Int.reduceLT, Int.reduceEq, Int.reduceToNat, Int.reduceNeg, reduceCtorEq, Nat.add_zero, Nat.zero_add, beq_self_eq_true, Try.f24, hck, hcd, d1, unwind, modeEx, resultsOf, one]
        exact ⟨_, _, rfl, .inl ⟨0, rfl, rfl, .inl rfl⟩⟩
      · have d1 : decide (pos < 0) = false := by simpa using hp
        by_cases hq : (l.length : Int) ≤ pos
        · have d2 : decide ((l.length : Int) ≤ pos) = true := by simpa using hq
          rw [if_pos (.inr hq)]
          simp only [go_sem, Nat.reduceAdd, Nat.reduceSub, Nat.reduceMul, Nat.reduceDiv, Nat.reduceMod, Nat.reducePow, Nat.reduceLeDiff, Nat.reduceLT, Nat.reduceEqDiff, Nat.reduceBEq, Nat.reduceBNe, Int.reduceAdd, Int.reduceSub, Int.reduceMul, Int.reducePow, Int.reduceLE, Int.reduceLT, Int.reduceEq, Int.reduceToNat, Int.reduceNeg, reduceCtorEq, Nat.add_zero, Nat.zero_add, beq_self_eq_true, Try.f24, hck, hcd, d1, d2, List.length_map, unwind, modeEx, resultsOf, one]
          exact ⟨_, _, rfl, .inl ⟨0, rfl, rfl, .inl rfl⟩⟩
        · have d2 : decide ((l.length : Int) ≤ pos) = false := by simpa using hq
          rw [if_neg (by rintro (h | h) <;> contradiction)]
          obtain ⟨v, H', hr, hv⟩ := path_run l.length cl l pos.toNat rfl (by omega) h1 (by omega) (all_small h2)
          obtain ⟨u, us, hpc, hu⟩ := call_vec rfl rfl rfl rfl rfl hr hv 0 [] 0
          have hpos : ((pos.toNat : Nat) : Int) = pos := by omega
          simp only [encL, hpos] at hpc
          simp only [go_sem, Nat.reduceAdd, Nat.reduceSub, Nat.reduceMul, Nat.reduceDiv, Nat.reduceMod, Nat.reducePow, Nat.reduceLeDiff, Nat.reduceLT, Nat.reduceEqDiff, Nat.reduceBEq, Nat.reduceBNe, Int.reduceAdd, Int.reduceSub, Int.reduceMul, Int.reducePow, Int.reduceLE, Int.reduceLT, Int.reduceEq, Int.reduceToNat, Int.reduceNeg, reduceCtorEq, Nat.add_zero, Nat.zero_add, beq_self_eq_true, Try.f24, hck, hcd, d1, d2, List.length_map, hpc, unwind, modeEx, resultsOf, one]
          refine ⟨_, _, rfl, ?_⟩
          rcases hu with ⟨sz, rfl, rfl, hsz⟩ | ⟨g, rfl, rfl, hne⟩
          · exact .inl ⟨sz, rfl, rfl, hsz⟩
          · exact .inr ⟨g, rfl, rfl, hne⟩
    · have hcd : decide (chkS l = 0) = false := by simpa using hc
      rw [if_neg hc]
      simp only [go_sem, Nat.reduceAdd, Nat.reduceSub, Nat.reduceMul, Nat.reduceDiv, Nat.reduceMod, Nat.reducePow, Nat.reduceLeDiff, Nat.reduceLT, Nat.reduceEqDiff, Nat.reduceBEq, Nat.reduceBNe, Int.reduceAdd, Int.reduceSub, Int.reduceMul, Int.reducePow, Int.reduceLE, Int.reduceLT, Int.reduceEq, Int.reduceToNat, Int.reduceNeg, reduceCtorEq, Nat.add_zero, Nat.zero_add, beq_self_eq_true, Try.f24, hck, hcd, unwind, modeEx, resultsOf, one]
      exact ⟨_, _, rfl, .inl ⟨0, rfl, rfl, .inl rfl⟩⟩
  obtain ⟨v, H', hr, hv⟩ := this
  exact call_lit2 rfl rfl rfl rfl rfl hr hv rfl

theorem rPath_call (cl : Bool) (l : List Entry) (pos : Int) (hlen : l.length < 2 ^ 63) : ∃ cl' sz, ((pathS l pos).1 = [] ∨ sz = 1) ∧ ∀ ro H nx,
    callT env 25 [.lit cl 3 (l.map Entry.enc), .int .i64 pos] ro H nx = some (.ret (.tuple [.lit cl' sz ((pathS l pos).1.map (.int .u64)), .int .i64 (pathS l pos).2]), .ups []) := by
  have : ∃ v H', runT env 25 [.lit cl 3 (l.map Entry.enc), .int .i64 pos] [] 0 = some (.ret (.tuple [v, .int .i64 (pathS l pos).2]), H') ∧ VecR .u64 v H' (pathS l pos).1 := by
    have hck := fun ro H nx => rcheckList_call cl l hlen ro H nx
    unfold pathS
    rw [run_unfold fn25 rfl]
    by_cases hc : chkS l = 0
    · have hcd : decide (chkS l = 0) = true := by simpa using hc
      rw [if_pos hc]
      obtain ⟨h1, h2⟩ := chk_zero hc
      by_cases hp : pos < 0
      · have d1 : decide (pos < 0) = true := by simpa using hp
        rw [if_pos (.inl hp)]
        simp only [go_sem, Nat.reduceAdd, Nat.reduceSub, Nat.reduceMul, Nat.reduceDiv, Nat.reduceMod, Nat.reducePow, Nat.reduceLeDiff, Nat.reduceLT, Nat.reduceEqDiff, Nat.reduceBEq, Nat.reduceBNe, Int.reduceAdd, Int.reduceSub, Int.reduceMul, Int.reducePow, Int.reduceLE, Int.reduceLT, Int.reduceEq, Int.reduceToNat, Int.reduceNeg, reduceCtorEq, Nat.add_zero, Nat.zero_add, beq_self_eq_true, Try.f25, hck, hcd, d1, unwind, modeEx, resultsOf, one]
        exact ⟨_, _, rfl, .inl ⟨0, rfl, rfl, .inl rfl⟩⟩
      · have d1 : decide (pos < 0) = false := by simpa using hp
        by_cases hq : (l.length : Int) ≤ pos
        · have d2 : decide ((l.length : Int) ≤ pos) = true := by simpa using hq
          rw [if_pos (.inr hq)]
          simp only [go_sem, Nat.reduceAdd, Nat.reduceSub, Nat.reduceMul, Nat.reduceDiv, Nat.reduceMod, Nat.reducePow, Nat.reduceLeDiff, Nat.reduceLT, Nat.reduceEqDiff, Nat.reduceBEq, Nat.reduceBNe, Int.reduceAdd, Int.reduceSub, Int.reduceMul, Int.reducePow, Int.reduceLE, Int.reduceLT, Int.reduceEq, Int.reduceToNat, Int.reduceNeg, reduceCtorEq, Nat.add_zero, Nat.zero_add, beq_self_eq_true, Try.f25, hck, hcd, d1, d2, List.length_map, unwind, modeEx, resultsOf, one]
          exact ⟨_, _, rfl, .inl ⟨0, rfl, rfl, .inl rfl⟩⟩
        · have d2 : decide ((l.length : Int) ≤ pos) = false := by simpa using hq
          rw [if_neg (by rintro (h | h) <;> contradiction)]
          obtain ⟨v, H', hr, hv⟩ := rpath_run l.length cl l pos.toNat rfl (by omega) h1 (by omega) (all_small h2)
          obtain ⟨u, us, hpc, hu⟩ := call_vec rfl rfl rfl rfl rfl hr hv 0 [] 0
          have hpos : ((pos.toNat : Nat) : Int) = pos := by omega
          simp only [encL, hpos] at hpc
          simp only [go_sem, Nat.reduceAdd, Nat.reduceSub, Nat.reduceMul, Nat.reduceDiv, Nat.reduceMod, Nat.reducePow, Nat.reduceLeDiff, Nat.reduceLT, Nat.reduceEqDiff, Nat.reduceBEq, Nat.reduceBNe, Int.reduceAdd, Int.reduceSub, Int.reduceMul, Int.reducePow, Int.reduceLE, Int.reduceLT, Int.reduceEq, Int.reduceToNat, Int.reduceNeg, reduceCtorEq, Nat.add_zero, Nat.zero_add, beq_self_eq_true, Try.f25, hck, hcd, d1, d2, List.length_map, hpc, unwind, modeEx, resultsOf, one]
          refine ⟨_, _, rfl, ?_⟩
          rcases hu with ⟨sz, rfl, rfl, hsz⟩ | ⟨g, rfl, rfl, hne⟩
          · exact .inl ⟨sz, rfl, rfl, hsz⟩
          · exact .inr ⟨g, rfl, rfl, hne⟩
    · have hcd : decide (chkS l = 0) = false := by simpa using hc
      rw [if_neg hc]
      simp only [go_sem, Nat.reduceAdd, Nat.reduceSub, Nat.reduceMul, Nat.reduceDiv, Nat.reduceMod, Nat.reducePow, Nat.reduceLeDiff, Nat.reduceLT, Nat.reduceEqDiff, Nat.reduceBEq, Nat.reduceBNe, Int.reduceAdd, Int.reduceSub, Int.reduceMul, Int.reducePow, Int.reduceLE, Int.reduceLT, Int.reduceEq, Int.reduceToNat, Int.reduceNeg, reduceCtorEq, Nat.add_zero, Nat.zero_add, beq_self_eq_true, Try.f25, hck, hcd, unwind, modeEx, resultsOf, one]
      exact ⟨_, _, rfl, .inl ⟨0, rfl, rfl, .inl rfl⟩⟩
  obtain ⟨v, H', hr, hv⟩ := this
  exact call_lit2 rfl rfl rfl rfl rfl hr hv rfl

theorem equal_loop {c1 c2 : Bool} (xs ys : List Int) (hl : xs.length = ys.length) (hlen : xs.length < 2 ^ 63) (H : Heap) (ro : Nat) : ∀ (n i : Nat) (s1 s2 : Nat) (j2 j3 j5 j6 j7 j8 j9 j10 j11 j14 j15 j16 j17 j18 j19 j20 j21 j22 j23 j24 j25 : AVal), (xs = [] ∨ s1 = 1) → (ys = [] ∨ s2 = 1) → i + n = xs.length →
    Goes (execT env (Try.f26.at [1, 1, 0, 1, 0]) ⟨[.lit c1 s1 (xs.map (.int .u64)), .lit c2 s2 (ys.map (.int .u64)), j2, j3, .bool false, j5, j6, j7, j8, j9, j10, j11, .int .i64 xs.length, .int .i64 i, j14, j15, j16, j17, j18, j19, j20, j21, j22, j23, j24, j25], H, [], ro, []⟩) fun e s =>
      if xs.drop i = ys.drop i then e = .exit 0 ∧ ∃ j0 j1 j2 j3 j4 j5 j6 j7 j8 j9 j10 j11 j12 j13 j14 j15 j16 j17 j18 j19 j20 j21 j22 j23 j24 j25, s = ⟨[j0, j1, j2, j3, j4, j5, j6, j7, j8, j9, j10, j11, j12, j13, j14, j15, j16, j17, j18, j19, j20, j21, j22, j23, j24, j25], H, [], ro, []⟩ else e = .ret ∧ ∃ j0 j1 j2 j3 j5 j6 j7 j8 j9 j10 j11 j12 j13 j14 j15 j16 j17 j18 j19 j20 j21 j22 j23 j24 j25, s = ⟨[j0, j1, j2, j3, .bool false, j5, j6, j7, j8, j9, j10, j11, j12, j13, j14, j15, j16, j17, j18, j19, j20, j21, j22, j23, j24, j25], H, [], ro, []⟩ := by
  intro n
  induction n with
  | zero =>
    intro i s1 s2 j2 j3 j5 j6 j7 j8 j9 j10 j11 j14 j15 j16 j17 j18 j19 j20 j21 j22 j23 j24 j25 hs1 hs2 hi
    have hd : decide ((i : Int) < (xs.length : Int)) = false := by simp; omega
    have hq1 : xs.drop i = [] := List.drop_eq_nil_of_le (by omega)
    have hq2 : ys.drop i = [] := List.drop_eq_nil_of_le (by omega)
    simp only [go_sem, Nat.reduceAdd, Nat.reduceSub, Nat.reduceMul, Nat.reduceDiv, Nat.reduceMod, Nat.reducePow, Nat.reduceLeDiff, Nat.reduceLT, Nat.reduceEqDiff, Nat.reduceBEq, Nat.reduceBNe, Int.reduceAdd, Int.reduceSub, Int.reduceMul, Int.reducePow, Int.reduceLE, Int.reduceLT, Int.reduceEq, Int.reduceToNat, Int.reduceNeg, reduceCtorEq, Nat.add_zero, Nat.zero_add, beq_self_eq_true, Try.f26]
    rw [execT_loop]
    simp only [go_sem, Nat.reduceAdd, Nat.reduceSub, Nat.reduceMul, Nat.reduceDiv, Nat.reduceMod, Nat.reducePow, Nat.reduceLeDiff, Nat.reduceLT, Nat.reduceEqDiff, Nat.reduceBEq, Nat.reduceBNe, Int.reduceAdd, Int.reduceSub, Int.reduceMul, Int.reducePow, Int.reduceLE, Int.reduceLT, Int.reduceEq, Int.reduceToNat, Int.reduceNeg, reduceCtorEq, Nat.add_zero, Nat.zero_add, beq_self_eq_true, hd, hq1, hq2]
    exact ⟨_, _, _, _, _, _, _, _, _, _, _, _, _, _, _, _, _, _, _, _, _, _, _, _, _, _, rfl⟩
  | succ n ih =>
    intro i s1 s2 j2 j3 j5 j6 j7 j8 j9 j10 j11 j14 j15 j16 j17 j18 j19 j20 j21 j22 j23 j24 j25 hs1 hs2 hi
    have hd : decide ((i : Int) < (xs.length : Int)) = true := by simp; omega
    have h0 : (0 : Int) ≤ (i : Int) := by omega
    obtain ⟨x, hx, hxd⟩ := get_drop (show i < xs.length by omega)
    obtain ⟨y, hy, hyd⟩ := get_drop (show i < ys.length by omega)
    have e1 : s1 = 1 := by rcases hs1 with rfl | h; · simp at hx
                           · exact h
    have e2 : s2 = 1 := by rcases hs2 with rfl | h; · simp at hy
                           · exact h
    subst e1 e2
    have hx' : (xs.map (AVal.int .u64))[(i : Int).toNat]? = some (.int .u64 x) := get_map hx
    have hy' : (ys.map (AVal.int .u64))[(i : Int).toNat]? = some (.int .u64 y) := get_map hy
    have ih' := ih (i + 1) 1 1
    simp only [go_sem, Nat.reduceAdd, Nat.reduceSub, Nat.reduceMul, Nat.reduceDiv, Nat.reduceMod, Nat.reducePow, Nat.reduceLeDiff, Nat.reduceLT, Nat.reduceEqDiff, Nat.reduceBEq, Nat.reduceBNe, Int.reduceAdd, Int.reduceSub, Int.reduceMul, Int.reducePow, Int.reduceLE, Int.reduceLT, Int.reduceEq, Int.reduceToNat, Int.reduceNeg, reduceCtorEq, Nat.add_zero, Nat.zero_add, beq_self_eq_true, Try.f26] at ih' ⊢
    rw [execT_loop, hxd, hyd]
    by_cases hxy : x = y
    · subst hxy
      simp only [go_sem, Nat.reduceAdd, Nat.reduceSub, Nat.reduceMul, Nat.reduceDiv, Nat.reduceMod, Nat.reducePow, Nat.reduceLeDiff, Nat.reduceLT, Nat.reduceEqDiff, Nat.reduceBEq, Nat.reduceBNe, Int.reduceAdd, Int.reduceSub, Int.reduceMul, Int.reducePow, Int.reduceLE, Int.reduceLT, Int.reduceEq, Int.reduceToNat, Int.reduceNeg, reduceCtorEq, Nat.add_zero, Nat.zero_add, beq_self_eq_true, hd, h0, hx', hy', wrap_succ (show i < 2 ^ 63 - 1 by omega), List.cons.injEq]
      exact ih' _ _ _ _ _ _ _ _ _ _ _ _ _ _ _ _ _ _ _ _ _ (.inr trivial) (.inr trivial) (by omega)
    · have hb : decide (x = y) = false := by simpa using hxy
      have hcc : ∀ a b : List Int, (x :: a = y :: b) = False := by intro a b; simp [hxy]
      simp only [go_sem, Nat.reduceAdd, Nat.reduceSub, Nat.reduceMul, Nat.reduceDiv, Nat.reduceMod, Nat.reducePow, Nat.reduceLeDiff, Nat.reduceLT, Nat.reduceEqDiff, Nat.reduceBEq, Nat.reduceBNe, Int.reduceAdd, Int.reduceSub, Int.reduceMul, Int.reducePow, Int.reduceLE, Int.reduceLT, Int.reduceEq, Int.reduceToNat, Int.reduceNeg, reduceCtorEq, Nat.add_zero, Nat.zero_add, beq_self_eq_true, hd, h0, hx', hy', hb, hcc]
      exact ⟨_, _, _, _, _, _, _, _, _, _, _, _, _, _, _, _, _, _, _, _, _, _, _, _, _, rfl⟩

theorem equal_call (c1 c2 : Bool) (s1 s2 : Nat) (xs ys : List Int) (hs1 : xs = [] ∨ s1 = 1) (hs2 : ys = [] ∨ s2 = 1) (hlen : xs.length < 2 ^ 63) (ro : Nat) (H : Heap) (nx : Nat) :
    callT env 26 [.lit c1 s1 (xs.map (.int .u64)), .lit c2 s2 (ys.map (.int .u64))] ro H nx = some (.ret (.bool (decide (xs = ys))), .ups []) := by
  refine call_pure (H' := []) rfl rfl rfl (by simp [underL, AVal.under]) ?_ rfl ro H nx
  rw [run_unfold fn26 rfl]
  by_cases hl : xs.length = ys.length
  · have d1 : decide ((xs.length : Int) = (ys.length : Int)) = true := by simp only [decide_eq_true_eq]; omega
    obtain ⟨e, s, hx, hp⟩ := equal_loop (c1 := c1) (c2 := c2) xs ys hl hlen [] 0 xs.length 0 s1 s2 _ _ _ _ _ _ _ _ _ _ _ _ _ _ _ _ _ _ _ _ _ hs1 hs2 (by omega)
    simp only [List.drop_zero] at hp
    simp only [go_sem, Nat.reduceAdd, Nat.reduceSub, Nat.reduceMul, Nat.reduceDiv, Nat.reduceMod, Nat.reducePow, Nat.reduceLeDiff, Nat.reduceLT, Nat.reduceEqDiff, Nat.reduceBEq, Nat.reduceBNe, Int.reduceAdd, Int.reduceSub, Int.reduceMul, Int.reducePow, Int.reduceLE, Int.reduceLT, Int.reduceEq, Int.reduceToNat, Int.reduceNeg, reduceCtorEq, Nat.add_zero, Nat.zero_add, beq_self_eq_true, Try.f26, Int.ofNat_zero, Int.natCast_zero] at hx
    simp only [go_sem, Nat.reduceAdd, Nat.reduceSub, Nat.reduceMul, Nat.reduceDiv, Nat.reduceMod, Nat.reducePow, Nat.reduceLeDiff, Nat.reduceLT, Nat.reduceEqDiff, Nat.reduceBEq, Nat.reduceBNe, Int.reduceAdd, Int.reduceSub, Int.reduceMul, Int.reducePow, Int.reduceLE, Int.reduceLT, Int.reduceEq, Int.reduceToNat, Int.reduceNeg, reduceCtorEq, Nat.add_zero, Nat.zero_add, beq_self_eq_true, Try.f26, List.length_map, d1]
    rw [hx]
    by_cases hxy : xs = ys
    · rw [if_pos hxy] at hp
      obtain ⟨rfl, j0, j1, j2, j3, j4, j5, j6, j7, j8, j9, j10, j11, j12, j13, j14, j15, j16, j17, j18, j19, j20, j21, j22, j23, j24, j25, rfl⟩ := hp
      simp only [go_sem, Nat.reduceAdd, Nat.reduceSub, Nat.reduceMul, Nat.reduceDiv, Nat.reduceMod, Nat.reducePow, Nat.reduceLeDiff, Nat.reduceLT, Nat.reduceEqDiff, Nat.reduceBEq, Nat.reduceBNe, Int.reduceAdd, Int.reduceSub, Int.reduceMul, Int.reducePow, Int.reduceLE, Int.reduceLT, Int.reduceEq, Int.reduceToNat, Int.reduceNeg, reduceCtorEq, Nat.add_zero, Nat.zero_add, beq_self_eq_true, unwind, modeEx, resultsOf, one, hxy]
    · rw [if_neg hxy] at hp
      obtain ⟨rfl, j0, j1, j2, j3, j5, j6, j7, j8, j9, j10, j11, j12, j13, j14, j15, j16, j17, j18, j19, j20, j21, j22, j23, j24, j25, rfl⟩ := hp
      simp only [go_sem, Nat.reduceAdd, Nat.reduceSub, Nat.reduceMul, Nat.reduceDiv, Nat.reduceMod, Nat.reducePow, Nat.reduceLeDiff, Nat.reduceLT, Nat.reduceEqDiff, Nat.reduceBEq, Nat.reduceBNe, Int.reduceAdd, Int.reduceSub, Int.reduceMul, Int.reducePow, Int.reduceLE, Int.reduceLT, Int.reduceEq, Int.reduceToNat, Int.reduceNeg, reduceCtorEq, Nat.add_zero, Nat.zero_add, beq_self_eq_true, unwind, modeEx, resultsOf, one, hxy]
  · have d1 : decide ((xs.length : Int) = (ys.length : Int)) = false := by simp only [decide_eq_false_iff_not]; omega
    have hxy : xs ≠ ys := by rintro rfl; exact hl rfl
    simp only [go_sem, Nat.reduceAdd, Nat.reduceSub, Nat.reduceMul, Nat.reduceDiv, Nat.reduceMod, Nat.reducePow, Nat.reduceLeDiff, Nat.reduceLT, Nat.reduceEqDiff, Nat.reduceBEq, Nat.reduceBNe, Int.reduceAdd, Int.reduceSub, Int.reduceMul, Int.reducePow, Int.reduceLE, Int.reduceLT, Int.reduceEq, Int.reduceToNat, Int.reduceNeg, reduceCtorEq, Nat.add_zero, Nat.zero_add, beq_self_eq_true, Try.f26, List.length_map, d1, unwind, modeEx, resultsOf, one, hxy]

/-- what a path makes of a hash; the path from its end -/
def climbR (of : Int) : Nat → Nat → List Int → Int × Bool
  | many, _, [] => (of, decide (many = 1))
  | many, pos, h :: r => if many = 1 then (of, false) else
      if pos < splitS many then (nodeI (climbR of (splitS many) pos r).1 h, (climbR of (splitS many) pos r).2)
      else (nodeI h (climbR of (many - splitS many) (pos - splitS many) r).1, (climbR of (many - splitS many) (pos - splitS many) r).2)

def u64s (l : List Int) : Prop := ∀ x ∈ l, 0 ≤ x ∧ x ≤ 18446744073709551615

theorem climbR_range {of : Int} (ho : 0 ≤ of ∧ of ≤ 18446744073709551615) : ∀ (many pos : Nat) (r : List Int), 0 ≤ (climbR of many pos r).1 ∧ (climbR of many pos r).1 ≤ 18446744073709551615
  | many, pos, [] => ho
  | many, pos, h :: r => by
    unfold climbR
    split
    · exact ho
    · split
      · exact node_range _ _
      · exact node_range _ _

theorem sl35_to (cl : Bool) (l : List Int) (k : Nat) (hk : k ≤ l.length) (H : Heap) : sliceOp env H 35 (.lit cl 1 (l.map (.int .u64))) none (some (.int .i64 k)) none = some (.lit (cl && k == l.length) 1 ((l.take k).map (.int .u64))) := by
  rw [slice_to (te := ⟨.int .u64, 1, 8, .int .u64 (0)⟩) ti35 ti25 (by simpa using hk), List.length_map, List.map_take]
theorem sl35_to3 (cl : Bool) (l : List Int) (k : Nat) (hk : k ≤ l.length) (H : Heap) : sliceOp env H 35 (.lit cl 1 (l.map (.int .u64))) none (some (.int .i64 k)) (some (.int .i64 k)) = some (.lit true 1 ((l.take k).map (.int .u64))) := by
  rw [slice_to3 (te := ⟨.int .u64, 1, 8, .int .u64 (0)⟩) ti35 ti25 (by simpa using hk), List.map_take]

theorem rnode_call1 {a b : Int} (ha : 0 ≤ a ∧ a ≤ 18446744073709551615) (hb : 0 ≤ b ∧ b ≤ 18446744073709551615) (ro : Nat) (H : Heap) (nx : Nat) : callT env 23 [.int .u64 a, .int .u64 b] ro H nx = some (.ret (.int .u64 (nodeI a b)), .ups []) := by
  rw [rnode_call, node_eq ha.1 ha.2 hb.1 hb.2]

theorem wrap_sub {a b : Nat} (h : b ≤ a) (ha : a < 2 ^ 63) : IntKind.i64.wrap ((a : Int) - (b : Int)) = ((a - b : Nat) : Int) := by
  rw [i64_in _ (by omega)]; omega
theorem wrap_pred {a : Nat} (ha : a < 2 ^ 63) : IntKind.i64.wrap (((a + 1 : Nat) : Int) - 1) = (a : Int) := by
  rw [i64_in _ (by omega)]; omega

theorem node_call1 {a b : Int} (_ : 0 ≤ a ∧ a ≤ 18446744073709551615) (_ : 0 ≤ b ∧ b ≤ 18446744073709551615) (ro : Nat) (H : Heap) (nx : Nat) : callT env 22 [.int .u64 a, .int .u64 b] ro H nx = some (.ret (.int .u64 (nodeI a b)), .ups []) := node_call a b ro H nx

theorem climb_call (of : Int) (ho : 0 ≤ of ∧ of ≤ 18446744073709551615) : ∀ (r : List Int), u64s r → r.length < 2 ^ 63 → ∀ (many pos : Nat) (cl : Bool) (sz : Nat), 1 ≤ many → many ≤ 512 → pos < many → (r = [] ∨ sz = 1) → ∀ ro H nx,
    callT env 91 [.int .u64 of, .int .i64 many, .int .i64 pos, .lit cl sz (r.reverse.map (.int .u64))] ro H nx = some (.ret (.tuple [.int .u64 (climbR of many pos r).1, .bool (climbR of many pos r).2]), .ups []) := by
  intro r
  induction r with
  | nil =>
    intro _ _ many pos cl sz h1 h2 h3 _ ro H nx
    refine call_pure (H' := []) rfl rfl rfl rfl ?_ rfl ro H nx
    rw [run_unfold fn91 rfl]
    cases hd : decide ((many : Int) = 1) with
    | true =>
      have hm : many = 1 := by simp only [decide_eq_true_eq] at hd; omega
      simp only [go_sem, Nat.reduceAdd, Nat.reduceSub, Nat.reduceMul, Nat.reduceDiv, Nat.reduceMod, Nat.reducePow, Nat.reduceLeDiff, Nat.reduceLT, Nat.reduceEqDiff, Nat.reduceBEq, Nat.reduceBNe, Int.reduceAdd, Int.reduceSub, Int.reduceMul, Int.reducePow, Int.reduceLE, Int.reduceLT, Int.reduceEq, Int.reduceToNat, Int.reduceNeg, reduceCtorEq, Nat.add_zero, Nat.zero_add, beq_self_eq_true, Try.f91, hd, List.reverse_nil, unwind, modeEx, resultsOf, one, climbR, hm, Int.natCast_one, Int.natCast_zero, Int.ofNat_zero]
    | false =>
      have hm : ¬ many = 1 := by simp only [decide_eq_false_iff_not] at hd; omega
      simp only [go_sem, Nat.reduceAdd, Nat.reduceSub, Nat.reduceMul, Nat.reduceDiv, Nat.reduceMod, Nat.reducePow, Nat.reduceLeDiff, Nat.reduceLT, Nat.reduceEqDiff, Nat.reduceBEq, Nat.reduceBNe, Int.reduceAdd, Int.reduceSub, Int.reduceMul, Int.reducePow, Int.reduceLE, Int.reduceLT, Int.reduceEq, Int.reduceToNat, Int.reduceNeg, reduceCtorEq, Nat.add_zero, Nat.zero_add, beq_self_eq_true, Try.f91, hd, List.reverse_nil, unwind, modeEx, resultsOf, one, climbR, hm, Int.natCast_zero, Int.ofNat_zero]
  | cons h r ih =>
    intro hu hl many pos cl sz h1 h2 h3 hsz ro H nx
    obtain rfl : sz = 1 := by rcases hsz with h | h; · cases h
                              · exact h
    have hh := hu h (by simp)
    have hu' : u64s r := fun x hx => hu x (by simp [hx])
    have hl' : r.length < 2 ^ 63 := by simp only [List.length_cons] at hl; omega
    have hrl : r.length + 1 < 2 ^ 63 := by simpa using hl
    refine call_pure (H' := []) rfl rfl rfl (by simp [underL, AVal.under]) ?_ rfl ro H nx
    rw [run_unfold fn91 rfl]
    have d0 : decide (((r.length + 1 : Nat) : Int) = 0) = false := by simp only [decide_eq_false_iff_not]; omega
    by_cases hm : many = 1
    · have hd : decide ((many : Int) = 1) = true := by simp only [decide_eq_true_eq]; omega
      simp only [go_sem, Nat.reduceAdd, Nat.reduceSub, Nat.reduceMul, Nat.reduceDiv, Nat.reduceMod, Nat.reducePow, Nat.reduceLeDiff, Nat.reduceLT, Nat.reduceEqDiff, Nat.reduceBEq, Nat.reduceBNe, Int.reduceAdd, Int.reduceSub, Int.reduceMul, Int.reducePow, Int.reduceLE, Int.reduceLT, Int.reduceEq, Int.reduceToNat, Int.reduceNeg, reduceCtorEq, Nat.add_zero, Nat.zero_add, beq_self_eq_true, Try.f91, hd, d0, List.length_map, List.length_reverse, unwind, modeEx, resultsOf, one, climbR, hm, Int.natCast_one]
    · have hd : decide ((many : Int) = 1) = false := by simp only [decide_eq_false_iff_not]; omega
      have hs := splitS_lt (n := many) (by omega)
      have e0 : (0 : Int) ≤ (r.length : Int) := by omega
      have hg : ((r.reverse ++ [h]).map (AVal.int .u64))[((r.length : Nat) : Int).toNat]? = some (.int .u64 h) := get_map (by simp)
      have ht : (r.reverse ++ [h]).take r.length = r.reverse := by
        rw [show r.length = r.reverse.length from by simp]; exact List.take_left' rfl
      by_cases hp : pos < splitS many
      · have d2 : decide ((pos : Int) < (splitS many : Int)) = true := by simp only [decide_eq_true_eq]; omega
        have hrec := fun cl ro H nx => ih hu' hl' (splitS many) pos cl 1 (by omega) (by omega) hp (.inr rfl) ro H nx
        have hn := fun ro H nx => node_call1 (climbR_range ho (splitS many) pos r) hh ro H nx
        simp only [go_sem, Nat.reduceAdd, Nat.reduceSub, Nat.reduceMul, Nat.reduceDiv, Nat.reduceMod, Nat.reducePow, Nat.reduceLeDiff, Nat.reduceLT, Nat.reduceEqDiff, Nat.reduceBEq, Nat.reduceBNe, Int.reduceAdd, Int.reduceSub, Int.reduceMul, Int.reducePow, Int.reduceLE, Int.reduceLT, Int.reduceEq, Int.reduceToNat, Int.reduceNeg, reduceCtorEq, Nat.add_zero, Nat.zero_add, beq_self_eq_true, Try.f91, hd, d0, d2, List.reverse_cons, List.length_map, List.length_append, List.length_reverse, wrap_pred (show r.length < 2 ^ 63 by omega), split_call (n := many) (by omega) (by omega), sl35_to _ _ _ (show r.length ≤ (r.reverse ++ [h]).length by simp), ht, hrec, e0, hg, hn, unwind, modeEx, resultsOf, one, climbR, hm, hp]
      · have d2 : decide ((pos : Int) < (splitS many : Int)) = false := by simp only [decide_eq_false_iff_not]; omega
        have hrec := fun cl ro H nx => ih hu' hl' (many - splitS many) (pos - splitS many) cl 1 (by omega) (by omega) (by omega) (.inr rfl) ro H nx
        have hn := fun ro H nx => node_call1 hh (climbR_range ho (many - splitS many) (pos - splitS many) r) ro H nx
        simp only [go_sem, Nat.reduceAdd, Nat.reduceSub, Nat.reduceMul, Nat.reduceDiv, Nat.reduceMod, Nat.reducePow, Nat.reduceLeDiff, Nat.reduceLT, Nat.reduceEqDiff, Nat.reduceBEq, Nat.reduceBNe, Int.reduceAdd, Int.reduceSub, Int.reduceMul, Int.reducePow, Int.reduceLE, Int.reduceLT, Int.reduceEq, Int.reduceToNat, Int.reduceNeg, reduceCtorEq, Nat.add_zero, Nat.zero_add, beq_self_eq_true, Try.f91, hd, d0, d2, List.reverse_cons, List.length_map, List.length_append, List.length_reverse, wrap_pred (show r.length < 2 ^ 63 by omega), wrap_sub (show splitS many ≤ many by omega) (by omega), wrap_sub (show splitS many ≤ pos by omega) (by omega), split_call (n := many) (by omega) (by omega), sl35_to _ _ _ (show r.length ≤ (r.reverse ++ [h]).length by simp), ht, hrec, e0, hg, hn, unwind, modeEx, resultsOf, one, climbR, hm, hp]

theorem made_call (of : Int) (ho : 0 ≤ of ∧ of ≤ 18446744073709551615) : ∀ (r : List Int), u64s r → r.length < 2 ^ 63 → ∀ (many pos : Nat) (cl : Bool) (sz : Nat), 1 ≤ many → many ≤ 512 → pos < many → (r = [] ∨ sz = 1) → ∀ ro H nx,
    callT env 92 [.int .u64 of, .int .i64 many, .int .i64 pos, .lit cl sz (r.reverse.map (.int .u64))] ro H nx = some (.ret (.tuple [.int .u64 (climbR of many pos r).1, .bool (climbR of many pos r).2]), .ups []) := by
  intro r
  induction r with
  | nil =>
    intro _ _ many pos cl sz h1 h2 h3 _ ro H nx
    refine call_pure (H' := []) rfl rfl rfl rfl ?_ rfl ro H nx
    rw [run_unfold fn92 rfl]
    cases hd : decide ((many : Int) = 1) with
    | true =>
      have hm : many = 1 := by simp only [decide_eq_true_eq] at hd; omega
      simp only [go_sem, Nat.reduceAdd, Nat.reduceSub, Nat.reduceMul, Nat.reduceDiv, Nat.reduceMod, Nat.reducePow, Nat.reduceLeDiff, Nat.reduceLT, Nat.reduceEqDiff, Nat.reduceBEq, Nat.reduceBNe, Int.reduceAdd, Int.reduceSub, Int.reduceMul, Int.reducePow, Int.reduceLE, Int.reduceLT, Int.reduceEq, Int.reduceToNat, Int.reduceNeg, reduceCtorEq, Nat.add_zero, Nat.zero_add, beq_self_eq_true, Try.f92, hd, List.reverse_nil, unwind, modeEx, resultsOf, one, climbR, hm, Int.natCast_one, Int.natCast_zero, Int.ofNat_zero]
    | false =>
      have hm : ¬ many = 1 := by simp only [decide_eq_false_iff_not] at hd; omega
      simp only [go_sem, Nat.reduceAdd, Nat.reduceSub, Nat.reduceMul, Nat.reduceDiv, Nat.reduceMod, Nat.reducePow, Nat.reduceLeDiff, Nat.reduceLT, Nat.reduceEqDiff, Nat.reduceBEq, Nat.reduceBNe, Int.reduceAdd, Int.reduceSub, Int.reduceMul, Int.reducePow, Int.reduceLE, Int.reduceLT, Int.reduceEq, Int.reduceToNat, Int.reduceNeg, reduceCtorEq, Nat.add_zero, Nat.zero_add, beq_self_eq_true, Try.f92, hd, List.reverse_nil, unwind, modeEx, resultsOf, one, climbR, hm, Int.natCast_zero, Int.ofNat_zero]
  | cons h r ih =>
    intro hu hl many pos cl sz h1 h2 h3 hsz ro H nx
    obtain rfl : sz = 1 := by rcases hsz with h | h; · cases h
                              · exact h
    have hh := hu h (by simp)
    have hu' : u64s r := fun x hx => hu x (by simp [hx])
    have hl' : r.length < 2 ^ 63 := by simp only [List.length_cons] at hl; omega
    have hrl : r.length + 1 < 2 ^ 63 := by simpa using hl
    refine call_pure (H' := []) rfl rfl rfl (by simp [underL, AVal.under]) ?_ rfl ro H nx
    rw [run_unfold fn92 rfl]
    have d0 : decide (((r.length + 1 : Nat) : Int) = 0) = false := by simp only [decide_eq_false_iff_not]; omega
    by_cases hm : many = 1
    · have hd : decide ((many : Int) = 1) = true := by simp only [decide_eq_true_eq]; omega
      simp only [go_sem, Nat.reduceAdd, Nat.reduceSub, Nat.reduceMul, Nat.reduceDiv, Nat.reduceMod, Nat.reducePow, Nat.reduceLeDiff, Nat.reduceLT, Nat.reduceEqDiff, Nat.reduceBEq, Nat.reduceBNe, Int.reduceAdd, Int.reduceSub, Int.reduceMul, Int.reducePow, Int.reduceLE, Int.reduceLT, Int.reduceEq, Int.reduceToNat, Int.reduceNeg, reduceCtorEq, Nat.add_zero, Nat.zero_add, beq_self_eq_true, Try.f92, hd, d0, List.length_map, List.length_reverse, unwind, modeEx, resultsOf, one, climbR, hm, Int.natCast_one]
    · have hd : decide ((many : Int) = 1) = false := by simp only [decide_eq_false_iff_not]; omega
      have hs := splitS_lt (n := many) (by omega)
      have e0 : (0 : Int) ≤ (r.length : Int) := by omega
      have hg : ((r.reverse ++ [h]).map (AVal.int .u64))[((r.length : Nat) : Int).toNat]? = some (.int .u64 h) := get_map (by simp)
      have ht : (r.reverse ++ [h]).take r.length = r.reverse := by
        rw [show r.length = r.reverse.length from by simp]; exact List.take_left' rfl
      by_cases hp : pos < splitS many
      · have d2 : decide ((pos : Int) < (splitS many : Int)) = true := by simp only [decide_eq_true_eq]; omega
        have hrec := fun cl ro H nx => ih hu' hl' (splitS many) pos cl 1 (by omega) (by omega) hp (.inr rfl) ro H nx
        have hn := fun ro H nx => rnode_call1 (climbR_range ho (splitS many) pos r) hh ro H nx
        simp only [go_sem, Nat.reduceAdd, Nat.reduceSub, Nat.reduceMul, Nat.reduceDiv, Nat.reduceMod, Nat.reducePow, Nat.reduceLeDiff, Nat.reduceLT, Nat.reduceEqDiff, Nat.reduceBEq, Nat.reduceBNe, Int.reduceAdd, Int.reduceSub, Int.reduceMul, Int.reducePow, Int.reduceLE, Int.reduceLT, Int.reduceEq, Int.reduceToNat, Int.reduceNeg, reduceCtorEq, Nat.add_zero, Nat.zero_add, beq_self_eq_true, Try.f92, hd, d0, d2, List.reverse_cons, List.length_map, List.length_append, List.length_reverse, wrap_pred (show r.length < 2 ^ 63 by omega), rsplit_call (n := many) (by omega) (by omega), sl35_to3 _ _ _ (show r.length ≤ (r.reverse ++ [h]).length by simp), ht, hrec, e0, hg, hn, unwind, modeEx, resultsOf, one, climbR, hm, hp]
      · have d2 : decide ((pos : Int) < (splitS many : Int)) = false := by simp only [decide_eq_false_iff_not]; omega
        have hrec := fun cl ro H nx => ih hu' hl' (many - splitS many) (pos - splitS many) cl 1 (by omega) (by omega) (by omega) (.inr rfl) ro H nx
        have hn := fun ro H nx => rnode_call1 hh (climbR_range ho (many - splitS many) (pos - splitS many) r) ro H nx
        simp only [go_sem, Nat.reduceAdd, Nat.reduceSub, Nat.reduceMul, Nat.reduceDiv, Nat.reduceMod, Nat.reducePow, Nat.reduceLeDiff, Nat.reduceLT, Nat.reduceEqDiff, Nat.reduceBEq, Nat.reduceBNe, Int.reduceAdd, Int.reduceSub, Int.reduceMul, Int.reducePow, Int.reduceLE, Int.reduceLT, Int.reduceEq, Int.reduceToNat, Int.reduceNeg, reduceCtorEq, Nat.add_zero, Nat.zero_add, beq_self_eq_true, Try.f92, hd, d0, d2, List.reverse_cons, List.length_map, List.length_append, List.length_reverse, wrap_pred (show r.length < 2 ^ 63 by omega), wrap_sub (show splitS many ≤ many by omega) (by omega), wrap_sub (show splitS many ≤ pos by omega) (by omega), rsplit_call (n := many) (by omega) (by omega), sl35_to3 _ _ _ (show r.length ≤ (r.reverse ++ [h]).length by simp), ht, hrec, e0, hg, hn, unwind, modeEx, resultsOf, one, climbR, hm, hp]

/-- what CheckPath tells -/
def chkPathS (root many pos : Int) (e : Entry) (p : List Int) : Int :=
  if e.ok then (if decide (many < 1) || decide (512 < many) || decide (pos < 0) || decide (many ≤ pos) then 1 else
    if (climbR (leafI e) many.toNat pos.toNat p.reverse).2 && decide ((climbR (leafI e) many.toNat pos.toNat p.reverse).1 = root) then 0 else 94) else 90

theorem leaf_call1 (e : Entry) (hb : e.body.length ≤ 2 ^ 44) (ro : Nat) (H : Heap) (nx : Nat) : callT env 79 [e.enc] ro H nx = some (.ret (.int .u64 (leafI e)), .ups []) := leaf_call e hb ro H nx
theorem rleaf_call1 (e : Entry) (hb : e.body.length ≤ 2 ^ 44) (ro : Nat) (H : Heap) (nx : Nat) : callT env 80 [e.enc] ro H nx = some (.ret (.int .u64 (leafI e)), .ups []) := by
  rw [rleaf_call e hb, leaf_eq e (by omega)]

theorem CheckPath_call (root many pos : Int) (e : Entry) (cl : Bool) (sz : Nat) (p : List Int) (hp : u64s p) (hlen : p.length < 2 ^ 63) (hsz : p = [] ∨ sz = 1) (ro : Nat) (H : Heap) (nx : Nat) :
    callT env 27 [.int .u64 root, .int .i64 many, .int .i64 pos, e.enc, .lit cl sz (p.map (.int .u64))] ro H nx = some (.ret (.int .i64 (chkPathS root many pos e p)), .ups []) := by
  have : ∃ H', runT env 27 [.int .u64 root, .int .i64 many, .int .i64 pos, e.enc, .lit cl sz (p.map (.int .u64))] [] 0 = some (.ret (.int .i64 (chkPathS root many pos e p)), H') := by
    rw [run_unfold fn27 rfl]
    unfold chkPathS
    cases hok : e.ok with
    | false =>
      have he : erS e = 90 := by unfold erS; rw [hok]; rfl
      simp only [go_sem, Nat.reduceAdd, Nat.reduceSub, Nat.reduceMul, Nat.reduceDiv, Nat.reduceMod, Nat.reducePow, Nat.reduceLeDiff, Nat.reduceLT, Nat.reduceEqDiff, Nat.reduceBEq, Nat.reduceBNe, Int.reduceAdd, Int.reduceSub, Int.reduceMul, Int.reducePow, Int.reduceLE, Int.reduceLT, Int.reduceEq, Int.reduceToNat, Int.reduceNeg, reduceCtorEq, Nat.add_zero, Nat.zero_add, beq_self_eq_true, Try.f27, check_call, he, unwind, modeEx, resultsOf, one]
      exact ⟨_, rfl⟩
    | true =>
      have he : erS e = 0 := by unfold erS; rw [hok]; rfl
      have hb := ok_small hok
      cases h1 : decide (many < 1) with
      | true => simp only [go_sem, Nat.reduceAdd, Nat.reduceSub, Nat.reduceMul, Nat.reduceDiv, Nat.reduceMod, Nat.reducePow, Nat.reduceLeDiff, Nat.reduceLT, Nat.reduceEqDiff, Nat.reduceBEq, Nat.reduceBNe, Int.reduceAdd, Int.reduceSub, Int.reduceMul, Int.reducePow, Int.reduceLE, Int.reduceLT, Int.reduceEq, Int.reduceToNat, Int.reduceNeg, reduceCtorEq, Nat.add_zero, Nat.zero_add, beq_self_eq_true, Try.f27, check_call, he, h1, unwind, modeEx, resultsOf, one]; exact ⟨_, rfl⟩
      | false =>
        cases h2 : decide (512 < many) with
        | true => simp only [go_sem, Nat.reduceAdd, Nat.reduceSub, Nat.reduceMul, Nat.reduceDiv, Nat.reduceMod, Nat.reducePow, Nat.reduceLeDiff, Nat.reduceLT, Nat.reduceEqDiff, Nat.reduceBEq, Nat.reduceBNe, Int.reduceAdd, Int.reduceSub, Int.reduceMul, Int.reducePow, Int.reduceLE, Int.reduceLT, Int.reduceEq, Int.reduceToNat, Int.reduceNeg, reduceCtorEq, Nat.add_zero, Nat.zero_add, beq_self_eq_true, Try.f27, check_call, he, h1, h2, unwind, modeEx, resultsOf, one]; exact ⟨_, rfl⟩
        | false =>
          cases h3 : decide (pos < 0) with
          | true => simp only [go_sem, Nat.reduceAdd, Nat.reduceSub, Nat.reduceMul, Nat.reduceDiv, Nat.reduceMod, Nat.reducePow, Nat.reduceLeDiff, Nat.reduceLT, Nat.reduceEqDiff, Nat.reduceBEq, Nat.reduceBNe, Int.reduceAdd, Int.reduceSub, Int.reduceMul, Int.reducePow, Int.reduceLE, Int.reduceLT, Int.reduceEq, Int.reduceToNat, Int.reduceNeg, reduceCtorEq, Nat.add_zero, Nat.zero_add, beq_self_eq_true, Try.f27, check_call, he, h1, h2, h3, unwind, modeEx, resultsOf, one]; exact ⟨_, rfl⟩
          | false =>
            cases h4 : decide (many ≤ pos) with
            | true => simp only [go_sem, Nat.reduceAdd, Nat.reduceSub, Nat.reduceMul, Nat.reduceDiv, Nat.reduceMod, Nat.reducePow, Nat.reduceLeDiff, Nat.reduceLT, Nat.reduceEqDiff, Nat.reduceBEq, Nat.reduceBNe, Int.reduceAdd, Int.reduceSub, Int.reduceMul, Int.reducePow, Int.reduceLE, Int.reduceLT, Int.reduceEq, Int.reduceToNat, Int.reduceNeg, reduceCtorEq, Nat.add_zero, Nat.zero_add, beq_self_eq_true, Try.f27, check_call, he, h1, h2, h3, h4, unwind, modeEx, resultsOf, one]; exact ⟨_, rfl⟩
            | false =>
              simp only [decide_eq_false_iff_not] at h1 h2 h3 h4
              obtain ⟨m, rfl⟩ : ∃ m : Nat, many = m := ⟨many.toNat, by omega⟩
              obtain ⟨q, rfl⟩ : ∃ q : Nat, pos = q := ⟨pos.toNat, by omega⟩
              have hc := climb_call (leafI e) (leaf_range e) p.reverse (fun x hx => hp x (by simpa using hx)) (by simpa using hlen) m q cl sz (by omega) (by omega) (by omega) (by simpa using hsz)
              rw [List.reverse_reverse] at hc
              have d1 : decide ((m : Int) < 1) = false := by simpa using h1
              have d2 : decide (512 < (m : Int)) = false := by simpa using h2
              have d3 : decide ((q : Int) < 0) = false := by simpa using h3
              have d4 : decide ((m : Int) ≤ (q : Int)) = false := by simpa using h4
              simp only [Int.toNat_natCast]
              obtain ⟨x, ok, hq⟩ : ∃ x ok, climbR (leafI e) m q p.reverse = (x, ok) := ⟨_, _, rfl⟩
              simp only [hq] at hc ⊢
              have hlf := fun ro H nx => leaf_call1 e (show e.body.length ≤ 2 ^ 44 by omega) ro H nx
              cases ok with
              | false =>
                simp only [go_sem, Nat.reduceAdd, Nat.reduceSub, Nat.reduceMul, Nat.reduceDiv, Nat.reduceMod, Nat.reducePow, Nat.reduceLeDiff, Nat.reduceLT, Nat.reduceEqDiff, Nat.reduceBEq, Nat.reduceBNe, Int.reduceAdd, Int.reduceSub, Int.reduceMul, Int.reducePow, Int.reduceLE, Int.reduceLT, Int.reduceEq, Int.reduceToNat, Int.reduceNeg, reduceCtorEq, Nat.add_zero, Nat.zero_add, beq_self_eq_true, Try.f27, check_call, he, d1, d2, d3, d4, hlf, hc, Int.toNat_natCast, unwind, modeEx, resultsOf, one]
                exact ⟨_, rfl⟩
              | true =>
                cases h5 : decide (x = root) with
                | false => simp only [go_sem, Nat.reduceAdd, Nat.reduceSub, Nat.reduceMul, Nat.reduceDiv, Nat.reduceMod, Nat.reducePow, Nat.reduceLeDiff, Nat.reduceLT, Nat.reduceEqDiff, Nat.reduceBEq, Nat.reduceBNe, Int.reduceAdd, Int.reduceSub, Int.reduceMul, Int.reducePow, Int.reduceLE, Int.reduceLT, Int.reduceEq, Int.reduceToNat, Int.reduceNeg, reduceCtorEq, Nat.add_zero, Nat.zero_add, beq_self_eq_true, Try.f27, check_call, he, d1, d2, d3, d4, h5, hlf, hc, Int.toNat_natCast, unwind, modeEx, resultsOf, one]; exact ⟨_, rfl⟩
                | true => simp only [go_sem, Nat.reduceAdd, Nat.reduceSub, Nat.reduceMul, Nat.reduceDiv, Nat.reduceMod, Nat.reducePow, Nat.reduceLeDiff, Nat.reduceLT, Nat.reduceEqDiff, Nat.reduceBEq, Nat.reduceBNe, Int.reduceAdd, Int.reduceSub, Int.reduceMul, Int.reducePow, Int.reduceLE, Int.reduceLT, Int.reduceEq, Int.reduceToNat, Int.reduceNeg, reduceCtorEq, Nat.add_zero, Nat.zero_add, beq_self_eq_true, Try.f27, check_call, he, d1, d2, d3, d4, h5, hlf, hc, Int.toNat_natCast, unwind, modeEx, resultsOf, one]; exact ⟨_, rfl⟩
  obtain ⟨H', h⟩ := this
  exact call_pure rfl rfl rfl (by simp [underL, AVal.under, Entry.enc]) h rfl ro H nx

theorem rCheckPath_call (root many pos : Int) (e : Entry) (cl : Bool) (sz : Nat) (p : List Int) (hp : u64s p) (hlen : p.length < 2 ^ 63) (hsz : p = [] ∨ sz = 1) (ro : Nat) (H : Heap) (nx : Nat) :
    callT env 28 [.int .u64 root, .int .i64 many, .int .i64 pos, e.enc, .lit cl sz (p.map (.int .u64))] ro H nx = some (.ret (.int .i64 (chkPathS root many pos e p)), .ups []) := by
  have : ∃ H', runT env 28 [.int .u64 root, .int .i64 many, .int .i64 pos, e.enc, .lit cl sz (p.map (.int .u64))] [] 0 = some (.ret (.int .i64 (chkPathS root many pos e p)), H') := by
    rw [run_unfold fn28 rfl]
    unfold chkPathS
    cases hok : e.ok with
    | false =>
      have he : erS e = 90 := by unfold erS; rw [hok]; rfl
      simp only [go_sem, Nat.reduceAdd, Nat.reduceSub, Nat.reduceMul, Nat.reduceDiv, Nat.reduceMod, Nat.reducePow, Nat.reduceLeDiff, Nat.reduceLT, Nat.reduceEqDiff, Nat.reduceBEq, Nat.reduceBNe, Int.reduceAdd, Int.reduceSub, Int.reduceMul, Int.reducePow, Int.reduceLE, Int.reduceLT, Int.reduceEq, Int.reduceToNat, Int.reduceNeg, reduceCtorEq, Nat.add_zero, Nat.zero_add, beq_self_eq_true, Try.f28, rcheck_call, he, unwind, modeEx, resultsOf, one]
      exact ⟨_, rfl⟩
    | true =>
      have he : erS e = 0 := by unfold erS; rw [hok]; rfl
      have hb := ok_small hok
      cases h1 : decide (many < 1) with
      | true => simp only [go_sem, Nat.reduceAdd, Nat.reduceSub, Nat.reduceMul, Nat.reduceDiv, Nat.reduceMod, Nat.reducePow, Nat.reduceLeDiff, Nat.reduceLT, Nat.reduceEqDiff, Nat.reduceBEq, Nat.reduceBNe, Int.reduceAdd, Int.reduceSub, Int.reduceMul, Int.reducePow, Int.reduceLE, Int.reduceLT, Int.reduceEq, Int.reduceToNat, Int.reduceNeg, reduceCtorEq, Nat.add_zero, Nat.zero_add, beq_self_eq_true, Try.f28, rcheck_call, he, h1, unwind, modeEx, resultsOf, one]; exact ⟨_, rfl⟩
      | false =>
        cases h2 : decide (512 < many) with
        | true => simp only [go_sem, Nat.reduceAdd, Nat.reduceSub, Nat.reduceMul, Nat.reduceDiv, Nat.reduceMod, Nat.reducePow, Nat.reduceLeDiff, Nat.reduceLT, Nat.reduceEqDiff, Nat.reduceBEq, Nat.reduceBNe, Int.reduceAdd, Int.reduceSub, Int.reduceMul, Int.reducePow, Int.reduceLE, Int.reduceLT, Int.reduceEq, Int.reduceToNat, Int.reduceNeg, reduceCtorEq, Nat.add_zero, Nat.zero_add, beq_self_eq_true, Try.f28, rcheck_call, he, h1, h2, unwind, modeEx, resultsOf, one]; exact ⟨_, rfl⟩
        | false =>
          cases h3 : decide (pos < 0) with
          | true => simp only [go_sem, Nat.reduceAdd, Nat.reduceSub, Nat.reduceMul, Nat.reduceDiv, Nat.reduceMod, Nat.reducePow, Nat.reduceLeDiff, Nat.reduceLT, Nat.reduceEqDiff, Nat.reduceBEq, Nat.reduceBNe, Int.reduceAdd, Int.reduceSub, Int.reduceMul, Int.reducePow, Int.reduceLE, Int.reduceLT, Int.reduceEq, Int.reduceToNat, Int.reduceNeg, reduceCtorEq, Nat.add_zero, Nat.zero_add, beq_self_eq_true, Try.f28, rcheck_call, he, h1, h2, h3, unwind, modeEx, resultsOf, one]; exact ⟨_, rfl⟩
          | false =>
            cases h4 : decide (many ≤ pos) with
            | true => simp only [go_sem, Nat.reduceAdd, Nat.reduceSub, Nat.reduceMul, Nat.reduceDiv, Nat.reduceMod, Nat.reducePow, Nat.reduceLeDiff, Nat.reduceLT, Nat.reduceEqDiff, Nat.reduceBEq, Nat.reduceBNe, Int.reduceAdd, Int.reduceSub, Int.reduceMul, Int.reducePow, Int.reduceLE, Int.reduceLT, Int.reduceEq, Int.reduceToNat, Int.reduceNeg, reduceCtorEq, Nat.add_zero, Nat.zero_add, beq_self_eq_true, Try.f28, rcheck_call, he, h1, h2, h3, h4, unwind, modeEx, resultsOf, one]; exact ⟨_, rfl⟩
            | false =>
              simp only [decide_eq_false_iff_not] at h1 h2 h3 h4
              obtain ⟨m, rfl⟩ : ∃ m : Nat, many = m := ⟨many.toNat, by omega⟩
              obtain ⟨q, rfl⟩ : ∃ q : Nat, pos = q := ⟨pos.toNat, by omega⟩
              have hc := made_call (leafI e) (leaf_range e) p.reverse (fun x hx => hp x (by simpa using hx)) (by simpa using hlen) m q cl sz (by omega) (by omega) (by omega) (by simpa using hsz)
              rw [List.reverse_reverse] at hc
              have d1 : decide ((m : Int) < 1) = false := by simpa using h1
              have d2 : decide (512 < (m : Int)) = false := by simpa using h2
              have d3 : decide ((q : Int) < 0) = false := by simpa using h3
              have d4 : decide ((m : Int) ≤ (q : Int)) = false := by simpa using h4
              simp only [Int.toNat_natCast]
              obtain ⟨x, ok, hq⟩ : ∃ x ok, climbR (leafI e) m q p.reverse = (x, ok) := ⟨_, _, rfl⟩
              simp only [hq] at hc ⊢
              have hlf := fun ro H nx => rleaf_call1 e (show e.body.length ≤ 2 ^ 44 by omega) ro H nx
              cases ok with
              | false =>
                simp only [go_sem, Nat.reduceAdd, Nat.reduceSub, Nat.reduceMul, Nat.reduceDiv, Nat.reduceMod, Nat.reducePow, Nat.reduceLeDiff, Nat.reduceLT, Nat.reduceEqDiff, Nat.reduceBEq, Nat.reduceBNe, Int.reduceAdd, Int.reduceSub, Int.reduceMul, Int.reducePow, Int.reduceLE, Int.reduceLT, Int.reduceEq, Int.reduceToNat, Int.reduceNeg, reduceCtorEq, Nat.add_zero, Nat.zero_add, beq_self_eq_true, Try.f28, rcheck_call, he, d1, d2, d3, d4, hlf, hc, Int.toNat_natCast, unwind, modeEx, resultsOf, one]
                exact ⟨_, rfl⟩
              | true =>
                cases h5 : decide (x = root) with
                | false => simp only [go_sem, Nat.reduceAdd, Nat.reduceSub, Nat.reduceMul, Nat.reduceDiv, Nat.reduceMod, Nat.reducePow, Nat.reduceLeDiff, Nat.reduceLT, Nat.reduceEqDiff, Nat.reduceBEq, Nat.reduceBNe, Int.reduceAdd, Int.reduceSub, Int.reduceMul, Int.reducePow, Int.reduceLE, Int.reduceLT, Int.reduceEq, Int.reduceToNat, Int.reduceNeg, reduceCtorEq, Nat.add_zero, Nat.zero_add, beq_self_eq_true, Try.f28, rcheck_call, he, d1, d2, d3, d4, h5, hlf, hc, Int.toNat_natCast, unwind, modeEx, resultsOf, one]; exact ⟨_, rfl⟩
                | true => simp only [go_sem, Nat.reduceAdd, Nat.reduceSub, Nat.reduceMul, Nat.reduceDiv, Nat.reduceMod, Nat.reducePow, Nat.reduceLeDiff, Nat.reduceLT, Nat.reduceEqDiff, Nat.reduceBEq, Nat.reduceBNe, Int.reduceAdd, Int.reduceSub, Int.reduceMul, Int.reducePow, Int.reduceLE, Int.reduceLT, Int.reduceEq, Int.reduceToNat, Int.reduceNeg, reduceCtorEq, Nat.add_zero, Nat.zero_add, beq_self_eq_true, Try.f28, rcheck_call, he, d1, d2, d3, d4, h5, hlf, hc, Int.toNat_natCast, unwind, modeEx, resultsOf, one]; exact ⟨_, rfl⟩
  obtain ⟨H', h⟩ := this
  exact call_pure rfl rfl rfl (by simp [underL, AVal.under, Entry.enc]) h rfl ro H nx

end Go.Proofs.Ytamcncpgfhfheaa.Tidy

/-
  What the machine reads of arguments of the chapter: entries, lists of them, numbers.
-/
namespace Go.Proofs.Ytamcncpgfhfheaa.Tidy
open Go Go.IntWalk
set_option maxRecDepth 10000
set_option linter.unusedSimpArgs false

@[go_sem] theorem sane_call (ro : Nat) (H : Heap) (nx : Nat) : callT env 14 [] ro H nx = some (.ret (.bool true), .ups []) := by
  obtain ⟨H', h⟩ := sane_run
  exact call_pure rfl rfl rfl rfl h rfl ro H nx

/-- cells that hold an entry -/
theorem fit_entry {m : Nat} {cs : List AVal} (h : FitT env (m + 2) 23 cs) : ∃ e : Entry, cs = [.int .i64 e.office, .int .i64 e.no, .str e.body] ∧ e.body.length ≤ maxLen := by
  simp only [FitT, ti23, ti3, ti9, List.map_cons, List.map_nil, FitF] at h
  obtain ⟨_, _, rfl, ⟨o, rfl, _⟩, _, _, rfl, ⟨n, rfl, _⟩, _, _, rfl, ⟨b, rfl, hb⟩, rfl⟩ := h
  exact ⟨⟨o, n, b⟩, rfl, hb⟩

theorem pack_entry {cs : List AVal} {e : Entry} {n m : Nat} {z : AVal} {fs : List (Nat × Nat)} (h : cs = [.int .i64 e.office, .int .i64 e.no, .str e.body]) : pack ⟨.struct fs, n, m, z⟩ cs = e.enc := by subst h; rfl

theorem map_of {α : Type} {f : α → AVal} : ∀ {es : List AVal}, (∀ x ∈ es, ∃ a, x = f a) → ∃ l : List α, es = l.map f
  | [], _ => ⟨[], rfl⟩
  | x :: es, h => by
    obtain ⟨a, rfl⟩ := h x (by simp)
    obtain ⟨l, hl⟩ := map_of (f := f) (es := es) fun y hy => h y (List.mem_cons_of_mem _ hy)
    exact ⟨a :: l, by rw [hl]; rfl⟩

/-- a list of entries -/
theorem fit_entries {m : Nat} {cs : List AVal} (h : FitT env (m + 3) 24 cs) : ∃ (cl : Bool) (l : List Entry), cs = [.lit cl 3 (l.map Entry.enc)] ∧ l.length ≤ maxLen := by
  unfold FitT at h
  simp only [ti24] at h
  obtain ⟨te, ht, cl, es, rfl, hl, h⟩ := h
  rw [ti23] at ht
  cases ht
  obtain ⟨l, rfl⟩ := map_of (f := Entry.enc) fun x hx => by
    obtain ⟨cs', h1, h2⟩ := h x hx
    obtain ⟨e, he, _⟩ := fit_entry h2
    exact ⟨e, by rw [h1]; exact pack_entry he⟩
  exact ⟨cl, l, rfl, by simpa using hl⟩

theorem fit_int {m t n by_ : Nat} {z : AVal} {k : IntKind} (ht : env.ti t = some ⟨.int k, n, by_, z⟩) {cs : List AVal} (h : FitT env (m + 1) t cs) : ∃ x : Int, cs = [.int k x] ∧ (Lit.int k x).wf = true := by
  unfold FitT at h
  simpa only [ht] using h

theorem wf_u64 {x : Int} (h : (Lit.int .u64 x).wf = true) : 0 ≤ x ∧ x ≤ 18446744073709551615 := by
  simpa [Lit.wf, IntKind.min, IntKind.max, IntKind.signed, IntKind.bits] using h

theorem wf_i64 {x : Int} (h : (Lit.int .i64 x).wf = true) : -9223372036854775808 ≤ x ∧ x ≤ 9223372036854775807 := by
  simpa [Lit.wf, IntKind.min, IntKind.max, IntKind.signed, IntKind.bits] using h

theorem fit_u64s {m : Nat} {cs : List AVal} (h : FitT env (m + 2) 35 cs) : ∃ (cl : Bool) (l : List Int), cs = [.lit cl 1 (l.map (.int .u64))] ∧ l.length ≤ maxLen ∧ u64s l := by
  unfold FitT at h
  simp only [ti35] at h
  obtain ⟨te, ht, cl, es, rfl, hl, h⟩ := h
  rw [ti25] at ht
  cases ht
  have h' : ∀ x ∈ es, ∃ a, x = .int .u64 a ∧ 0 ≤ a ∧ a ≤ 18446744073709551615 := by
    intro x hx
    obtain ⟨cs', h1, h2⟩ := h x hx
    obtain ⟨y, rfl, hy⟩ := fit_int ti25 h2
    exact ⟨y, by rw [h1]; rfl, wf_u64 hy⟩
  obtain ⟨l, rfl⟩ := map_of (f := AVal.int .u64) fun x hx => by
    obtain ⟨a, ha, _⟩ := h' x hx
    exact ⟨a, ha⟩
  refine ⟨cl, l, rfl, by simpa using hl, fun x hx => ?_⟩
  obtain ⟨a, ha, h3⟩ := h' (.int .u64 x) (List.mem_map_of_mem hx)
  cases ha
  exact h3

end Go.Proofs.Ytamcncpgfhfheaa.Tidy

/-
  The law of disks, run.
-/
namespace Go.Proofs.Ytamcncpgfhfheaa.Tidy
open Go Go.IntWalk
set_option maxRecDepth 10000
set_option linter.unusedSimpArgs false

/-- what a method does, wherever the disk lies -/
def Obj (f : Nat) (args : List AVal) (v : AVal) (d d' : DiskS) : Prop := ∀ {H : Heap} {p : Nat} {F : List Nat}, DiskAt H p d F → ∃ us F', callT env f (.ptr p 0 0 0 :: args) 0 H H.length = some (.ret v, .ups us) ∧ DiskAt (putU H us) p d' F' ∧ Keeps H (putU H us) F F' ∧ consec H.length H.length us = true ∧ ∃ m, us.map (·.1) = F ++ List.range' H.length m
def RObj (f : Nat) (args : List AVal) (v : AVal) (d d' : DiskS) : Prop := ∀ {H : Heap} {p : Nat} {F : List Nat}, RDiskAt H p d F → ∃ us F', callT env f (.ptr p 0 0 0 :: args) 0 H H.length = some (.ret v, .ups us) ∧ RDiskAt (putU H us) p d' F' ∧ Keeps H (putU H us) F F' ∧ consec H.length H.length us = true ∧ ∃ m, us.map (·.1) = F ++ List.range' H.length m

/-- a step of both disks -/
structure Stepped (H : Heap) (us us2 : Ups) (p q : Nat) (d' : DiskS) (F G F' G' : List Nat) : Prop where
  pair : Pair (putU (putU H us) us2) p q d' F' G'
  con : consec H.length H.length us = true
  con2 : consec (putU H us).length (putU H us).length us2 = true
  le : H.length ≤ (putU H us).length
  le2 : (putU H us).length ≤ (putU (putU H us) us2).length
  one : ∀ x, x < H.length → x ∉ F → (putU H us)[x]? = H[x]?
  looks : Tidy.looks (putU H us) fuel0 [q] [] = some G
  out : ∀ x, x < H.length → x ∉ F → x ∉ us.map (·.1)
  out2 : ∀ x, x < H.length → x ∉ G → x ∉ us2.map (·.1)

theorem Pair.step {H : Heap} {p q : Nat} {d d' : DiskS} {F G : List Nat} (h : Pair H p q d F G) {f g : Nat} {args : List AVal} {v v' : AVal} (ho : Obj f args v d d') (hr : RObj g args v' d d') (hg : d'.good) :
    ∃ us us2 F' G', callT env f (.ptr p 0 0 0 :: args) 0 H H.length = some (.ret v, .ups us) ∧ callT env g (.ptr q 0 0 0 :: args) 0 (putU H us) (putU H us).length = some (.ret v', .ups us2) ∧ Stepped H us us2 p q d' F G F' G' := by
  obtain ⟨us, F', c1, a1, k1, n1, m1, w1⟩ := ho h.one
  have hGlt := h.two.lt
  have hFlt := h.one.lt
  have hFG : ∀ id ∈ G, id ∉ F := fun id hg hf => h.apart id hf hg
  have r1 : RDiskAt (putU H us) q d G := h.two.frame fun id hid => k1.same id (hGlt id hid) (hFG id hid)
  obtain ⟨us2, G', c2, a2, k2, n2, m2, w2⟩ := hr r1
  have hF'lt := a1.lt
  have hF'G : ∀ id ∈ F', id ∉ G := by
    intro id hf hg
    rcases k1.mem id hf with h1 | h1
    · exact h.apart id h1 hg
    · have := hGlt id hg; omega
  have a1' : DiskAt (putU (putU H us) us2) p d' F' := a1.frame fun id hid => k2.same id (hF'lt id hid) (hF'G id hid)
  refine ⟨us, us2, F', G', c1, c2, ⟨⟨a1', a2, fun id hf hg' => ?_, hg⟩, n1, n2, k1.len, k2.len, k1.same, r1.looks, fun x hx hxF hm => ?_, fun x hx hxG hm => ?_⟩⟩
  · rcases k2.mem id hg' with h1 | h1
    · exact hF'G id hf h1
    · have := hF'lt id hf; omega
  · rw [w1] at hm
    rcases List.mem_append.1 hm with h1 | h1
    · exact hxF h1
    · rw [List.mem_range'_1] at h1; omega
  · rw [w2] at hm
    rcases List.mem_append.1 hm with h1 | h1
    · exact hxG h1
    · rw [List.mem_range'_1] at h1
      have := k1.len; omega

theorem obj_write (d : DiskS) (hg : d.good) (hwl : d.wr.length ≤ 100000) (pos : Int) (s : Sec) : Obj 35 [.int .i64 pos, .str s] (.int .i64 (writeD d pos s).2) d (writeD d pos s).1 := fun h =>
  disk_obj rfl rfl rfl rfl rfl rfl (fun C hC => by
    obtain ⟨H', h1, h2, h3⟩ := write_can d hg.wf.now hwl pos s hC
    exact ⟨H', _, h1, can_reach h2, h3⟩) h
theorem robj_write (d : DiskS) (hwl : d.wr.length ≤ 100000) (pos : Int) (s : Sec) : RObj 37 [.int .i64 pos, .str s] (.int .i64 (writeD d pos s).2) d (writeD d pos s).1 := fun h =>
  rdisk_obj rfl rfl rfl rfl rfl rfl (fun C hC => by
    obtain ⟨H', h1, h2, h3⟩ := rwrite_can d hwl pos s hC
    exact ⟨H', _, h1, rcan_reach h2, h3⟩) h
theorem obj_sync (d : DiskS) (hg : d.good) : Obj 38 [] (.int .i64 (syncD d).2) d (syncD d).1 := fun h =>
  disk_obj rfl rfl rfl rfl rfl rfl (sync_run d (by intro h; have := hg.wf.pos; have := hg.wf.same; rw [h] at this; simp at this; omega) (by rw [hg.wf.same]; exact hg.wf.few)) h
theorem robj_sync (d : DiskS) (hg : d.good) (hwl : d.wr.length < 2 ^ 60) : RObj 39 [] (.int .i64 (syncD d).2) d (syncD d).1 := fun h =>
  rdisk_obj rfl rfl rfl rfl rfl rfl (rsync_run d hg.cur (fun w hw => (hg.wf.wr w hw).1) hwl) h
theorem obj_arm (d : DiskS) (n : Int) : Obj 42 [.int .i64 n] (.tuple []) d { d with armed := if n < 0 then 0 else n } := fun h =>
  disk_obj rfl rfl rfl rfl rfl rfl (fun C hC => by
    obtain ⟨H', h1, h2, h3⟩ := arm_can hC n
    exact ⟨H', _, h1, can_reach h2, h3⟩) h
theorem robj_arm (d : DiskS) (n : Int) : RObj 43 [.int .i64 n] (.tuple []) d { d with armed := if n < 0 then 0 else n } := fun h =>
  rdisk_obj rfl rfl rfl rfl rfl rfl (fun C hC => by
    obtain ⟨H', h1, h2, h3⟩ := rarm_can hC n
    exact ⟨H', _, h1, rcan_reach h2, h3⟩) h
theorem obj_restart (d : DiskS) (hg : d.good) (hwl : d.wr.length < 2 ^ 60) (keep : Sec) : Obj 44 [.str keep] (.tuple []) d (restartD d keep) := fun h =>
  disk_obj rfl rfl rfl rfl rfl rfl (restart_run d hg.wf hwl keep) h
theorem robj_restart (d : DiskS) (hg : d.good) (hwl : d.wr.length < 2 ^ 60) (keep : Sec) : RObj 45 [.str keep] (.tuple []) d (restartD d keep) := fun h =>
  rdisk_obj rfl rfl rfl rfl rfl rfl (rrestart_run d hg.wf hwl keep) h

structure DOp where
  kind : Int
  n : Int
  s : Sec

def DOp.enc (o : DOp) : AVal := .agg [.int .i64 o.kind, .int .i64 o.n, .str o.s]
def opB (o : DOp) : Blk := .cells 0 3 true [.agg [.int .i64 o.kind, .int .i64 o.n, .str o.s]]

theorem Goes_trunc {m : Nat} {s : St} {c : Code} {P : Ex → St → Prop} (h1 : Goes (execT env c s) P) (h2 : m < s.H.length → (s.H.take m).all (underB m) = true → Goes (execT env c { s with H := s.H.take m, tmps := s.tmps.map (scrub m) }) P) : Goes (execT env c (trunc m s)) P := by
  rcases trunc_cases m s with h | ⟨hl, hu, h⟩
  · rw [h]; exact h1
  · rw [h]; exact h2 hl hu

theorem Pair.cut {H : Heap} {p q m : Nat} {d : DiskS} {F G : List Nat} (h : Pair H p q d F G) (hp : p < m) (hq : q < m) (hu : (H.take m).all (underB m) = true) : Pair (H.take m) p q d F G :=
  ⟨(h.one.cut hp hu).1, (h.two.cut hq hu).1, h.apart, h.good⟩

theorem Pair.more {H : Heap} {p q : Nat} {d : DiskS} {F G : List Nat} (h : Pair H p q d F G) (b : Blk) : Pair (H ++ [b]) p q d F G :=
  ⟨h.one.frame fun id hid => List.getElem?_append_left (h.one.lt id hid), h.two.frame fun id hid => List.getElem?_append_left (h.two.lt id hid), h.apart, h.good⟩

theorem set_last (H : Heap) (a b : Blk) : (H ++ [a]).set H.length b = H ++ [b] := by
  rw [List.set_append_right _ _ (Nat.le_refl _)]; simp

theorem scrub_int (m : Nat) (k : IntKind) (n : Int) : scrub m (.int k n) = .int k n := rfl
theorem scrub_lit (m : Nat) (cl : Bool) (sz : Nat) (es : List AVal) : scrub m (.lit cl sz es) = .lit cl sz es := rfl
theorem scrub_bool (m : Nat) (b : Bool) : scrub m (.bool b) = .bool b := rfl
theorem scrub_ptr {m id : Nat} (g i f : Nat) (h : id < m) : scrub m (.ptr id g i f) = .ptr id g i f := scrub_same (by simpa [AVal.under] using h)

theorem meets_nil (a : List Nat) : meets a [] = false := by simp [meets]
theorem nil_meets (a : List Nat) : meets [] a = false := rfl
theorem meets_one {W : List Nat} {x : Nat} (h : x ∉ W) : meets W [x] = false := by
  unfold meets
  rw [List.any_eq_false]
  intro y hy
  simp only [List.contains_cons, List.contains_nil, Bool.or_false, beq_iff_eq]
  rintro rfl; exact h hy
theorem one_meets {W : List Nat} {x : Nat} (h : x ∉ W) : meets [x] W = false := by
  simp [meets, h]

theorem apart16 {bf : Array Nat} {x : Nat} {F W G V : List Nat} (h1 : x ∉ W) (h2 : x ∉ V) (b1 : (bf.getD 13 0).testBit 6 = true) (b2 : (bf.getD 6 0).testBit 2 = true) (b3 : (bf.getD 6 0).testBit 4 = true) :
    Tidy.apart bf [⟨0, [], []⟩, ⟨1, [], []⟩, ⟨2, [x], []⟩, ⟨3, [], []⟩, ⟨4, [x], []⟩, ⟨5, [], []⟩, ⟨6, F, W⟩, ⟨7, [], []⟩, ⟨8, [], []⟩, ⟨9, [x], []⟩, ⟨10, [], []⟩, ⟨11, [x], []⟩, ⟨12, [], []⟩, ⟨13, G, V⟩, ⟨14, [], []⟩] = true := by
  simp only [Tidy.apart, clash, List.all_cons, List.all_nil, List.append_nil, List.nil_append, meets_nil, nil_meets, meets_one h1, meets_one h2, one_meets h1, one_meets h2, b1, b2, b3, Bool.or_false, Bool.or_true, Bool.not_false, Bool.true_or, Bool.and_true]

end Go.Proofs.Ytamcncpgfhfheaa.Tidy

/-
  The law of disks: its loop.
-/
namespace Go.Proofs.Ytamcncpgfhfheaa.Tidy
open Go Go.IntWalk
set_option maxRecDepth 10000
set_option linter.unusedSimpArgs false

theorem lt_snoc (H : Heap) (b : Blk) : (H.length < (H ++ [b]).length) = True := by simp

set_option maxHeartbeats 8000000 in
theorem disks_loop (cl : Bool) (ops : List DOp) (hlen : ops.length ≤ 60) (p q : Nat) : ∀ (m i : Nat) (H : Heap) (d : DiskS) (F G : List Nat) (j0 j1 j2 j3 j4 j6 j8 j9 j10 j11 j12 j13 j14 j15 j16 j17 j18 j19 j20 j21 j22 j23 j24 j25 j26 j27 j28 j29 j30 j31 j32 j33 j34 j35 j36 j37 j38 j39 j40 j41 j42 j43 j44 j45 j46 j47 j48 j49 j50 j51 j52 j53 j57 j58 j59 j60 j61 j62 j63 j64 j65 j66 j67 j68 j69 j70 j71 j72 j73 j74 j75 j76 j77 j78 j79 j80 j81 j82 j83 j84 j85 j86 j87 j88 j89 j90 j91 j92 j93 j94 j95 j96 j97 j98 j99 j100 j101 j102 j103 j104 j105 j106 j107 j108 j109 j110 j111 j112 j113 j114 j115 j116 j117 j118 j119 j120 j121 j122 j123 j124 j125 j126 j127 j128 j129 j130 j131 j132 j133 j134 j135 j136 j137 j138 j139 j140 j141 j142 j143 j144 j145 : AVal), Pair H p q d F G → d.wr.length ≤ i → i + m = ops.length →
    Goes (execT env (Try.f7.at [1, 1, 1, 1, 1, 1, 1, 0, 1, 0]) ⟨[j0, j1, j2, j3, j4, .ptr p 0 0 0, j6, .ptr q 0 0 0, j8, j9, j10, j11, j12, j13, j14, j15, j16, j17, j18, j19, j20, j21, j22, j23, j24, j25, j26, j27, j28, j29, j30, j31, j32, j33, j34, j35, j36, j37, j38, j39, j40, j41, j42, j43, j44, j45, j46, j47, j48, j49, j50, j51, j52, j53, .lit cl 3 (ops.map DOp.enc), .int .i64 ops.length, .int .i64 i, j57, j58, j59, j60, j61, j62, j63, j64, j65, j66, j67, j68, j69, j70, j71, j72, j73, j74, j75, j76, j77, j78, j79, j80, j81, j82, j83, j84, j85, j86, j87, j88, j89, j90, j91, j92, j93, j94, j95, j96, j97, j98, j99, j100, j101, j102, j103, j104, j105, j106, j107, j108, j109, j110, j111, j112, j113, j114, j115, j116, j117, j118, j119, j120, j121, j122, j123, j124, j125, j126, j127, j128, j129, j130, j131, j132, j133, j134, j135, j136, j137, j138, j139, j140, j141, j142, j143, j144, j145], H, [], 0, []⟩) fun e s => e = .exit 0 ∧
      ∃ H' d' F' G', Pair H' p q d' F' G' ∧ ∃ j0 j1 j2 j3 j4 j6 j8 j9 j10 j11 j12 j13 j14 j15 j16 j17 j18 j19 j20 j21 j22 j23 j24 j25 j26 j27 j28 j29 j30 j31 j32 j33 j34 j35 j36 j37 j38 j39 j40 j41 j42 j43 j44 j45 j46 j47 j48 j49 j50 j51 j52 j53 j54 j55 j56 j57 j58 j59 j60 j61 j62 j63 j64 j65 j66 j67 j68 j69 j70 j71 j72 j73 j74 j75 j76 j77 j78 j79 j80 j81 j82 j83 j84 j85 j86 j87 j88 j89 j90 j91 j92 j93 j94 j95 j96 j97 j98 j99 j100 j101 j102 j103 j104 j105 j106 j107 j108 j109 j110 j111 j112 j113 j114 j115 j116 j117 j118 j119 j120 j121 j122 j123 j124 j125 j126 j127 j128 j129 j130 j131 j132 j133 j134 j135 j136 j137 j138 j139 j140 j141 j142 j143 j144 j145, s = ⟨[j0, j1, j2, j3, j4, .ptr p 0 0 0, j6, .ptr q 0 0 0, j8, j9, j10, j11, j12, j13, j14, j15, j16, j17, j18, j19, j20, j21, j22, j23, j24, j25, j26, j27, j28, j29, j30, j31, j32, j33, j34, j35, j36, j37, j38, j39, j40, j41, j42, j43, j44, j45, j46, j47, j48, j49, j50, j51, j52, j53, j54, j55, j56, j57, j58, j59, j60, j61, j62, j63, j64, j65, j66, j67, j68, j69, j70, j71, j72, j73, j74, j75, j76, j77, j78, j79, j80, j81, j82, j83, j84, j85, j86, j87, j88, j89, j90, j91, j92, j93, j94, j95, j96, j97, j98, j99, j100, j101, j102, j103, j104, j105, j106, j107, j108, j109, j110, j111, j112, j113, j114, j115, j116, j117, j118, j119, j120, j121, j122, j123, j124, j125, j126, j127, j128, j129, j130, j131, j132, j133, j134, j135, j136, j137, j138, j139, j140, j141, j142, j143, j144, j145], H', [], 0, []⟩ := by
  intro m
  induction m with
  | zero =>
    intro i H d F G j0 j1 j2 j3 j4 j6 j8 j9 j10 j11 j12 j13 j14 j15 j16 j17 j18 j19 j20 j21 j22 j23 j24 j25 j26 j27 j28 j29 j30 j31 j32 j33 j34 j35 j36 j37 j38 j39 j40 j41 j42 j43 j44 j45 j46 j47 j48 j49 j50 j51 j52 j53 j57 j58 j59 j60 j61 j62 j63 j64 j65 j66 j67 j68 j69 j70 j71 j72 j73 j74 j75 j76 j77 j78 j79 j80 j81 j82 j83 j84 j85 j86 j87 j88 j89 j90 j91 j92 j93 j94 j95 j96 j97 j98 j99 j100 j101 j102 j103 j104 j105 j106 j107 j108 j109 j110 j111 j112 j113 j114 j115 j116 j117 j118 j119 j120 j121 j122 j123 j124 j125 j126 j127 j128 j129 j130 j131 j132 j133 j134 j135 j136 j137 j138 j139 j140 j141 j142 j143 j144 j145 h hw hi
    have hd : decide ((i : Int) < (ops.length : Int)) = false := by simp; omega
    simp (config := { maxSteps := 10000000 }) only [go_sem, Nat.reduceAdd, Nat.reduceSub, Nat.reduceMul, Nat.reduceDiv, Nat.reduceMod, Nat.reducePow, Nat.reduceLeDiff, Nat.reduceLT, Nat.reduceEqDiff, Nat.reduceBEq, Nat.reduceBNe, Int.reduceAdd, Int.reduceSub, Int.reduceMul, Int.reducePow, Int.reduceLE, Int.reduceLT, Int.reduceEq, Int.reduceToNat, Int.reduceNeg, reduceCtorEq, Nat.add_zero, Nat.zero_add, beq_self_eq_true, Try.f7]
    rw [execT_loop]
    simp only [go_sem, Nat.reduceAdd, Nat.reduceSub, Nat.reduceMul, Nat.reduceDiv, Nat.reduceMod, Nat.reducePow, Nat.reduceLeDiff, Nat.reduceLT, Nat.reduceEqDiff, Nat.reduceBEq, Nat.reduceBNe, Int.reduceAdd, Int.reduceSub, Int.reduceMul, Int.reducePow, Int.reduceLE, Int.reduceLT, Int.reduceEq, Int.reduceToNat, Int.reduceNeg, reduceCtorEq, Nat.add_zero, Nat.zero_add, beq_self_eq_true, hd]
    exact ⟨_, _, _, _, h, _, _, _, _, _, _, _, _, _, _, _, _, _, _, _, _, _, _, _, _, _, _, _, _, _, _, _, _, _, _, _, _, _, _, _, _, _, _, _, _, _, _, _, _, _, _, _, _, _, _, _, _, _, _, _, _, _, _, _, _, _, _, _, _, _, _, _, _, _, _, _, _, _, _, _, _, _, _, _, _, _, _, _, _, _, _, _, _, _, _, _, _, _, _, _, _, _, _, _, _, _, _, _, _, _, _, _, _, _, _, _, _, _, _, _, _, _, _, _, _, _, _, _, _, _, _, _, _, _, _, _, _, _, _, _, _, _, _, _, _, _, _, _, _, rfl⟩
  | succ m ih =>
    intro i H d F G j0 j1 j2 j3 j4 j6 j8 j9 j10 j11 j12 j13 j14 j15 j16 j17 j18 j19 j20 j21 j22 j23 j24 j25 j26 j27 j28 j29 j30 j31 j32 j33 j34 j35 j36 j37 j38 j39 j40 j41 j42 j43 j44 j45 j46 j47 j48 j49 j50 j51 j52 j53 j57 j58 j59 j60 j61 j62 j63 j64 j65 j66 j67 j68 j69 j70 j71 j72 j73 j74 j75 j76 j77 j78 j79 j80 j81 j82 j83 j84 j85 j86 j87 j88 j89 j90 j91 j92 j93 j94 j95 j96 j97 j98 j99 j100 j101 j102 j103 j104 j105 j106 j107 j108 j109 j110 j111 j112 j113 j114 j115 j116 j117 j118 j119 j120 j121 j122 j123 j124 j125 j126 j127 j128 j129 j130 j131 j132 j133 j134 j135 j136 j137 j138 j139 j140 j141 j142 j143 j144 j145 h hw hi
    have hd : decide ((i : Int) < (ops.length : Int)) = true := by simp; omega
    have h0 : (0 : Int) ≤ (i : Int) := by omega
    obtain ⟨o, ho⟩ : ∃ o, ops[i]? = some o := ⟨ops[i]'(by omega), List.getElem?_eq_getElem _⟩
    have ho' : (ops.map DOp.enc)[(i : Int).toNat]? = some o.enc := by simp [ho]
    have hmore := h.more (opB o)
    have hat : (H ++ [opB o])[H.length]? = some (opB o) := List.getElem?_concat_length
    have hplt := h.one.lt p h.one.mem
    have hqlt := h.two.lt q h.two.mem
    have hnF : H.length ∉ F := fun hf => Nat.lt_irrefl _ (h.one.lt _ hf)
    have hnG : H.length ∉ G := fun hf => Nat.lt_irrefl _ (h.two.lt _ hf)
    have ih' := ih (i + 1)
    simp (config := { maxSteps := 10000000 }) only [go_sem, Nat.reduceAdd, Nat.reduceSub, Nat.reduceMul, Nat.reduceDiv, Nat.reduceMod, Nat.reducePow, Nat.reduceLeDiff, Nat.reduceLT, Nat.reduceEqDiff, Nat.reduceBEq, Nat.reduceBNe, Int.reduceAdd, Int.reduceSub, Int.reduceMul, Int.reducePow, Int.reduceLE, Int.reduceLT, Int.reduceEq, Int.reduceToNat, Int.reduceNeg, reduceCtorEq, Nat.add_zero, Nat.zero_add, beq_self_eq_true, Try.f7] at ih' ⊢
    rw [execT_loop]
    cases k0 : decide (o.kind = 0) with
    | true =>
      obtain ⟨hg, hgl⟩ := good_write h.good o.n (sectorS o.s)
      obtain ⟨us, us2, F', G', c1, c2, st⟩ := hmore.step (obj_write d h.good (by omega) o.n (sectorS o.s)) (robj_write d (by omega) o.n (sectorS o.s)) hg
      have e1 := st.pair.up
      have e2 := st.pair.rup
      have e3 := st.pair.sectors
      have e4 := st.pair.rsectors
      have e5 := (st.one H.length (by simp) hnF).trans hat
      have e6 := sector_call o.s
      have e7 := hmore.one.looks
      have e8 := st.looks
      have e9 := st.con
      have e10 := st.con2
      have e11 : H.length < (putU (H ++ [opB o]) us).length := by
        have := st.le
        rw [List.length_append, List.length_singleton] at this
        omega
      simp only [opB] at e1 e2 e3 e4 e5 c1 c2 e7 e8 e9 e10 e11
      simp (config := { maxSteps := 10000000 }) only [go_sem, Nat.reduceAdd, Nat.reduceSub, Nat.reduceMul, Nat.reduceDiv, Nat.reduceMod, Nat.reducePow, Nat.reduceLeDiff, Nat.reduceLT, Nat.reduceEqDiff, Nat.reduceBEq, Nat.reduceBNe, Int.reduceAdd, Int.reduceSub, Int.reduceMul, Int.reducePow, Int.reduceLE, Int.reduceLT, Int.reduceEq, Int.reduceToNat, Int.reduceNeg, reduceCtorEq, Nat.add_zero, Nat.zero_add, beq_self_eq_true, hd, h0, ho', DOp.enc, Nat.zero_le, decide_true, lt_snoc, if_true, List.getElem?_concat_length, set_last, k0, c1, c2, e1, e2, e3, e4, e5, e6, e7, e8, e9, e10, e11, bne_self_eq_false, wrap_succ (show i < 2 ^ 63 - 1 by omega)]
      rw [apart_ok]
      · simp (config := { maxSteps := 10000000 }) only [go_sem, Nat.reduceAdd, Nat.reduceSub, Nat.reduceMul, Nat.reduceDiv, Nat.reduceMod, Nat.reducePow, Nat.reduceLeDiff, Nat.reduceLT, Nat.reduceEqDiff, Nat.reduceBEq, Nat.reduceBNe, Int.reduceAdd, Int.reduceSub, Int.reduceMul, Int.reducePow, Int.reduceLE, Int.reduceLT, Int.reduceEq, Int.reduceToNat, Int.reduceNeg, reduceCtorEq, Nat.add_zero, Nat.zero_add, beq_self_eq_true, e1, e2, e3, e4, bne_self_eq_false, wrap_succ (show i < 2 ^ 63 - 1 by omega)]
        refine Goes_trunc (ih' _ _ _ _ _ _ _ _ _ _ _ _ _ _ _ _ _ _ _ _ _ _ _ _ _ _ _ _ _ _ _ _ _ _ _ _ _ _ _ _ _ _ _ _ _ _ _ _ _ _ _ _ _ _ _ _ _ _ _ _ _ _ _ _ _ _ _ _ _ _ _ _ _ _ _ _ _ _ _ _ _ _ _ _ _ _ _ _ _ _ _ _ _ _ _ _ _ _ _ _ _ _ _ _ _ _ _ _ _ _ _ _ _ _ _ _ _ _ _ _ _ _ _ _ _ _ _ _ _ _ _ _ _ _ _ _ _ _ _ _ _ _ _ _ _ st.pair (by omega) (by omega)) (fun hl hu => ?_)
        simp only [List.map_cons, List.map_nil, scrub_int, scrub_lit, scrub_ptr _ _ _ hplt, scrub_ptr _ _ _ hqlt] at hu ⊢
        exact ih' _ _ _ _ _ _ _ _ _ _ _ _ _ _ _ _ _ _ _ _ _ _ _ _ _ _ _ _ _ _ _ _ _ _ _ _ _ _ _ _ _ _ _ _ _ _ _ _ _ _ _ _ _ _ _ _ _ _ _ _ _ _ _ _ _ _ _ _ _ _ _ _ _ _ _ _ _ _ _ _ _ _ _ _ _ _ _ _ _ _ _ _ _ _ _ _ _ _ _ _ _ _ _ _ _ _ _ _ _ _ _ _ _ _ _ _ _ _ _ _ _ _ _ _ _ _ _ _ _ _ _ _ _ _ _ _ _ _ _ _ _ _ _ _ _ (st.pair.cut hplt hqlt hu) (by omega) (by omega)
      · refine apart16 (st.out _ (by simp) hnF) (st.out2 _ (by simp) hnG) ?_ ?_ ?_ <;> kernel_rfl
    | false =>
    cases k1 : decide (o.kind = 1) with
    | true =>
      obtain ⟨hg, hgl⟩ := good_sync h.good
      obtain ⟨us, us2, F', G', c1, c2, st⟩ := hmore.step (obj_sync d h.good) (robj_sync d h.good (by omega)) hg
      have e1 := st.pair.up
      have e2 := st.pair.rup
      have e3 := st.pair.sectors
      have e4 := st.pair.rsectors
      have e5 := (st.one H.length (by simp) hnF).trans hat
      simp only [opB] at e1 e2 e3 e4 e5 c1 c2
      simp (config := { maxSteps := 10000000 }) only [go_sem, Nat.reduceAdd, Nat.reduceSub, Nat.reduceMul, Nat.reduceDiv, Nat.reduceMod, Nat.reducePow, Nat.reduceLeDiff, Nat.reduceLT, Nat.reduceEqDiff, Nat.reduceBEq, Nat.reduceBNe, Int.reduceAdd, Int.reduceSub, Int.reduceMul, Int.reducePow, Int.reduceLE, Int.reduceLT, Int.reduceEq, Int.reduceToNat, Int.reduceNeg, reduceCtorEq, Nat.add_zero, Nat.zero_add, beq_self_eq_true, hd, h0, ho', DOp.enc, Nat.zero_le, decide_true, lt_snoc, if_true, List.getElem?_concat_length, set_last, k0, k1, c1, c2, e1, e2, e3, e4, e5, bne_self_eq_false, wrap_succ (show i < 2 ^ 63 - 1 by omega)]
      refine Goes_trunc (ih' _ _ _ _ _ _ _ _ _ _ _ _ _ _ _ _ _ _ _ _ _ _ _ _ _ _ _ _ _ _ _ _ _ _ _ _ _ _ _ _ _ _ _ _ _ _ _ _ _ _ _ _ _ _ _ _ _ _ _ _ _ _ _ _ _ _ _ _ _ _ _ _ _ _ _ _ _ _ _ _ _ _ _ _ _ _ _ _ _ _ _ _ _ _ _ _ _ _ _ _ _ _ _ _ _ _ _ _ _ _ _ _ _ _ _ _ _ _ _ _ _ _ _ _ _ _ _ _ _ _ _ _ _ _ _ _ _ _ _ _ _ _ _ _ _ st.pair (by omega) (by omega)) (fun hl hu => ?_)
      simp only [List.map_cons, List.map_nil, scrub_int, scrub_lit, scrub_ptr _ _ _ hplt, scrub_ptr _ _ _ hqlt] at hu ⊢
      exact ih' _ _ _ _ _ _ _ _ _ _ _ _ _ _ _ _ _ _ _ _ _ _ _ _ _ _ _ _ _ _ _ _ _ _ _ _ _ _ _ _ _ _ _ _ _ _ _ _ _ _ _ _ _ _ _ _ _ _ _ _ _ _ _ _ _ _ _ _ _ _ _ _ _ _ _ _ _ _ _ _ _ _ _ _ _ _ _ _ _ _ _ _ _ _ _ _ _ _ _ _ _ _ _ _ _ _ _ _ _ _ _ _ _ _ _ _ _ _ _ _ _ _ _ _ _ _ _ _ _ _ _ _ _ _ _ _ _ _ _ _ _ _ _ _ _ (st.pair.cut hplt hqlt hu) (by omega) (by omega)
    | false =>
    cases k2 : decide (o.kind = 2) with
    | true =>
      have e1 := hmore.up
      have e2 := hmore.rup
      have e3 := hmore.sectors
      have e4 := hmore.rsectors
      have e5 := hmore.read
      have e6 := hmore.rread
      simp only [opB] at e1 e2 e3 e4 e5 e6
      simp (config := { maxSteps := 10000000 }) only [go_sem, Nat.reduceAdd, Nat.reduceSub, Nat.reduceMul, Nat.reduceDiv, Nat.reduceMod, Nat.reducePow, Nat.reduceLeDiff, Nat.reduceLT, Nat.reduceEqDiff, Nat.reduceBEq, Nat.reduceBNe, Int.reduceAdd, Int.reduceSub, Int.reduceMul, Int.reducePow, Int.reduceLE, Int.reduceLT, Int.reduceEq, Int.reduceToNat, Int.reduceNeg, reduceCtorEq, Nat.add_zero, Nat.zero_add, beq_self_eq_true, hd, h0, ho', DOp.enc, Nat.zero_le, decide_true, lt_snoc, if_true, List.getElem?_concat_length, set_last, k0, k1, k2, e1, e2, e3, e4, e5, e6, bne_self_eq_false, wrap_succ (show i < 2 ^ 63 - 1 by omega)]
      refine Goes_trunc (ih' _ _ _ _ _ _ _ _ _ _ _ _ _ _ _ _ _ _ _ _ _ _ _ _ _ _ _ _ _ _ _ _ _ _ _ _ _ _ _ _ _ _ _ _ _ _ _ _ _ _ _ _ _ _ _ _ _ _ _ _ _ _ _ _ _ _ _ _ _ _ _ _ _ _ _ _ _ _ _ _ _ _ _ _ _ _ _ _ _ _ _ _ _ _ _ _ _ _ _ _ _ _ _ _ _ _ _ _ _ _ _ _ _ _ _ _ _ _ _ _ _ _ _ _ _ _ _ _ _ _ _ _ _ _ _ _ _ _ _ _ _ _ _ _ _ hmore (by omega) (by omega)) (fun hl hu => ?_)
      simp only [List.map_cons, List.map_nil, scrub_int, scrub_lit, scrub_ptr _ _ _ hplt, scrub_ptr _ _ _ hqlt] at hu ⊢
      exact ih' _ _ _ _ _ _ _ _ _ _ _ _ _ _ _ _ _ _ _ _ _ _ _ _ _ _ _ _ _ _ _ _ _ _ _ _ _ _ _ _ _ _ _ _ _ _ _ _ _ _ _ _ _ _ _ _ _ _ _ _ _ _ _ _ _ _ _ _ _ _ _ _ _ _ _ _ _ _ _ _ _ _ _ _ _ _ _ _ _ _ _ _ _ _ _ _ _ _ _ _ _ _ _ _ _ _ _ _ _ _ _ _ _ _ _ _ _ _ _ _ _ _ _ _ _ _ _ _ _ _ _ _ _ _ _ _ _ _ _ _ _ _ _ _ _ (hmore.cut hplt hqlt hu) (by omega) (by omega)
    | false =>
    cases k3 : decide (o.kind = 3) with
    | true =>
      obtain ⟨hg, hgl⟩ := (⟨good_arm h.good _, Nat.le_refl _⟩ : ({ d with armed := if o.n < 0 then 0 else o.n } : DiskS).good ∧ ({ d with armed := if o.n < 0 then 0 else o.n } : DiskS).wr.length ≤ d.wr.length)
      obtain ⟨us, us2, F', G', c1, c2, st⟩ := hmore.step (obj_arm d o.n) (robj_arm d o.n) hg
      have e1 := st.pair.up
      have e2 := st.pair.rup
      have e3 := st.pair.sectors
      have e4 := st.pair.rsectors
      have e5 := (st.one H.length (by simp) hnF).trans hat
      simp only [opB] at e1 e2 e3 e4 e5 c1 c2
      simp (config := { maxSteps := 10000000 }) only [go_sem, Nat.reduceAdd, Nat.reduceSub, Nat.reduceMul, Nat.reduceDiv, Nat.reduceMod, Nat.reducePow, Nat.reduceLeDiff, Nat.reduceLT, Nat.reduceEqDiff, Nat.reduceBEq, Nat.reduceBNe, Int.reduceAdd, Int.reduceSub, Int.reduceMul, Int.reducePow, Int.reduceLE, Int.reduceLT, Int.reduceEq, Int.reduceToNat, Int.reduceNeg, reduceCtorEq, Nat.add_zero, Nat.zero_add, beq_self_eq_true, hd, h0, ho', DOp.enc, Nat.zero_le, decide_true, lt_snoc, if_true, List.getElem?_concat_length, set_last, k0, k1, k2, k3, c1, c2, e1, e2, e3, e4, e5, bne_self_eq_false, wrap_succ (show i < 2 ^ 63 - 1 by omega)]
      refine Goes_trunc (ih' _ _ _ _ _ _ _ _ _ _ _ _ _ _ _ _ _ _ _ _ _ _ _ _ _ _ _ _ _ _ _ _ _ _ _ _ _ _ _ _ _ _ _ _ _ _ _ _ _ _ _ _ _ _ _ _ _ _ _ _ _ _ _ _ _ _ _ _ _ _ _ _ _ _ _ _ _ _ _ _ _ _ _ _ _ _ _ _ _ _ _ _ _ _ _ _ _ _ _ _ _ _ _ _ _ _ _ _ _ _ _ _ _ _ _ _ _ _ _ _ _ _ _ _ _ _ _ _ _ _ _ _ _ _ _ _ _ _ _ _ _ _ _ _ _ st.pair (by omega) (by omega)) (fun hl hu => ?_)
      simp only [List.map_cons, List.map_nil, scrub_int, scrub_lit, scrub_ptr _ _ _ hplt, scrub_ptr _ _ _ hqlt] at hu ⊢
      exact ih' _ _ _ _ _ _ _ _ _ _ _ _ _ _ _ _ _ _ _ _ _ _ _ _ _ _ _ _ _ _ _ _ _ _ _ _ _ _ _ _ _ _ _ _ _ _ _ _ _ _ _ _ _ _ _ _ _ _ _ _ _ _ _ _ _ _ _ _ _ _ _ _ _ _ _ _ _ _ _ _ _ _ _ _ _ _ _ _ _ _ _ _ _ _ _ _ _ _ _ _ _ _ _ _ _ _ _ _ _ _ _ _ _ _ _ _ _ _ _ _ _ _ _ _ _ _ _ _ _ _ _ _ _ _ _ _ _ _ _ _ _ _ _ _ _ (st.pair.cut hplt hqlt hu) (by omega) (by omega)
    | false =>
    cases k4 : decide (o.kind = 4) with
    | true =>
      obtain ⟨hg, hgl⟩ := good_restart h.good o.s
      obtain ⟨us, us2, F', G', c1, c2, st⟩ := hmore.step (obj_restart d h.good (by omega) o.s) (robj_restart d h.good (by omega) o.s) hg
      have e1 := st.pair.up
      have e2 := st.pair.rup
      have e3 := st.pair.sectors
      have e4 := st.pair.rsectors
      have e5 := (st.one H.length (by simp) hnF).trans hat
      simp only [opB] at e1 e2 e3 e4 e5 c1 c2
      simp (config := { maxSteps := 10000000 }) only [go_sem, Nat.reduceAdd, Nat.reduceSub, Nat.reduceMul, Nat.reduceDiv, Nat.reduceMod, Nat.reducePow, Nat.reduceLeDiff, Nat.reduceLT, Nat.reduceEqDiff, Nat.reduceBEq, Nat.reduceBNe, Int.reduceAdd, Int.reduceSub, Int.reduceMul, Int.reducePow, Int.reduceLE, Int.reduceLT, Int.reduceEq, Int.reduceToNat, Int.reduceNeg, reduceCtorEq, Nat.add_zero, Nat.zero_add, beq_self_eq_true, hd, h0, ho', DOp.enc, Nat.zero_le, decide_true, lt_snoc, if_true, List.getElem?_concat_length, set_last, k0, k1, k2, k3, k4, c1, c2, e1, e2, e3, e4, e5, bne_self_eq_false, wrap_succ (show i < 2 ^ 63 - 1 by omega)]
      refine Goes_trunc (ih' _ _ _ _ _ _ _ _ _ _ _ _ _ _ _ _ _ _ _ _ _ _ _ _ _ _ _ _ _ _ _ _ _ _ _ _ _ _ _ _ _ _ _ _ _ _ _ _ _ _ _ _ _ _ _ _ _ _ _ _ _ _ _ _ _ _ _ _ _ _ _ _ _ _ _ _ _ _ _ _ _ _ _ _ _ _ _ _ _ _ _ _ _ _ _ _ _ _ _ _ _ _ _ _ _ _ _ _ _ _ _ _ _ _ _ _ _ _ _ _ _ _ _ _ _ _ _ _ _ _ _ _ _ _ _ _ _ _ _ _ _ _ _ _ _ st.pair (by omega) (by omega)) (fun hl hu => ?_)
      simp only [List.map_cons, List.map_nil, scrub_int, scrub_lit, scrub_ptr _ _ _ hplt, scrub_ptr _ _ _ hqlt] at hu ⊢
      exact ih' _ _ _ _ _ _ _ _ _ _ _ _ _ _ _ _ _ _ _ _ _ _ _ _ _ _ _ _ _ _ _ _ _ _ _ _ _ _ _ _ _ _ _ _ _ _ _ _ _ _ _ _ _ _ _ _ _ _ _ _ _ _ _ _ _ _ _ _ _ _ _ _ _ _ _ _ _ _ _ _ _ _ _ _ _ _ _ _ _ _ _ _ _ _ _ _ _ _ _ _ _ _ _ _ _ _ _ _ _ _ _ _ _ _ _ _ _ _ _ _ _ _ _ _ _ _ _ _ _ _ _ _ _ _ _ _ _ _ _ _ _ _ _ _ _ (st.pair.cut hplt hqlt hu) (by omega) (by omega)
    | false =>
      have e1 := hmore.up
      have e2 := hmore.rup
      have e3 := hmore.sectors
      have e4 := hmore.rsectors
      simp only [opB] at e1 e2 e3 e4
      simp (config := { maxSteps := 10000000 }) only [go_sem, Nat.reduceAdd, Nat.reduceSub, Nat.reduceMul, Nat.reduceDiv, Nat.reduceMod, Nat.reducePow, Nat.reduceLeDiff, Nat.reduceLT, Nat.reduceEqDiff, Nat.reduceBEq, Nat.reduceBNe, Int.reduceAdd, Int.reduceSub, Int.reduceMul, Int.reducePow, Int.reduceLE, Int.reduceLT, Int.reduceEq, Int.reduceToNat, Int.reduceNeg, reduceCtorEq, Nat.add_zero, Nat.zero_add, beq_self_eq_true, hd, h0, ho', DOp.enc, Nat.zero_le, decide_true, lt_snoc, if_true, List.getElem?_concat_length, set_last, k0, k1, k2, k3, k4, e1, e2, e3, e4, bne_self_eq_false, wrap_succ (show i < 2 ^ 63 - 1 by omega)]
      refine Goes_trunc (ih' _ _ _ _ _ _ _ _ _ _ _ _ _ _ _ _ _ _ _ _ _ _ _ _ _ _ _ _ _ _ _ _ _ _ _ _ _ _ _ _ _ _ _ _ _ _ _ _ _ _ _ _ _ _ _ _ _ _ _ _ _ _ _ _ _ _ _ _ _ _ _ _ _ _ _ _ _ _ _ _ _ _ _ _ _ _ _ _ _ _ _ _ _ _ _ _ _ _ _ _ _ _ _ _ _ _ _ _ _ _ _ _ _ _ _ _ _ _ _ _ _ _ _ _ _ _ _ _ _ _ _ _ _ _ _ _ _ _ _ _ _ _ _ _ _ hmore (by omega) (by omega)) (fun hl hu => ?_)
      simp only [List.map_cons, List.map_nil, scrub_int, scrub_lit, scrub_ptr _ _ _ hplt, scrub_ptr _ _ _ hqlt] at hu ⊢
      exact ih' _ _ _ _ _ _ _ _ _ _ _ _ _ _ _ _ _ _ _ _ _ _ _ _ _ _ _ _ _ _ _ _ _ _ _ _ _ _ _ _ _ _ _ _ _ _ _ _ _ _ _ _ _ _ _ _ _ _ _ _ _ _ _ _ _ _ _ _ _ _ _ _ _ _ _ _ _ _ _ _ _ _ _ _ _ _ _ _ _ _ _ _ _ _ _ _ _ _ _ _ _ _ _ _ _ _ _ _ _ _ _ _ _ _ _ _ _ _ _ _ _ _ _ _ _ _ _ _ _ _ _ _ _ _ _ _ _ _ _ _ _ _ _ _ _ (hmore.cut hplt hqlt hu) (by omega) (by omega)
end Go.Proofs.Ytamcncpgfhfheaa.Tidy
