/-
  What the functions that LedgerDisks reaches compute; the law, run.
-/
import Derived.Test.YtamcncpgfhfheaaWc
set_option linter.all false
/-
  The law of disks.
-/
namespace Go.Proofs.Ytamcncpgfhfheaa.Tidy
open Go Go.IntWalk
set_option maxRecDepth 10000
set_option linter.unusedSimpArgs false

/-- cells that hold an operation on a disk -/
theorem fit_dop {m : Nat} {cs : List AVal} (h : FitT env (m + 2) 52 cs) : ∃ e : DOp, cs = [.int .i64 e.kind, .int .i64 e.n, .str e.s] ∧ e.s.length ≤ maxLen := by
  simp only [FitT, ti52, ti3, ti9, List.map_cons, List.map_nil, FitF] at h
  obtain ⟨_, _, rfl, ⟨o, rfl, _⟩, _, _, rfl, ⟨n, rfl, _⟩, _, _, rfl, ⟨b, rfl, hb⟩, rfl⟩ := h
  exact ⟨⟨o, n, b⟩, rfl, hb⟩

theorem fit_dops {m : Nat} {cs : List AVal} (h : FitT env (m + 3) 44 cs) : ∃ (cl : Bool) (l : List DOp), cs = [.lit cl 3 (l.map DOp.enc)] ∧ l.length ≤ maxLen ∧ ∀ o ∈ l, o.s.length ≤ maxLen := by
  unfold FitT at h
  simp only [ti44] at h
  obtain ⟨te, ht, cl, es, rfl, hl, h⟩ := h
  rw [ti52] at ht
  cases ht
  have h' : ∀ x ∈ es, ∃ e : DOp, x = e.enc ∧ e.s.length ≤ maxLen := by
    intro x hx
    obtain ⟨cs', h1, h2⟩ := h x hx
    obtain ⟨e, rfl, hs⟩ := fit_dop h2
    exact ⟨e, by rw [h1]; rfl, hs⟩
  obtain ⟨l, rfl⟩ := map_of (f := DOp.enc) fun x hx => by
    obtain ⟨e, he, _⟩ := h' x hx
    exact ⟨e, he⟩
  refine ⟨cl, l, rfl, by simpa using hl, fun o ho => ?_⟩
  obtain ⟨e, he, hs⟩ := h' o.enc (List.mem_map_of_mem ho)
  have : o.s = e.s := by
    simp only [DOp.enc, AVal.agg.injEq, List.cons.injEq, AVal.str.injEq, and_true] at he
    exact he.2.2
  rw [this]; exact hs

def startH (n g : Nat) : Heap := [.cells 0 64 true ((newD n).safe.map secV), .cells 0 64 true ((newD n).now.map secV), diskB (newD n) (.ref 0 0 0 (newD n).safe.length false) (.ref 1 0 0 (newD n).now.length false) (.lit true 0 []),
  rdiskB nd (.ref 4 g 0 n false) (.ref 5 g 0 n false) (.lit true 0 []), .cells g 1 true ((List.replicate n zs).map .str), .cells g 1 true ((List.replicate n zs).map .str)]

theorem start_pair (n g : Nat) (h1 : 1 ≤ n) (h2 : n ≤ 4096) : Pair (startH n g) 2 3 (newD n) [2, 0, 1] [3, 4, 5] := by
  refine ⟨⟨0, 0, 1, 0, _, rfl, rfl, rfl, .inl ⟨rfl, rfl, rfl⟩, by decide⟩, ?_, by decide, good_new h1 h2⟩
  have hs : (newD n).safe = List.replicate n zs := rfl
  have hn : (newD n).now = List.replicate n zs := rfl
  refine ⟨4, g, 5, g, .lit true 0 [], ?_, ?_, ?_, .inl ⟨rfl, rfl, rfl⟩, by decide⟩
  · rw [hs, hn, List.length_replicate]; rfl
  · rw [hs]; rfl
  · rw [hn]; rfl

theorem neq_ptr_nil {tn e n m id g i f : Nat} {z : AVal} : binOp env .eql tn ⟨.ptr e, n, m, z⟩ (.ptr id g i f) .nilptr = some (.bool false) := rfl
theorem eq_nil_nil {tn e n m : Nat} {z : AVal} : binOp env .eql tn ⟨.ptr e, n, m, z⟩ .nilptr .nilptr = some (.bool true) := rfl

set_option maxHeartbeats 8000000 in
theorem disks_law (a0 a1 : List AVal) (h0 : FitT env 8 3 a0) (h1 : FitT env 8 44 a1) :
    ∃ H', runT env 7 [pack ⟨.int .i64, 1, 8, .int .i64 (0)⟩ a0, pack ⟨.slice 52, 1, 24, .lit true 0 []⟩ a1] [] 0 = some (.ret (.bool true), H') := by
  obtain ⟨n, rfl, _⟩ := fit_int ti3 h0
  obtain ⟨cl, l, rfl, hl, hls⟩ := fit_dops h1
  have hlen : l.length < 2 ^ 63 := by unfold maxLen at hl; omega
  show ∃ H', runT env 7 [.int .i64 n, .lit cl 3 (l.map DOp.enc)] [] 0 = some (.ret (.bool true), H')
  rw [run_unfold fn7 rfl]
  cases c1 : decide (60 < (l.length : Int)) with
  | true =>
    cases c2 : decide (8 < n) <;> cases c3 : decide (n ≤ 4096) <;>
    · simp (config := { maxSteps := 10000000 }) only [go_sem, Nat.reduceAdd, Nat.reduceSub, Nat.reduceMul, Nat.reduceDiv, Nat.reduceMod, Nat.reducePow, Nat.reduceLeDiff, Nat.reduceLT, Nat.reduceEqDiff, Nat.reduceBEq, Nat.reduceBNe, Int.reduceAdd, Int.reduceSub, Int.reduceMul, Int.reducePow, Int.reduceLE, Int.reduceLT, Int.reduceEq, Int.reduceToNat, Int.reduceNeg, reduceCtorEq, Nat.add_zero, Nat.zero_add, beq_self_eq_true, Try.f7, c1, c2, c3, List.length_map, unwind, modeEx, resultsOf, one]
      exact ⟨_, rfl⟩
  | false =>
    have c1' : ¬ (60 < (l.length : Int)) := by simpa using c1
    by_cases hn : n < 1 ∨ 4096 < n
    · have w1 := newdisk_none n hn
      have w2 := rnewdisk_none n hn
      have hb : (∃ b2 b3, decide (8 < n) = b2 ∧ decide (n ≤ 4096) = b3 ∧ (b2 && b3) = false) := ⟨_, _, rfl, rfl, by simp; omega⟩
      obtain ⟨b2, b3, c2, c3, hb⟩ := hb
      revert hb
      cases b2 <;> cases b3 <;> intro hb <;> first
        | (simp at hb; done)
        | (simp (config := { maxSteps := 10000000 }) only [go_sem, Nat.reduceAdd, Nat.reduceSub, Nat.reduceMul, Nat.reduceDiv, Nat.reduceMod, Nat.reducePow, Nat.reduceLeDiff, Nat.reduceLT, Nat.reduceEqDiff, Nat.reduceBEq, Nat.reduceBNe, Int.reduceAdd, Int.reduceSub, Int.reduceMul, Int.reducePow, Int.reduceLE, Int.reduceLT, Int.reduceEq, Int.reduceToNat, Int.reduceNeg, reduceCtorEq, Nat.add_zero, Nat.zero_add, beq_self_eq_true, Try.f7, c1, c2, c3, w1, w2, eq_nil_nil, bne_self_eq_false, List.length_map, unwind, modeEx, resultsOf, one]
           exact ⟨_, rfl⟩)
    · cases c2 : decide (8 < n) with
      | true =>
        have c3 : decide (n ≤ 4096) = true := by simp; omega
        simp (config := { maxSteps := 10000000 }) only [go_sem, Nat.reduceAdd, Nat.reduceSub, Nat.reduceMul, Nat.reduceDiv, Nat.reduceMod, Nat.reducePow, Nat.reduceLeDiff, Nat.reduceLT, Nat.reduceEqDiff, Nat.reduceBEq, Nat.reduceBNe, Int.reduceAdd, Int.reduceSub, Int.reduceMul, Int.reducePow, Int.reduceLE, Int.reduceLT, Int.reduceEq, Int.reduceToNat, Int.reduceNeg, reduceCtorEq, Nat.add_zero, Nat.zero_add, beq_self_eq_true, Try.f7, c1, c2, c3, List.length_map, unwind, modeEx, resultsOf, one]
        exact ⟨_, rfl⟩
      | false =>
        obtain ⟨k, rfl⟩ : ∃ k : Nat, n = k := ⟨n.toNat, by omega⟩
        have w1 := newdisk_call k (by omega) (by omega)
        obtain ⟨g, w2⟩ := rnewdisk_call k (by omega) (by omega) 0 [.cells 0 64 true ((newD k).safe.map secV), .cells 0 64 true ((newD k).now.map secV), diskB (newD k) (.ref 0 0 0 (newD k).safe.length false) (.ref 1 0 0 (newD k).now.length false) (.lit true 0 [])] 3
        obtain ⟨e, s, hx, rfl, H', d', F', G', hP, hp0⟩ := disks_loop cl l (by omega) 2 3 l.length 0 (startH k g) (newD k) [2, 0, 1] [3, 4, 5] _ _ _ _ _ _ _ _ _ _ _ _ _ _ _ _ _ _ _ _ _ _ _ _ _ _ _ _ _ _ _ _ _ _ _ _ _ _ _ _ _ _ _ _ _ _ _ _ _ _ _ _ _ _ _ _ _ _ _ _ _ _ _ _ _ _ _ _ _ _ _ _ _ _ _ _ _ _ _ _ _ _ _ _ _ _ _ _ _ _ _ _ _ _ _ _ _ _ _ _ _ _ _ _ _ _ _ _ _ _ _ _ _ _ _ _ _ _ _ _ _ _ _ _ _ _ _ _ _ _ _ _ _ _ _ _ _ _ _ _ _ (start_pair k g (by omega) (by omega)) (Nat.le_refl _) (by omega)
        revert hx
        have hxx := hp0
        refine Exists.elim hxx fun j0 hxx => Exists.elim hxx fun j1 hxx => Exists.elim hxx fun j2 hxx => Exists.elim hxx fun j3 hxx => Exists.elim hxx fun j4 hxx => Exists.elim hxx fun j6 hxx => Exists.elim hxx fun j8 hxx => Exists.elim hxx fun j9 hxx => Exists.elim hxx fun j10 hxx => Exists.elim hxx fun j11 hxx => Exists.elim hxx fun j12 hxx => Exists.elim hxx fun j13 hxx => Exists.elim hxx fun j14 hxx => Exists.elim hxx fun j15 hxx => Exists.elim hxx fun j16 hxx => Exists.elim hxx fun j17 hxx => Exists.elim hxx fun j18 hxx => Exists.elim hxx fun j19 hxx => Exists.elim hxx fun j20 hxx => Exists.elim hxx fun j21 hxx => Exists.elim hxx fun j22 hxx => Exists.elim hxx fun j23 hxx => Exists.elim hxx fun j24 hxx => Exists.elim hxx fun j25 hxx => Exists.elim hxx fun j26 hxx => Exists.elim hxx fun j27 hxx => Exists.elim hxx fun j28 hxx => Exists.elim hxx fun j29 hxx => Exists.elim hxx fun j30 hxx => Exists.elim hxx fun j31 hxx => Exists.elim hxx fun j32 hxx => Exists.elim hxx fun j33 hxx => Exists.elim hxx fun j34 hxx => Exists.elim hxx fun j35 hxx => Exists.elim hxx fun j36 hxx => Exists.elim hxx fun j37 hxx => Exists.elim hxx fun j38 hxx => Exists.elim hxx fun j39 hxx => Exists.elim hxx fun j40 hxx => Exists.elim hxx fun j41 hxx => Exists.elim hxx fun j42 hxx => Exists.elim hxx fun j43 hxx => Exists.elim hxx fun j44 hxx => Exists.elim hxx fun j45 hxx => Exists.elim hxx fun j46 hxx => Exists.elim hxx fun j47 hxx => Exists.elim hxx fun j48 hxx => Exists.elim hxx fun j49 hxx => Exists.elim hxx fun j50 hxx => Exists.elim hxx fun j51 hxx => Exists.elim hxx fun j52 hxx => Exists.elim hxx fun j53 hxx => Exists.elim hxx fun j54 hxx => Exists.elim hxx fun j55 hxx => Exists.elim hxx fun j56 hxx => Exists.elim hxx fun j57 hxx => Exists.elim hxx fun j58 hxx => Exists.elim hxx fun j59 hxx => Exists.elim hxx fun j60 hxx => Exists.elim hxx fun j61 hxx => Exists.elim hxx fun j62 hxx => Exists.elim hxx fun j63 hxx => Exists.elim hxx fun j64 hxx => Exists.elim hxx fun j65 hxx => Exists.elim hxx fun j66 hxx => Exists.elim hxx fun j67 hxx => Exists.elim hxx fun j68 hxx => Exists.elim hxx fun j69 hxx => Exists.elim hxx fun j70 hxx => Exists.elim hxx fun j71 hxx => Exists.elim hxx fun j72 hxx => Exists.elim hxx fun j73 hxx => Exists.elim hxx fun j74 hxx => Exists.elim hxx fun j75 hxx => Exists.elim hxx fun j76 hxx => Exists.elim hxx fun j77 hxx => Exists.elim hxx fun j78 hxx => Exists.elim hxx fun j79 hxx => Exists.elim hxx fun j80 hxx => Exists.elim hxx fun j81 hxx => Exists.elim hxx fun j82 hxx => Exists.elim hxx fun j83 hxx => Exists.elim hxx fun j84 hxx => Exists.elim hxx fun j85 hxx => Exists.elim hxx fun j86 hxx => Exists.elim hxx fun j87 hxx => Exists.elim hxx fun j88 hxx => Exists.elim hxx fun j89 hxx => Exists.elim hxx fun j90 hxx => Exists.elim hxx fun j91 hxx => Exists.elim hxx fun j92 hxx => Exists.elim hxx fun j93 hxx => Exists.elim hxx fun j94 hxx => Exists.elim hxx fun j95 hxx => Exists.elim hxx fun j96 hxx => Exists.elim hxx fun j97 hxx => Exists.elim hxx fun j98 hxx => Exists.elim hxx fun j99 hxx => Exists.elim hxx fun j100 hxx => Exists.elim hxx fun j101 hxx => Exists.elim hxx fun j102 hxx => Exists.elim hxx fun j103 hxx => Exists.elim hxx fun j104 hxx => Exists.elim hxx fun j105 hxx => Exists.elim hxx fun j106 hxx => Exists.elim hxx fun j107 hxx => Exists.elim hxx fun j108 hxx => Exists.elim hxx fun j109 hxx => Exists.elim hxx fun j110 hxx => Exists.elim hxx fun j111 hxx => Exists.elim hxx fun j112 hxx => Exists.elim hxx fun j113 hxx => Exists.elim hxx fun j114 hxx => Exists.elim hxx fun j115 hxx => Exists.elim hxx fun j116 hxx => Exists.elim hxx fun j117 hxx => Exists.elim hxx fun j118 hxx => Exists.elim hxx fun j119 hxx => Exists.elim hxx fun j120 hxx => Exists.elim hxx fun j121 hxx => Exists.elim hxx fun j122 hxx => Exists.elim hxx fun j123 hxx => Exists.elim hxx fun j124 hxx => Exists.elim hxx fun j125 hxx => Exists.elim hxx fun j126 hxx => Exists.elim hxx fun j127 hxx => Exists.elim hxx fun j128 hxx => Exists.elim hxx fun j129 hxx => Exists.elim hxx fun j130 hxx => Exists.elim hxx fun j131 hxx => Exists.elim hxx fun j132 hxx => Exists.elim hxx fun j133 hxx => Exists.elim hxx fun j134 hxx => Exists.elim hxx fun j135 hxx => Exists.elim hxx fun j136 hxx => Exists.elim hxx fun j137 hxx => Exists.elim hxx fun j138 hxx => Exists.elim hxx fun j139 hxx => Exists.elim hxx fun j140 hxx => Exists.elim hxx fun j141 hxx => Exists.elim hxx fun j142 hxx => Exists.elim hxx fun j143 hxx => Exists.elim hxx fun j144 hxx => Exists.elim hxx fun j145 hxx => ?_
        subst hxx
        intro hx
        have weq := equalDisks_call hP
        simp (config := { maxSteps := 10000000 }) only [go_sem, Nat.reduceAdd, Nat.reduceSub, Nat.reduceMul, Nat.reduceDiv, Nat.reduceMod, Nat.reducePow, Nat.reduceLeDiff, Nat.reduceLT, Nat.reduceEqDiff, Nat.reduceBEq, Nat.reduceBNe, Int.reduceAdd, Int.reduceSub, Int.reduceMul, Int.reducePow, Int.reduceLE, Int.reduceLT, Int.reduceEq, Int.reduceToNat, Int.reduceNeg, reduceCtorEq, Nat.add_zero, Nat.zero_add, beq_self_eq_true, Try.f7, startH, Int.ofNat_zero, Int.natCast_zero] at hx
        simp (config := { maxSteps := 10000000 }) only [go_sem, Nat.reduceAdd, Nat.reduceSub, Nat.reduceMul, Nat.reduceDiv, Nat.reduceMod, Nat.reducePow, Nat.reduceLeDiff, Nat.reduceLT, Nat.reduceEqDiff, Nat.reduceBEq, Nat.reduceBNe, Int.reduceAdd, Int.reduceSub, Int.reduceMul, Int.reducePow, Int.reduceLE, Int.reduceLT, Int.reduceEq, Int.reduceToNat, Int.reduceNeg, reduceCtorEq, Nat.add_zero, Nat.zero_add, beq_self_eq_true, Try.f7, c1, c2, w1, w2, neq_ptr_nil, bne_self_eq_false, List.length_map]
        rw [hx]
        simp only [go_sem, Nat.reduceAdd, Nat.reduceSub, Nat.reduceMul, Nat.reduceDiv, Nat.reduceMod, Nat.reducePow, Nat.reduceLeDiff, Nat.reduceLT, Nat.reduceEqDiff, Nat.reduceBEq, Nat.reduceBNe, Int.reduceAdd, Int.reduceSub, Int.reduceMul, Int.reducePow, Int.reduceLE, Int.reduceLT, Int.reduceEq, Int.reduceToNat, Int.reduceNeg, reduceCtorEq, Nat.add_zero, Nat.zero_add, beq_self_eq_true, weq, unwind, modeEx, resultsOf, one]
        exact ⟨_, rfl⟩
end Go.Proofs.Ytamcncpgfhfheaa.Tidy
