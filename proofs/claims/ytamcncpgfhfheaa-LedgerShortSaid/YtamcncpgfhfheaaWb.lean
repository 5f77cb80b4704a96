/-
  What the functions that LedgerShort reaches compute; the law, run.
-/
import Derived.Test.YtamcncpgfhfheaaWa
set_option linter.all false
/-
  Trees: growths, of the program and of the reference.
-/
namespace Go.Proofs.Ytamcncpgfhfheaa.Tidy
open Go Go.IntWalk
set_option maxRecDepth 10000
set_option linter.unusedSimpArgs false

/-- a growth, from its end -/
def grownR (rt : List Entry → Int) (l : List Entry) (first : Nat) (whole : Bool) : List Int :=
  if first = l.length then (if whole then [] else [rt l]) else
    if _h : l.length ≤ 1 then [] else
      if first ≤ splitS l.length then rt (l.drop (splitS l.length)) :: grownR rt (l.take (splitS l.length)) first whole
      else rt (l.take (splitS l.length)) :: grownR rt (l.drop (splitS l.length)) (first - splitS l.length) false
termination_by l.length
decreasing_by
  all_goals
    have := splitS_lt (n := l.length) (by omega)
    simp only [List.length_take, List.length_drop]
    omega

theorem grownR_all {rt : List Entry → Int} {l : List Entry} {first : Nat} {whole : Bool} (h : first = l.length) : grownR rt l first whole = if whole then [] else [rt l] := by
  rw [grownR, if_pos h]
theorem grownR_left {rt : List Entry → Int} {l : List Entry} {first : Nat} {whole : Bool} (h : first ≠ l.length) (h2 : 2 ≤ l.length) (hp : first ≤ splitS l.length) : grownR rt l first whole = rt (l.drop (splitS l.length)) :: grownR rt (l.take (splitS l.length)) first whole := by
  rw [grownR, if_neg h, dif_neg (by omega), if_pos hp]
theorem grownR_right {rt : List Entry → Int} {l : List Entry} {first : Nat} {whole : Bool} (h : first ≠ l.length) (h2 : 2 ≤ l.length) (hp : ¬ first ≤ splitS l.length) : grownR rt l first whole = rt (l.take (splitS l.length)) :: grownR rt (l.drop (splitS l.length)) (first - splitS l.length) false := by
  rw [grownR, if_neg h, dif_neg (by omega), if_neg hp]

theorem grownR_length (rt : List Entry → Int) : ∀ (n : Nat) (l : List Entry) (first : Nat) (whole : Bool), l.length ≤ n → (grownR rt l first whole).length ≤ n + 1
  | n, l, first, whole, h => by
    by_cases h0 : first = l.length
    · rw [grownR_all h0]; cases whole <;> simp
    · by_cases h1 : l.length ≤ 1
      · rw [grownR, if_neg h0, dif_pos h1]; simp
      · obtain ⟨m, rfl⟩ : ∃ m, n = m + 1 := ⟨n - 1, by omega⟩
        have hs := splitS_lt (n := l.length) (by omega)
        by_cases hp : first ≤ splitS l.length
        · rw [grownR_left h0 (by omega) hp]
          have := grownR_length rt m (l.take (splitS l.length)) first whole (by rw [List.length_take]; omega)
          simp only [List.length_cons]; omega
        · rw [grownR_right h0 (by omega) hp]
          have := grownR_length rt m (l.drop (splitS l.length)) (first - splitS l.length) false (by rw [List.length_drop]; omega)
          simp only [List.length_cons]; omega

theorem root_call1 (cl : Bool) (l : List Entry) (h1 : l.length ≤ 512) (h2 : small l) (ro : Nat) (H : Heap) (nx : Nat) : callT env 82 [.lit cl 3 (l.map Entry.enc)] ro H nx = some (.ret (.int .u64 (rootI l)), .ups []) := root_call cl l h1 h2 ro H nx

/-- what Grown tells -/
def grownS (l : List Entry) (first : Int) : List Int × Int :=
  if chkS l = 0 then (if first < 1 ∨ (l.length : Int) < first then ([], 1) else ((grownR rootI l first.toNat true).reverse, 0)) else ([], chkS l)

theorem grown_run : ∀ (n : Nat) (cl : Bool) (l : List Entry) (first : Nat) (whole : Bool), l.length = n → 1 ≤ first → n ≤ 512 → first ≤ n → small l → ∃ v H', runT env 93 [encL cl l, .int .i64 first, .bool whole] [] 0 = some (.ret v, H') ∧ VecR .u64 v H' (grownR rootI l first whole).reverse := by
  intro n
  induction n using Nat.strongRecOn with
  | _ n ih =>
    intro cl l first whole hl h1 hn hp hsm
    rw [run_unfold fn93 rfl]
    by_cases h2 : first = l.length
    · have d1 : decide ((first : Int) = (l.length : Int)) = true := by simp only [decide_eq_true_eq]; omega
      rw [grownR_all h2]
      cases whole with
      | true =>
        simp only [go_sem, Nat.reduceAdd, Nat.reduceSub, Nat.reduceMul, Nat.reduceDiv, Nat.reduceMod, Nat.reducePow, Nat.reduceLeDiff, Nat.reduceLT, Nat.reduceEqDiff, Nat.reduceBEq, Nat.reduceBNe, Int.reduceAdd, Int.reduceSub, Int.reduceMul, Int.reducePow, Int.reduceLE, Int.reduceLT, Int.reduceEq, Int.reduceToNat, Int.reduceNeg, reduceCtorEq, Nat.add_zero, Nat.zero_add, beq_self_eq_true, Try.f93, encL, List.length_map, d1, unwind, modeEx, resultsOf, one]
        exact ⟨_, _, rfl, .inl ⟨0, rfl, rfl, .inl rfl⟩⟩
      | false =>
        have hrt := fun cl => root_call1 cl l (by omega) hsm
        simp only [go_sem, Nat.reduceAdd, Nat.reduceSub, Nat.reduceMul, Nat.reduceDiv, Nat.reduceMod, Nat.reducePow, Nat.reduceLeDiff, Nat.reduceLT, Nat.reduceEqDiff, Nat.reduceBEq, Nat.reduceBNe, Int.reduceAdd, Int.reduceSub, Int.reduceMul, Int.reducePow, Int.reduceLE, Int.reduceLT, Int.reduceEq, Int.reduceToNat, Int.reduceNeg, reduceCtorEq, Nat.add_zero, Nat.zero_add, beq_self_eq_true, Try.f93, encL, List.length_map, d1, hrt, unwind, modeEx, resultsOf, one]
        exact ⟨_, _, rfl, .inl ⟨1, rfl, rfl, .inr rfl⟩⟩
    · have hs := splitS_lt (n := l.length) (by omega)
      have d1 : decide ((first : Int) = (l.length : Int)) = false := by simp only [decide_eq_false_iff_not]; omega
      by_cases hlt : first ≤ splitS l.length
      · have d2 : decide ((first : Int) ≤ (splitS l.length : Int)) = true := by simp only [decide_eq_true_eq]; omega
        rw [grownR_left h2 (by omega) hlt]
        obtain ⟨v, H', hr, hv⟩ := ih (l.take (splitS l.length)).length (by rw [List.length_take]; omega) (cl && splitS l.length == l.length) (l.take (splitS l.length)) first whole rfl (by omega) (by rw [List.length_take]; omega) (by rw [List.length_take]; omega) (hsm.take _)
        obtain ⟨u, us, hc, hu⟩ := call_vec rfl rfl rfl rfl rfl hr hv 0 [] 0
        have hlen := grownR_length rootI 512 (l.take (splitS l.length)) first whole (by rw [List.length_take]; omega)
        obtain ⟨w, us', ha, hw, g1, g2, g3, g4⟩ := append35 hu (by rw [List.length_reverse]; omega) (rootI (l.drop (splitS l.length)))
        have hrt := fun cl => root_call1 cl (l.drop (splitS l.length)) (by rw [List.length_drop]; omega) (hsm.drop _)
        simp only [encL] at hc
        simp only [go_sem, Nat.reduceAdd, Nat.reduceSub, Nat.reduceMul, Nat.reduceDiv, Nat.reduceMod, Nat.reducePow, Nat.reduceLeDiff, Nat.reduceLT, Nat.reduceEqDiff, Nat.reduceBEq, Nat.reduceBNe, Int.reduceAdd, Int.reduceSub, Int.reduceMul, Int.reducePow, Int.reduceLE, Int.reduceLT, Int.reduceEq, Int.reduceToNat, Int.reduceNeg, reduceCtorEq, Nat.add_zero, Nat.zero_add, beq_self_eq_true, Try.f93, encL, List.length_map, d1, d2, split_call (n := l.length) (by omega) (by omega), sl_to _ _ _ (show splitS l.length ≤ l.length by omega), sl_from _ _ _ (show splitS l.length ≤ l.length by omega), hc, hrt, ha, g1, g2, g3]
        rw [apart_ok]
        · simp only [go_sem, Nat.reduceAdd, Nat.reduceSub, Nat.reduceMul, Nat.reduceDiv, Nat.reduceMod, Nat.reducePow, Nat.reduceLeDiff, Nat.reduceLT, Nat.reduceEqDiff, Nat.reduceBEq, Nat.reduceBNe, Int.reduceAdd, Int.reduceSub, Int.reduceMul, Int.reducePow, Int.reduceLE, Int.reduceLT, Int.reduceEq, Int.reduceToNat, Int.reduceNeg, reduceCtorEq, Nat.add_zero, Nat.zero_add, beq_self_eq_true, unwind, modeEx, resultsOf, one]
          exact ⟨_, _, rfl, by simpa using hw⟩
        · rcases g4 with ⟨e1, e2⟩ | ⟨e1, e2⟩ <;> rw [e1, e2] <;> kernel_rfl
      · have d2 : decide ((first : Int) ≤ (splitS l.length : Int)) = false := by simp only [decide_eq_false_iff_not]; omega
        rw [grownR_right h2 (by omega) hlt]
        obtain ⟨v, H', hr, hv⟩ := ih (l.drop (splitS l.length)).length (by rw [List.length_drop]; omega) cl (l.drop (splitS l.length)) (first - splitS l.length) false rfl (by omega) (by rw [List.length_drop]; omega) (by rw [List.length_drop]; omega) (hsm.drop _)
        obtain ⟨u, us, hc, hu⟩ := call_vec rfl rfl rfl rfl rfl hr hv 0 [] 0
        have hlen := grownR_length rootI 512 (l.drop (splitS l.length)) (first - splitS l.length) false (by rw [List.length_drop]; omega)
        obtain ⟨w, us', ha, hw, g1, g2, g3, g4⟩ := append35 hu (by rw [List.length_reverse]; omega) (rootI (l.take (splitS l.length)))
        have hrt := fun cl => root_call1 cl (l.take (splitS l.length)) (by rw [List.length_take]; omega) (hsm.take _)
        simp only [encL] at hc
        simp only [go_sem, Nat.reduceAdd, Nat.reduceSub, Nat.reduceMul, Nat.reduceDiv, Nat.reduceMod, Nat.reducePow, Nat.reduceLeDiff, Nat.reduceLT, Nat.reduceEqDiff, Nat.reduceBEq, Nat.reduceBNe, Int.reduceAdd, Int.reduceSub, Int.reduceMul, Int.reducePow, Int.reduceLE, Int.reduceLT, Int.reduceEq, Int.reduceToNat, Int.reduceNeg, reduceCtorEq, Nat.add_zero, Nat.zero_add, beq_self_eq_true, Try.f93, encL, List.length_map, d1, d2, wrap_sub (show splitS l.length ≤ first by omega) (by omega), split_call (n := l.length) (by omega) (by omega), sl_to _ _ _ (show splitS l.length ≤ l.length by omega), sl_from _ _ _ (show splitS l.length ≤ l.length by omega), hc, hrt, ha, g1, g2, g3]
        rw [apart_ok]
        · simp only [go_sem, Nat.reduceAdd, Nat.reduceSub, Nat.reduceMul, Nat.reduceDiv, Nat.reduceMod, Nat.reducePow, Nat.reduceLeDiff, Nat.reduceLT, Nat.reduceEqDiff, Nat.reduceBEq, Nat.reduceBNe, Int.reduceAdd, Int.reduceSub, Int.reduceMul, Int.reducePow, Int.reduceLE, Int.reduceLT, Int.reduceEq, Int.reduceToNat, Int.reduceNeg, reduceCtorEq, Nat.add_zero, Nat.zero_add, beq_self_eq_true, unwind, modeEx, resultsOf, one]
          exact ⟨_, _, rfl, by simpa using hw⟩
        · rcases g4 with ⟨e1, e2⟩ | ⟨e1, e2⟩ <;> rw [e1, e2] <;> kernel_rfl

theorem rgrown_run : ∀ (n : Nat) (cl : Bool) (l : List Entry) (first : Nat) (whole : Bool), l.length = n → 1 ≤ first → n ≤ 512 → first ≤ n → small l → ∃ v H', runT env 94 [encL cl l, .int .i64 first, .bool whole] [] 0 = some (.ret v, H') ∧ VecR .u64 v H' (grownR rootI l first whole).reverse := by
  intro n
  induction n using Nat.strongRecOn with
  | _ n ih =>
    intro cl l first whole hl h1 hn hp hsm
    rw [run_unfold fn94 rfl]
    by_cases h2 : first = l.length
    · have d1 : decide ((first : Int) = (l.length : Int)) = true := by simp only [decide_eq_true_eq]; omega
      rw [grownR_all h2]
      cases whole with
      | true =>
        simp only [go_sem, Nat.reduceAdd, Nat.reduceSub, Nat.reduceMul, Nat.reduceDiv, Nat.reduceMod, Nat.reducePow, Nat.reduceLeDiff, Nat.reduceLT, Nat.reduceEqDiff, Nat.reduceBEq, Nat.reduceBNe, Int.reduceAdd, Int.reduceSub, Int.reduceMul, Int.reducePow, Int.reduceLE, Int.reduceLT, Int.reduceEq, Int.reduceToNat, Int.reduceNeg, reduceCtorEq, Nat.add_zero, Nat.zero_add, beq_self_eq_true, Try.f94, encL, List.length_map, d1, unwind, modeEx, resultsOf, one]
        exact ⟨_, _, rfl, .inl ⟨0, rfl, rfl, .inl rfl⟩⟩
      | false =>
        have hrt := fun cl => rroot_call1 cl l (by omega) hsm
        simp only [go_sem, Nat.reduceAdd, Nat.reduceSub, Nat.reduceMul, Nat.reduceDiv, Nat.reduceMod, Nat.reducePow, Nat.reduceLeDiff, Nat.reduceLT, Nat.reduceEqDiff, Nat.reduceBEq, Nat.reduceBNe, Int.reduceAdd, Int.reduceSub, Int.reduceMul, Int.reducePow, Int.reduceLE, Int.reduceLT, Int.reduceEq, Int.reduceToNat, Int.reduceNeg, reduceCtorEq, Nat.add_zero, Nat.zero_add, beq_self_eq_true, Try.f94, encL, List.length_map, d1, hrt, unwind, modeEx, resultsOf, one]
        exact ⟨_, _, rfl, .inl ⟨1, rfl, rfl, .inr rfl⟩⟩
    · have hs := splitS_lt (n := l.length) (by omega)
      have d1 : decide ((first : Int) = (l.length : Int)) = false := by simp only [decide_eq_false_iff_not]; omega
      by_cases hlt : first ≤ splitS l.length
      · have d2 : decide ((first : Int) ≤ (splitS l.length : Int)) = true := by simp only [decide_eq_true_eq]; omega
        rw [grownR_left h2 (by omega) hlt]
        obtain ⟨v, H', hr, hv⟩ := ih (l.take (splitS l.length)).length (by rw [List.length_take]; omega) true (l.take (splitS l.length)) first whole rfl (by omega) (by rw [List.length_take]; omega) (by rw [List.length_take]; omega) (hsm.take _)
        obtain ⟨u, us, hc, hu⟩ := call_vec rfl rfl rfl rfl rfl hr hv 0 [] 0
        have hlen := grownR_length rootI 512 (l.take (splitS l.length)) first whole (by rw [List.length_take]; omega)
        obtain ⟨w, us', ha, hw, g1, g2, g3, g4⟩ := append35 hu (by rw [List.length_reverse]; omega) (rootI (l.drop (splitS l.length)))
        have hrt := fun cl => rroot_call1 cl (l.drop (splitS l.length)) (by rw [List.length_drop]; omega) (hsm.drop _)
        simp only [encL] at hc
        simp only [go_sem, Nat.reduceAdd, Nat.reduceSub, Nat.reduceMul, Nat.reduceDiv, Nat.reduceMod, Nat.reducePow, Nat.reduceLeDiff, Nat.reduceLT, Nat.reduceEqDiff, Nat.reduceBEq, Nat.reduceBNe, Int.reduceAdd, Int.reduceSub, Int.reduceMul, Int.reducePow, Int.reduceLE, Int.reduceLT, Int.reduceEq, Int.reduceToNat, Int.reduceNeg, reduceCtorEq, Nat.add_zero, Nat.zero_add, beq_self_eq_true, Try.f94, encL, List.length_map, d1, d2, rsplit_call (n := l.length) (by omega) (by omega), sl_to3 _ _ _ (show splitS l.length ≤ l.length by omega), sl_from _ _ _ (show splitS l.length ≤ l.length by omega), hc, hrt, ha, g1, g2, g3]
        rw [apart_ok]
        · simp only [go_sem, Nat.reduceAdd, Nat.reduceSub, Nat.reduceMul, Nat.reduceDiv, Nat.reduceMod, Nat.reducePow, Nat.reduceLeDiff, Nat.reduceLT, Nat.reduceEqDiff, Nat.reduceBEq, Nat.reduceBNe, Int.reduceAdd, Int.reduceSub, Int.reduceMul, Int.reducePow, Int.reduceLE, Int.reduceLT, Int.reduceEq, Int.reduceToNat, Int.reduceNeg, reduceCtorEq, Nat.add_zero, Nat.zero_add, beq_self_eq_true, unwind, modeEx, resultsOf, one]
          exact ⟨_, _, rfl, by simpa using hw⟩
        · rcases g4 with ⟨e1, e2⟩ | ⟨e1, e2⟩ <;> rw [e1, e2] <;> kernel_rfl
      · have d2 : decide ((first : Int) ≤ (splitS l.length : Int)) = false := by simp only [decide_eq_false_iff_not]; omega
        rw [grownR_right h2 (by omega) hlt]
        obtain ⟨v, H', hr, hv⟩ := ih (l.drop (splitS l.length)).length (by rw [List.length_drop]; omega) cl (l.drop (splitS l.length)) (first - splitS l.length) false rfl (by omega) (by rw [List.length_drop]; omega) (by rw [List.length_drop]; omega) (hsm.drop _)
        obtain ⟨u, us, hc, hu⟩ := call_vec rfl rfl rfl rfl rfl hr hv 0 [] 0
        have hlen := grownR_length rootI 512 (l.drop (splitS l.length)) (first - splitS l.length) false (by rw [List.length_drop]; omega)
        obtain ⟨w, us', ha, hw, g1, g2, g3, g4⟩ := append35 hu (by rw [List.length_reverse]; omega) (rootI (l.take (splitS l.length)))
        have hrt := fun cl => rroot_call1 cl (l.take (splitS l.length)) (by rw [List.length_take]; omega) (hsm.take _)
        simp only [encL] at hc
        simp only [go_sem, Nat.reduceAdd, Nat.reduceSub, Nat.reduceMul, Nat.reduceDiv, Nat.reduceMod, Nat.reducePow, Nat.reduceLeDiff, Nat.reduceLT, Nat.reduceEqDiff, Nat.reduceBEq, Nat.reduceBNe, Int.reduceAdd, Int.reduceSub, Int.reduceMul, Int.reducePow, Int.reduceLE, Int.reduceLT, Int.reduceEq, Int.reduceToNat, Int.reduceNeg, reduceCtorEq, Nat.add_zero, Nat.zero_add, beq_self_eq_true, Try.f94, encL, List.length_map, d1, d2, wrap_sub (show splitS l.length ≤ first by omega) (by omega), rsplit_call (n := l.length) (by omega) (by omega), sl_to3 _ _ _ (show splitS l.length ≤ l.length by omega), sl_from _ _ _ (show splitS l.length ≤ l.length by omega), hc, hrt, ha, g1, g2, g3]
        rw [apart_ok]
        · simp only [go_sem, Nat.reduceAdd, Nat.reduceSub, Nat.reduceMul, Nat.reduceDiv, Nat.reduceMod, Nat.reducePow, Nat.reduceLeDiff, Nat.reduceLT, Nat.reduceEqDiff, Nat.reduceBEq, Nat.reduceBNe, Int.reduceAdd, Int.reduceSub, Int.reduceMul, Int.reducePow, Int.reduceLE, Int.reduceLT, Int.reduceEq, Int.reduceToNat, Int.reduceNeg, reduceCtorEq, Nat.add_zero, Nat.zero_add, beq_self_eq_true, unwind, modeEx, resultsOf, one]
          exact ⟨_, _, rfl, by simpa using hw⟩
        · rcases g4 with ⟨e1, e2⟩ | ⟨e1, e2⟩ <;> rw [e1, e2] <;> kernel_rfl

theorem Grown_call (cl : Bool) (l : List Entry) (pos : Int) (hlen : l.length < 2 ^ 63) : ∃ cl' sz, ((grownS l pos).1 = [] ∨ sz = 1) ∧ ∀ ro H nx,
    callT env 29 [.lit cl 3 (l.map Entry.enc), .int .i64 pos] ro H nx = some (.ret (.tuple [.lit cl' sz ((grownS l pos).1.map (.int .u64)), .int .i64 (grownS l pos).2]), .ups []) := by
  have : ∃ v H', runT env 29 [.lit cl 3 (l.map Entry.enc), .int .i64 pos] [] 0 = some (.ret (.tuple [v, .int .i64 (grownS l pos).2]), H') ∧ VecR .u64 v H' (grownS l pos).1 := by
    have hck := fun ro H nx => checkList_call cl l hlen ro H nx
    unfold grownS
    rw [run_unfold fn29 rfl]
    by_cases hc : chkS l = 0
    · have hcd : decide (chkS l = 0) = true := by simpa using hc
      rw [if_pos hc]
      obtain ⟨h1, h2⟩ := chk_zero hc
      by_cases hp : pos < 1
      · have d1 : decide (pos < 1) = true := by simpa using hp
        rw [if_pos (.inl hp)]
        simp only [go_sem, Nat.reduceAdd, Nat.reduceSub, Nat.reduceMul, Nat.reduceDiv, Nat.reduceMod, Nat.reducePow, Nat.reduceLeDiff, Nat.reduceLT, Nat.reduceEqDiff, Nat.reduceBEq, Nat.reduceBNe, Int.reduceAdd, Int.reduceSub, Int.reduceMul, Int.reducePow, Int.reduceLE, Int.reduceLT, Int.reduceEq, Int.reduceToNat, Int.reduceNeg, reduceCtorEq, Nat.add_zero, Nat.zero_add, beq_self_eq_true, Try.f29, hck, hcd, d1, unwind, modeEx, resultsOf, one]
        exact ⟨_, _, rfl, .inl ⟨0, rfl, rfl, .inl rfl⟩⟩
      · have d1 : decide (pos < 1) = false := by simpa using hp
        by_cases hq : (l.length : Int) < pos
        · have d2 : decide ((l.length : Int) < pos) = true := by simpa using hq
          rw [if_pos (.inr hq)]
          simp only [go_sem, Nat.reduceAdd, Nat.reduceSub, Nat.reduceMul, Nat.reduceDiv, Nat.reduceMod, Nat.reducePow, Nat.reduceLeDiff, Nat.reduceLT, Nat.reduceEqDiff, Nat.reduceBEq, Nat.reduceBNe, Int.reduceAdd, Int.reduceSub, Int.reduceMul, Int.reducePow, Int.reduceLE, Int.reduceLT, Int.reduceEq, Int.reduceToNat, Int.reduceNeg, reduceCtorEq, Nat.add_zero, Nat.zero_add, beq_self_eq_true, Try.f29, hck, hcd, d1, d2, List.length_map, unwind, modeEx, resultsOf, one]
          exact ⟨_, _, rfl, .inl ⟨0, rfl, rfl, .inl rfl⟩⟩
        · have d2 : decide ((l.length : Int) < pos) = false := by simpa using hq
          rw [if_neg (by rintro (h | h) <;> contradiction)]
          obtain ⟨v, H', hr, hv⟩ := grown_run l.length cl l pos.toNat true rfl (by omega) h1 (by omega) (all_small h2)
          obtain ⟨u, us, hpc, hu⟩ := call_vec rfl rfl rfl rfl rfl hr hv 0 [] 0
          have hpos : ((pos.toNat : Nat) : Int) = pos := by omega
          simp only [encL, hpos] at hpc
          simp only [go_sem, Nat.reduceAdd, Nat.reduceSub, Nat.reduceMul, Nat.reduceDiv, Nat.reduceMod, Nat.reducePow, Nat.reduceLeDiff, Nat.reduceLT, Nat.reduceEqDiff, Nat.reduceBEq, Nat.reduceBNe, Int.reduceAdd, Int.reduceSub, Int.reduceMul, Int.reducePow, Int.reduceLE, Int.reduceLT, Int.reduceEq, Int.reduceToNat, Int.reduceNeg, reduceCtorEq, Nat.add_zero, Nat.zero_add, beq_self_eq_true, Try.f29, hck, hcd, d1, d2, List.length_map, hpc, unwind, modeEx, resultsOf, one]
          refine ⟨_, _, rfl, ?_⟩
          rcases hu with ⟨sz, rfl, rfl, hsz⟩ | ⟨g, rfl, rfl, hne⟩
          · exact .inl ⟨sz, rfl, rfl, hsz⟩
          · exact .inr ⟨g, rfl, rfl, hne⟩
    · have hcd : decide (chkS l = 0) = false := by simpa using hc
      rw [if_neg hc]
      simp only [go_sem, Nat.reduceAdd, Nat.reduceSub, Nat.reduceMul, Nat.reduceDiv, Nat.reduceMod, Nat.reducePow, Nat.reduceLeDiff, Nat.reduceLT, Nat.reduceEqDiff, Nat.reduceBEq, Nat.reduceBNe, Int.reduceAdd, Int.reduceSub, Int.reduceMul, Int.reducePow, Int.reduceLE, Int.reduceLT, Int.reduceEq, Int.reduceToNat, Int.reduceNeg, reduceCtorEq, Nat.add_zero, Nat.zero_add, beq_self_eq_true, Try.f29, hck, hcd, unwind, modeEx, resultsOf, one]
      exact ⟨_, _, rfl, .inl ⟨0, rfl, rfl, .inl rfl⟩⟩
  obtain ⟨v, H', hr, hv⟩ := this
  exact call_lit2 rfl rfl rfl rfl rfl hr hv rfl

theorem rGrown_call (cl : Bool) (l : List Entry) (pos : Int) (hlen : l.length < 2 ^ 63) : ∃ cl' sz, ((grownS l pos).1 = [] ∨ sz = 1) ∧ ∀ ro H nx,
    callT env 30 [.lit cl 3 (l.map Entry.enc), .int .i64 pos] ro H nx = some (.ret (.tuple [.lit cl' sz ((grownS l pos).1.map (.int .u64)), .int .i64 (grownS l pos).2]), .ups []) := by
  have : ∃ v H', runT env 30 [.lit cl 3 (l.map Entry.enc), .int .i64 pos] [] 0 = some (.ret (.tuple [v, .int .i64 (grownS l pos).2]), H') ∧ VecR .u64 v H' (grownS l pos).1 := by
    have hck := fun ro H nx => rcheckList_call cl l hlen ro H nx
    unfold grownS
    rw [run_unfold fn30 rfl]
    by_cases hc : chkS l = 0
    · have hcd : decide (chkS l = 0) = true := by simpa using hc
      rw [if_pos hc]
      obtain ⟨h1, h2⟩ := chk_zero hc
      by_cases hp : pos < 1
      · have d1 : decide (pos < 1) = true := by simpa using hp
        rw [if_pos (.inl hp)]
        simp only [go_sem, Nat.reduceAdd, Nat.reduceSub, Nat.reduceMul, Nat.reduceDiv, Nat.reduceMod, Nat.reducePow, Nat.reduceLeDiff, Nat.reduceLT, Nat.reduceEqDiff, Nat.reduceBEq, Nat.reduceBNe, Int.reduceAdd, Int.reduceSub, Int.reduceMul, Int.reducePow, Int.reduceLE, Int.reduceLT, Int.reduceEq, Int.reduceToNat, Int.reduceNeg, reduceCtorEq, Nat.add_zero, Nat.zero_add, beq_self_eq_true, Try.f30, hck, hcd, d1, unwind, modeEx, resultsOf, one]
        exact ⟨_, _, rfl, .inl ⟨0, rfl, rfl, .inl rfl⟩⟩
      · have d1 : decide (pos < 1) = false := by simpa using hp
        by_cases hq : (l.length : Int) < pos
        · have d2 : decide ((l.length : Int) < pos) = true := by simpa using hq
          rw [if_pos (.inr hq)]
          simp only [go_sem, Nat.reduceAdd, Nat.reduceSub, Nat.reduceMul, Nat.reduceDiv, Nat.reduceMod, Nat.reducePow, Nat.reduceLeDiff, Nat.reduceLT, Nat.reduceEqDiff, Nat.reduceBEq, Nat.reduceBNe, Int.reduceAdd, Int.reduceSub, Int.reduceMul, Int.reducePow, Int.reduceLE, Int.reduceLT, Int.reduceEq, Int.reduceToNat, Int.reduceNeg, reduceCtorEq, Nat.add_zero, Nat.zero_add, beq_self_eq_true, Try.f30, hck, hcd, d1, d2, List.length_map, unwind, modeEx, resultsOf, one]
          exact ⟨_, _, rfl, .inl ⟨0, rfl, rfl, .inl rfl⟩⟩
        · have d2 : decide ((l.length : Int) < pos) = false := by simpa using hq
          rw [if_neg (by rintro (h | h) <;> contradiction)]
          obtain ⟨v, H', hr, hv⟩ := rgrown_run l.length cl l pos.toNat true rfl (by omega) h1 (by omega) (all_small h2)
          obtain ⟨u, us, hpc, hu⟩ := call_vec rfl rfl rfl rfl rfl hr hv 0 [] 0
          have hpos : ((pos.toNat : Nat) : Int) = pos := by omega
          simp only [encL, hpos] at hpc
          simp only [go_sem, Nat.reduceAdd, Nat.reduceSub, Nat.reduceMul, Nat.reduceDiv, Nat.reduceMod, Nat.reducePow, Nat.reduceLeDiff, Nat.reduceLT, Nat.reduceEqDiff, Nat.reduceBEq, Nat.reduceBNe, Int.reduceAdd, Int.reduceSub, Int.reduceMul, Int.reducePow, Int.reduceLE, Int.reduceLT, Int.reduceEq, Int.reduceToNat, Int.reduceNeg, reduceCtorEq, Nat.add_zero, Nat.zero_add, beq_self_eq_true, Try.f30, hck, hcd, d1, d2, List.length_map, hpc, unwind, modeEx, resultsOf, one]
          refine ⟨_, _, rfl, ?_⟩
          rcases hu with ⟨sz, rfl, rfl, hsz⟩ | ⟨g, rfl, rfl, hne⟩
          · exact .inl ⟨sz, rfl, rfl, hsz⟩
          · exact .inr ⟨g, rfl, rfl, hne⟩
    · have hcd : decide (chkS l = 0) = false := by simpa using hc
      rw [if_neg hc]
      simp only [go_sem, Nat.reduceAdd, Nat.reduceSub, Nat.reduceMul, Nat.reduceDiv, Nat.reduceMod, Nat.reducePow, Nat.reduceLeDiff, Nat.reduceLT, Nat.reduceEqDiff, Nat.reduceBEq, Nat.reduceBNe, Int.reduceAdd, Int.reduceSub, Int.reduceMul, Int.reducePow, Int.reduceLE, Int.reduceLT, Int.reduceEq, Int.reduceToNat, Int.reduceNeg, reduceCtorEq, Nat.add_zero, Nat.zero_add, beq_self_eq_true, Try.f30, hck, hcd, unwind, modeEx, resultsOf, one]
      exact ⟨_, _, rfl, .inl ⟨0, rfl, rfl, .inl rfl⟩⟩
  obtain ⟨v, H', hr, hv⟩ := this
  exact call_lit2 rfl rfl rfl rfl rfl hr hv rfl

/-- what a growth makes of an earlier root; the growth from its end -/
def growR (old : Int) : List Int → Nat → Nat → Bool → Int × Int × Bool
  | [], first, many, whole => if first = many then (if whole then (old, old, true) else (0, 0, false)) else (0, 0, false)
  | h :: r, first, many, whole => if first = many then (if whole then (old, old, false) else if r.length = 0 then (h, h, true) else (0, 0, false)) else
      if first ≤ splitS many then ((growR old r first (splitS many) whole).1, nodeI (growR old r first (splitS many) whole).2.1 h, (growR old r first (splitS many) whole).2.2)
      else (nodeI h (growR old r (first - splitS many) (many - splitS many) false).1, nodeI h (growR old r (first - splitS many) (many - splitS many) false).2.1, (growR old r (first - splitS many) (many - splitS many) false).2.2)

theorem growR_range {old : Int} (ho : 0 ≤ old ∧ old ≤ 18446744073709551615) : ∀ (r : List Int) (first many : Nat) (whole : Bool), u64s r →
    (0 ≤ (growR old r first many whole).1 ∧ (growR old r first many whole).1 ≤ 18446744073709551615) ∧ (0 ≤ (growR old r first many whole).2.1 ∧ (growR old r first many whole).2.1 ≤ 18446744073709551615)
  | [], first, many, whole, _ => by
    have z : (0 : Int) ≤ 0 ∧ (0 : Int) ≤ 18446744073709551615 := by omega
    unfold growR
    split
    · split
      · exact ⟨ho, ho⟩
      · exact ⟨z, z⟩
    · exact ⟨z, z⟩
  | h :: r, first, many, whole, hu => by
    have z : (0 : Int) ≤ 0 ∧ (0 : Int) ≤ 18446744073709551615 := by omega
    have hh := hu h (by simp)
    have hr : u64s r := fun x hx => hu x (by simp [hx])
    unfold growR
    split
    · split
      · exact ⟨ho, ho⟩
      · split
        · exact ⟨hh, hh⟩
        · exact ⟨z, z⟩
    · split
      · exact ⟨(growR_range ho r _ _ _ hr).1, node_range _ _⟩
      · exact ⟨node_range _ _, node_range _ _⟩

theorem grow_call (old : Int) (ho : 0 ≤ old ∧ old ≤ 18446744073709551615) : ∀ (r : List Int), u64s r → r.length < 2 ^ 63 → ∀ (first many : Nat) (whole : Bool) (cl : Bool) (sz : Nat), 1 ≤ first → many ≤ 512 → first ≤ many → (r = [] ∨ sz = 1) → ∀ ro H nx,
    callT env 95 [.int .u64 old, .int .i64 first, .int .i64 many, .bool whole, .lit cl sz (r.reverse.map (.int .u64))] ro H nx = some (.ret (.tuple [.int .u64 (growR old r first many whole).1, .int .u64 (growR old r first many whole).2.1, .bool (growR old r first many whole).2.2]), .ups []) := by
  intro r
  induction r with
  | nil =>
    intro _ _ first many whole cl sz h1 h2 h3 _ ro H nx
    refine call_pure (H' := []) rfl rfl rfl rfl ?_ rfl ro H nx
    rw [run_unfold fn95 rfl]
    have w0 : IntKind.i64.wrap (((0 : Nat) : Int) - 1) = -1 := by decide
    cases hd : decide ((first : Int) = (many : Int)) with
    | true =>
      have hm : first = many := by simp only [decide_eq_true_eq] at hd; omega
      cases whole with
      | true => simp only [go_sem, Nat.reduceAdd, Nat.reduceSub, Nat.reduceMul, Nat.reduceDiv, Nat.reduceMod, Nat.reducePow, Nat.reduceLeDiff, Nat.reduceLT, Nat.reduceEqDiff, Nat.reduceBEq, Nat.reduceBNe, Int.reduceAdd, Int.reduceSub, Int.reduceMul, Int.reducePow, Int.reduceLE, Int.reduceLT, Int.reduceEq, Int.reduceToNat, Int.reduceNeg, reduceCtorEq, Nat.add_zero, Nat.zero_add, beq_self_eq_true, Try.f95, hd, w0, List.reverse_nil, unwind, modeEx, resultsOf, one, growR, hm]
      | false => simp only [go_sem, Nat.reduceAdd, Nat.reduceSub, Nat.reduceMul, Nat.reduceDiv, Nat.reduceMod, Nat.reducePow, Nat.reduceLeDiff, Nat.reduceLT, Nat.reduceEqDiff, Nat.reduceBEq, Nat.reduceBNe, Int.reduceAdd, Int.reduceSub, Int.reduceMul, Int.reducePow, Int.reduceLE, Int.reduceLT, Int.reduceEq, Int.reduceToNat, Int.reduceNeg, reduceCtorEq, Nat.add_zero, Nat.zero_add, beq_self_eq_true, Try.f95, hd, w0, List.reverse_nil, unwind, modeEx, resultsOf, one, growR, hm]
    | false =>
      have hm : ¬ first = many := by simp only [decide_eq_false_iff_not] at hd; omega
      simp only [go_sem, Nat.reduceAdd, Nat.reduceSub, Nat.reduceMul, Nat.reduceDiv, Nat.reduceMod, Nat.reducePow, Nat.reduceLeDiff, Nat.reduceLT, Nat.reduceEqDiff, Nat.reduceBEq, Nat.reduceBNe, Int.reduceAdd, Int.reduceSub, Int.reduceMul, Int.reducePow, Int.reduceLE, Int.reduceLT, Int.reduceEq, Int.reduceToNat, Int.reduceNeg, reduceCtorEq, Nat.add_zero, Nat.zero_add, beq_self_eq_true, Try.f95, hd, w0, List.reverse_nil, unwind, modeEx, resultsOf, one, growR, hm]
  | cons h r ih =>
    intro hu hl first many whole cl sz h1 h2 h3 hsz ro H nx
    obtain rfl : sz = 1 := by rcases hsz with h | h; · cases h
                              · exact h
    have hh := hu h (by simp)
    have hu' : u64s r := fun x hx => hu x (by simp [hx])
    have hl' : r.length < 2 ^ 63 := by simp only [List.length_cons] at hl; omega
    refine call_pure (H' := []) rfl rfl rfl (by simp [underL, AVal.under]) ?_ rfl ro H nx
    rw [run_unfold fn95 rfl]
    have d0 : decide (((r.length : Nat) : Int) < 0) = false := by simp only [decide_eq_false_iff_not]; omega
    have e0 : (0 : Int) ≤ (r.length : Int) := by omega
    have hg : ((r.reverse ++ [h]).map (AVal.int .u64))[((r.length : Nat) : Int).toNat]? = some (.int .u64 h) := get_map (by simp)
    have ht : (r.reverse ++ [h]).take r.length = r.reverse := by
      rw [show r.length = r.reverse.length from by simp]; exact List.take_left' rfl
    by_cases hm : first = many
    · have hd : decide ((first : Int) = (many : Int)) = true := by simp only [decide_eq_true_eq]; omega
      cases whole with
      | true => simp only [go_sem, Nat.reduceAdd, Nat.reduceSub, Nat.reduceMul, Nat.reduceDiv, Nat.reduceMod, Nat.reducePow, Nat.reduceLeDiff, Nat.reduceLT, Nat.reduceEqDiff, Nat.reduceBEq, Nat.reduceBNe, Int.reduceAdd, Int.reduceSub, Int.reduceMul, Int.reducePow, Int.reduceLE, Int.reduceLT, Int.reduceEq, Int.reduceToNat, Int.reduceNeg, reduceCtorEq, Nat.add_zero, Nat.zero_add, beq_self_eq_true, Try.f95, hd, d0, List.reverse_cons, List.length_append, List.length_map, List.length_reverse, wrap_pred (show r.length < 2 ^ 63 by omega), unwind, modeEx, resultsOf, one, growR, hm]
      | false =>
        cases hz : decide ((r.length : Int) = 0) with
        | true =>
          have hr0 : r.length = 0 := by simp only [decide_eq_true_eq] at hz; omega
          obtain rfl : r = [] := List.eq_nil_of_length_eq_zero hr0
          have w1 : IntKind.i64.wrap (((0 + 1 : Nat) : Int) - 1) = 0 := by decide
          have h00 : (0 : Int) ≤ 0 := by omega
          simp only [go_sem, Nat.reduceAdd, Nat.reduceSub, Nat.reduceMul, Nat.reduceDiv, Nat.reduceMod, Nat.reducePow, Nat.reduceLeDiff, Nat.reduceLT, Nat.reduceEqDiff, Nat.reduceBEq, Nat.reduceBNe, Int.reduceAdd, Int.reduceSub, Int.reduceMul, Int.reducePow, Int.reduceLE, Int.reduceLT, Int.reduceEq, Int.reduceToNat, Int.reduceNeg, reduceCtorEq, Nat.add_zero, Nat.zero_add, beq_self_eq_true, Try.f95, hd, hz, w1, h00, List.reverse_cons, List.reverse_nil, List.nil_append, List.length_map, unwind, modeEx, resultsOf, one, growR, hm]
        | false =>
          have hr0 : ¬ r.length = 0 := by simp only [decide_eq_false_iff_not] at hz; omega
          simp only [go_sem, Nat.reduceAdd, Nat.reduceSub, Nat.reduceMul, Nat.reduceDiv, Nat.reduceMod, Nat.reducePow, Nat.reduceLeDiff, Nat.reduceLT, Nat.reduceEqDiff, Nat.reduceBEq, Nat.reduceBNe, Int.reduceAdd, Int.reduceSub, Int.reduceMul, Int.reducePow, Int.reduceLE, Int.reduceLT, Int.reduceEq, Int.reduceToNat, Int.reduceNeg, reduceCtorEq, Nat.add_zero, Nat.zero_add, beq_self_eq_true, Try.f95, hd, d0, hz, List.reverse_cons, List.length_append, List.length_map, List.length_reverse, wrap_pred (show r.length < 2 ^ 63 by omega), unwind, modeEx, resultsOf, one, growR, hm, hr0]
    · have hd : decide ((first : Int) = (many : Int)) = false := by simp only [decide_eq_false_iff_not]; omega
      have hs := splitS_lt (n := many) (by omega)
      by_cases hp : first ≤ splitS many
      · have d2 : decide ((first : Int) ≤ (splitS many : Int)) = true := by simp only [decide_eq_true_eq]; omega
        have hrec := fun cl ro H nx => ih hu' hl' first (splitS many) whole cl 1 h1 (by omega) hp (.inr rfl) ro H nx
        have hn := fun ro H nx => node_call1 (growR_range ho r first (splitS many) whole hu').2 hh ro H nx
        simp only [go_sem, Nat.reduceAdd, Nat.reduceSub, Nat.reduceMul, Nat.reduceDiv, Nat.reduceMod, Nat.reducePow, Nat.reduceLeDiff, Nat.reduceLT, Nat.reduceEqDiff, Nat.reduceBEq, Nat.reduceBNe, Int.reduceAdd, Int.reduceSub, Int.reduceMul, Int.reducePow, Int.reduceLE, Int.reduceLT, Int.reduceEq, Int.reduceToNat, Int.reduceNeg, reduceCtorEq, Nat.add_zero, Nat.zero_add, beq_self_eq_true, Try.f95, hd, d0, d2, List.reverse_cons, List.length_map, List.length_append, List.length_reverse, wrap_pred (show r.length < 2 ^ 63 by omega), split_call (n := many) (by omega) (by omega), sl35_to _ _ _ (show r.length ≤ (r.reverse ++ [h]).length by simp), ht, hrec, e0, hg, hn, unwind, modeEx, resultsOf, one, growR, hm, hp]
      · have d2 : decide ((first : Int) ≤ (splitS many : Int)) = false := by simp only [decide_eq_false_iff_not]; omega
        have hrec := fun cl ro H nx => ih hu' hl' (first - splitS many) (many - splitS many) false cl 1 (by omega) (by omega) (by omega) (.inr rfl) ro H nx
        have hn := fun ro H nx => node_call1 hh (growR_range ho r (first - splitS many) (many - splitS many) false hu').1 ro H nx
        have hn2 := fun ro H nx => node_call1 hh (growR_range ho r (first - splitS many) (many - splitS many) false hu').2 ro H nx
        simp only [go_sem, Nat.reduceAdd, Nat.reduceSub, Nat.reduceMul, Nat.reduceDiv, Nat.reduceMod, Nat.reducePow, Nat.reduceLeDiff, Nat.reduceLT, Nat.reduceEqDiff, Nat.reduceBEq, Nat.reduceBNe, Int.reduceAdd, Int.reduceSub, Int.reduceMul, Int.reducePow, Int.reduceLE, Int.reduceLT, Int.reduceEq, Int.reduceToNat, Int.reduceNeg, reduceCtorEq, Nat.add_zero, Nat.zero_add, beq_self_eq_true, Try.f95, hd, d0, d2, List.reverse_cons, List.length_map, List.length_append, List.length_reverse, wrap_pred (show r.length < 2 ^ 63 by omega), wrap_sub (show splitS many ≤ many by omega) (by omega), wrap_sub (show splitS many ≤ first by omega) (by omega), split_call (n := many) (by omega) (by omega), sl35_to _ _ _ (show r.length ≤ (r.reverse ++ [h]).length by simp), ht, hrec, e0, hg, hn, hn2, unwind, modeEx, resultsOf, one, growR, hm, hp]

theorem grows_call (old : Int) (ho : 0 ≤ old ∧ old ≤ 18446744073709551615) : ∀ (r : List Int), u64s r → r.length < 2 ^ 63 → ∀ (first many : Nat) (whole : Bool) (cl : Bool) (sz : Nat), 1 ≤ first → many ≤ 512 → first ≤ many → (r = [] ∨ sz = 1) → ∀ ro H nx,
    callT env 96 [.int .u64 old, .int .i64 first, .int .i64 many, .bool whole, .lit cl sz (r.reverse.map (.int .u64))] ro H nx = some (.ret (.tuple [.int .u64 (growR old r first many whole).1, .int .u64 (growR old r first many whole).2.1, .bool (growR old r first many whole).2.2]), .ups []) := by
  intro r
  induction r with
  | nil =>
    intro _ _ first many whole cl sz h1 h2 h3 _ ro H nx
    refine call_pure (H' := []) rfl rfl rfl rfl ?_ rfl ro H nx
    rw [run_unfold fn96 rfl]
    have w0 : decide (((0 : Nat) : Int) = 0) = true := by decide
    have w2 : decide (((0 : Nat) : Int) = 1) = false := by decide
    cases hd : decide ((first : Int) = (many : Int)) with
    | true =>
      have hm : first = many := by simp only [decide_eq_true_eq] at hd; omega
      cases whole with
      | true => simp only [go_sem, Nat.reduceAdd, Nat.reduceSub, Nat.reduceMul, Nat.reduceDiv, Nat.reduceMod, Nat.reducePow, Nat.reduceLeDiff, Nat.reduceLT, Nat.reduceEqDiff, Nat.reduceBEq, Nat.reduceBNe, Int.reduceAdd, Int.reduceSub, Int.reduceMul, Int.reducePow, Int.reduceLE, Int.reduceLT, Int.reduceEq, Int.reduceToNat, Int.reduceNeg, reduceCtorEq, Nat.add_zero, Nat.zero_add, beq_self_eq_true, Try.f96, hd, w0, w2, List.reverse_nil, unwind, modeEx, resultsOf, one, growR, hm]
      | false => simp only [go_sem, Nat.reduceAdd, Nat.reduceSub, Nat.reduceMul, Nat.reduceDiv, Nat.reduceMod, Nat.reducePow, Nat.reduceLeDiff, Nat.reduceLT, Nat.reduceEqDiff, Nat.reduceBEq, Nat.reduceBNe, Int.reduceAdd, Int.reduceSub, Int.reduceMul, Int.reducePow, Int.reduceLE, Int.reduceLT, Int.reduceEq, Int.reduceToNat, Int.reduceNeg, reduceCtorEq, Nat.add_zero, Nat.zero_add, beq_self_eq_true, Try.f96, hd, w0, w2, List.reverse_nil, unwind, modeEx, resultsOf, one, growR, hm]
    | false =>
      have hm : ¬ first = many := by simp only [decide_eq_false_iff_not] at hd; omega
      simp only [go_sem, Nat.reduceAdd, Nat.reduceSub, Nat.reduceMul, Nat.reduceDiv, Nat.reduceMod, Nat.reducePow, Nat.reduceLeDiff, Nat.reduceLT, Nat.reduceEqDiff, Nat.reduceBEq, Nat.reduceBNe, Int.reduceAdd, Int.reduceSub, Int.reduceMul, Int.reducePow, Int.reduceLE, Int.reduceLT, Int.reduceEq, Int.reduceToNat, Int.reduceNeg, reduceCtorEq, Nat.add_zero, Nat.zero_add, beq_self_eq_true, Try.f96, hd, w0, w2, List.reverse_nil, unwind, modeEx, resultsOf, one, growR, hm]
  | cons h r ih =>
    intro hu hl first many whole cl sz h1 h2 h3 hsz ro H nx
    obtain rfl : sz = 1 := by rcases hsz with h | h; · cases h
                              · exact h
    have hh := hu h (by simp)
    have hu' : u64s r := fun x hx => hu x (by simp [hx])
    have hl' : r.length < 2 ^ 63 := by simp only [List.length_cons] at hl; omega
    refine call_pure (H' := []) rfl rfl rfl (by simp [underL, AVal.under]) ?_ rfl ro H nx
    rw [run_unfold fn96 rfl]
    have d0 : decide (((r.length + 1 : Nat) : Int) = 0) = false := by simp only [decide_eq_false_iff_not]; omega
    have e0 : (0 : Int) ≤ (r.length : Int) := by omega
    have hg : ((r.reverse ++ [h]).map (AVal.int .u64))[((r.length : Nat) : Int).toNat]? = some (.int .u64 h) := get_map (by simp)
    have ht : (r.reverse ++ [h]).take r.length = r.reverse := by
      rw [show r.length = r.reverse.length from by simp]; exact List.take_left' rfl
    by_cases hm : first = many
    · have hd : decide ((first : Int) = (many : Int)) = true := by simp only [decide_eq_true_eq]; omega
      cases whole with
      | true => simp only [go_sem, Nat.reduceAdd, Nat.reduceSub, Nat.reduceMul, Nat.reduceDiv, Nat.reduceMod, Nat.reducePow, Nat.reduceLeDiff, Nat.reduceLT, Nat.reduceEqDiff, Nat.reduceBEq, Nat.reduceBNe, Int.reduceAdd, Int.reduceSub, Int.reduceMul, Int.reducePow, Int.reduceLE, Int.reduceLT, Int.reduceEq, Int.reduceToNat, Int.reduceNeg, reduceCtorEq, Nat.add_zero, Nat.zero_add, beq_self_eq_true, Try.f96, hd, d0, List.reverse_cons, List.length_append, List.length_map, List.length_reverse, wrap_pred (show r.length < 2 ^ 63 by omega), unwind, modeEx, resultsOf, one, growR, hm]
      | false =>
        cases hz : decide (((r.length + 1 : Nat) : Int) = 1) with
        | true =>
          have hr0 : r.length = 0 := by simp only [decide_eq_true_eq] at hz; omega
          obtain rfl : r = [] := List.eq_nil_of_length_eq_zero hr0
          have w1 : decide (((0 + 1 : Nat) : Int) = 1) = true := by decide
          have h00 : (0 : Int) ≤ 0 := by omega
          simp only [go_sem, Nat.reduceAdd, Nat.reduceSub, Nat.reduceMul, Nat.reduceDiv, Nat.reduceMod, Nat.reducePow, Nat.reduceLeDiff, Nat.reduceLT, Nat.reduceEqDiff, Nat.reduceBEq, Nat.reduceBNe, Int.reduceAdd, Int.reduceSub, Int.reduceMul, Int.reducePow, Int.reduceLE, Int.reduceLT, Int.reduceEq, Int.reduceToNat, Int.reduceNeg, reduceCtorEq, Nat.add_zero, Nat.zero_add, beq_self_eq_true, Try.f96, hd, hz, w1, h00, List.reverse_cons, List.reverse_nil, List.nil_append, List.length_map, unwind, modeEx, resultsOf, one, growR, hm]
        | false =>
          have hr0 : ¬ r.length = 0 := by simp only [decide_eq_false_iff_not] at hz; omega
          simp only [go_sem, Nat.reduceAdd, Nat.reduceSub, Nat.reduceMul, Nat.reduceDiv, Nat.reduceMod, Nat.reducePow, Nat.reduceLeDiff, Nat.reduceLT, Nat.reduceEqDiff, Nat.reduceBEq, Nat.reduceBNe, Int.reduceAdd, Int.reduceSub, Int.reduceMul, Int.reducePow, Int.reduceLE, Int.reduceLT, Int.reduceEq, Int.reduceToNat, Int.reduceNeg, reduceCtorEq, Nat.add_zero, Nat.zero_add, beq_self_eq_true, Try.f96, hd, d0, hz, List.reverse_cons, List.length_append, List.length_map, List.length_reverse, wrap_pred (show r.length < 2 ^ 63 by omega), unwind, modeEx, resultsOf, one, growR, hm, hr0]
    · have hd : decide ((first : Int) = (many : Int)) = false := by simp only [decide_eq_false_iff_not]; omega
      have hs := splitS_lt (n := many) (by omega)
      by_cases hp : first ≤ splitS many
      · have d2 : decide ((first : Int) ≤ (splitS many : Int)) = true := by simp only [decide_eq_true_eq]; omega
        have hrec := fun cl ro H nx => ih hu' hl' first (splitS many) whole cl 1 h1 (by omega) hp (.inr rfl) ro H nx
        have hn := fun ro H nx => rnode_call1 (growR_range ho r first (splitS many) whole hu').2 hh ro H nx
        simp only [go_sem, Nat.reduceAdd, Nat.reduceSub, Nat.reduceMul, Nat.reduceDiv, Nat.reduceMod, Nat.reducePow, Nat.reduceLeDiff, Nat.reduceLT, Nat.reduceEqDiff, Nat.reduceBEq, Nat.reduceBNe, Int.reduceAdd, Int.reduceSub, Int.reduceMul, Int.reducePow, Int.reduceLE, Int.reduceLT, Int.reduceEq, Int.reduceToNat, Int.reduceNeg, reduceCtorEq, Nat.add_zero, Nat.zero_add, beq_self_eq_true, Try.f96, hd, d0, d2, List.reverse_cons, List.length_map, List.length_append, List.length_reverse, wrap_pred (show r.length < 2 ^ 63 by omega), rsplit_call (n := many) (by omega) (by omega), sl35_to3 _ _ _ (show r.length ≤ (r.reverse ++ [h]).length by simp), ht, hrec, e0, hg, hn, unwind, modeEx, resultsOf, one, growR, hm, hp]
      · have d2 : decide ((first : Int) ≤ (splitS many : Int)) = false := by simp only [decide_eq_false_iff_not]; omega
        have hrec := fun cl ro H nx => ih hu' hl' (first - splitS many) (many - splitS many) false cl 1 (by omega) (by omega) (by omega) (.inr rfl) ro H nx
        have hn := fun ro H nx => rnode_call1 hh (growR_range ho r (first - splitS many) (many - splitS many) false hu').1 ro H nx
        have hn2 := fun ro H nx => rnode_call1 hh (growR_range ho r (first - splitS many) (many - splitS many) false hu').2 ro H nx
        simp only [go_sem, Nat.reduceAdd, Nat.reduceSub, Nat.reduceMul, Nat.reduceDiv, Nat.reduceMod, Nat.reducePow, Nat.reduceLeDiff, Nat.reduceLT, Nat.reduceEqDiff, Nat.reduceBEq, Nat.reduceBNe, Int.reduceAdd, Int.reduceSub, Int.reduceMul, Int.reducePow, Int.reduceLE, Int.reduceLT, Int.reduceEq, Int.reduceToNat, Int.reduceNeg, reduceCtorEq, Nat.add_zero, Nat.zero_add, beq_self_eq_true, Try.f96, hd, d0, d2, List.reverse_cons, List.length_map, List.length_append, List.length_reverse, wrap_pred (show r.length < 2 ^ 63 by omega), wrap_sub (show splitS many ≤ many by omega) (by omega), wrap_sub (show splitS many ≤ first by omega) (by omega), rsplit_call (n := many) (by omega) (by omega), sl35_to3 _ _ _ (show r.length ≤ (r.reverse ++ [h]).length by simp), ht, hrec, e0, hg, hn, hn2, unwind, modeEx, resultsOf, one, growR, hm, hp]

/-- what CheckGrown tells -/
def chkGrownS (old first root many : Int) (p : List Int) : Int :=
  if decide (many < 1) || decide (512 < many) || decide (first < 1) || decide (many < first) then 1 else
    if (growR old p.reverse first.toNat many.toNat true).2.2 && decide ((growR old p.reverse first.toNat many.toNat true).1 = old) && decide ((growR old p.reverse first.toNat many.toNat true).2.1 = root) then 0 else 94

theorem CheckGrown_call (old first root many : Int) (cl : Bool) (sz : Nat) (p : List Int) (ho : 0 ≤ old ∧ old ≤ 18446744073709551615) (hp : u64s p) (hlen : p.length < 2 ^ 63) (hsz : p = [] ∨ sz = 1) (ro : Nat) (H : Heap) (nx : Nat) :
    callT env 31 [.int .u64 old, .int .i64 first, .int .u64 root, .int .i64 many, .lit cl sz (p.map (.int .u64))] ro H nx = some (.ret (.int .i64 (chkGrownS old first root many p)), .ups []) := by
  have : ∃ H', runT env 31 [.int .u64 old, .int .i64 first, .int .u64 root, .int .i64 many, .lit cl sz (p.map (.int .u64))] [] 0 = some (.ret (.int .i64 (chkGrownS old first root many p)), H') := by
    rw [run_unfold fn31 rfl]
    unfold chkGrownS
    cases h1 : decide (many < 1) with
    | true => simp only [go_sem, Nat.reduceAdd, Nat.reduceSub, Nat.reduceMul, Nat.reduceDiv, Nat.reduceMod, Nat.reducePow, Nat.reduceLeDiff, Nat.reduceLT, Nat.reduceEqDiff, Nat.reduceBEq, Nat.reduceBNe, Int.reduceAdd, Int.reduceSub, Int.reduceMul, Int.reducePow, Int.reduceLE, Int.reduceLT, Int.reduceEq, Int.reduceToNat, Int.reduceNeg, reduceCtorEq, Nat.add_zero, Nat.zero_add, beq_self_eq_true, Try.f31, h1, unwind, modeEx, resultsOf, one]; exact ⟨_, rfl⟩
    | false =>
      cases h2 : decide (512 < many) with
      | true => simp only [go_sem, Nat.reduceAdd, Nat.reduceSub, Nat.reduceMul, Nat.reduceDiv, Nat.reduceMod, Nat.reducePow, Nat.reduceLeDiff, Nat.reduceLT, Nat.reduceEqDiff, Nat.reduceBEq, Nat.reduceBNe, Int.reduceAdd, Int.reduceSub, Int.reduceMul, Int.reducePow, Int.reduceLE, Int.reduceLT, Int.reduceEq, Int.reduceToNat, Int.reduceNeg, reduceCtorEq, Nat.add_zero, Nat.zero_add, beq_self_eq_true, Try.f31, h1, h2, unwind, modeEx, resultsOf, one]; exact ⟨_, rfl⟩
      | false =>
        cases h3 : decide (first < 1) with
        | true => simp only [go_sem, Nat.reduceAdd, Nat.reduceSub, Nat.reduceMul, Nat.reduceDiv, Nat.reduceMod, Nat.reducePow, Nat.reduceLeDiff, Nat.reduceLT, Nat.reduceEqDiff, Nat.reduceBEq, Nat.reduceBNe, Int.reduceAdd, Int.reduceSub, Int.reduceMul, Int.reducePow, Int.reduceLE, Int.reduceLT, Int.reduceEq, Int.reduceToNat, Int.reduceNeg, reduceCtorEq, Nat.add_zero, Nat.zero_add, beq_self_eq_true, Try.f31, h1, h2, h3, unwind, modeEx, resultsOf, one]; exact ⟨_, rfl⟩
        | false =>
          cases h4 : decide (many < first) with
          | true => simp only [go_sem, Nat.reduceAdd, Nat.reduceSub, Nat.reduceMul, Nat.reduceDiv, Nat.reduceMod, Nat.reducePow, Nat.reduceLeDiff, Nat.reduceLT, Nat.reduceEqDiff, Nat.reduceBEq, Nat.reduceBNe, Int.reduceAdd, Int.reduceSub, Int.reduceMul, Int.reducePow, Int.reduceLE, Int.reduceLT, Int.reduceEq, Int.reduceToNat, Int.reduceNeg, reduceCtorEq, Nat.add_zero, Nat.zero_add, beq_self_eq_true, Try.f31, h1, h2, h3, h4, unwind, modeEx, resultsOf, one]; exact ⟨_, rfl⟩
          | false =>
            simp only [decide_eq_false_iff_not] at h1 h2 h3 h4
            obtain ⟨m, rfl⟩ : ∃ m : Nat, many = m := ⟨many.toNat, by omega⟩
            obtain ⟨q, rfl⟩ : ∃ q : Nat, first = q := ⟨first.toNat, by omega⟩
            have hc := grow_call old ho p.reverse (fun x hx => hp x (by simpa using hx)) (by simpa using hlen) q m true cl sz (by omega) (by omega) (by omega) (by simpa using hsz)
            rw [List.reverse_reverse] at hc
            have d1 : decide ((m : Int) < 1) = false := by simpa using h1
            have d2 : decide (512 < (m : Int)) = false := by simpa using h2
            have d3 : decide ((q : Int) < 1) = false := by simpa using h3
            have d4 : decide ((m : Int) < (q : Int)) = false := by simpa using h4
            simp only [Int.toNat_natCast]
            obtain ⟨x, y, ok, hq⟩ : ∃ x y ok, growR old p.reverse q m true = (x, y, ok) := ⟨_, _, _, rfl⟩
            simp only [hq] at hc ⊢
            cases ok with
            | false =>
              simp only [go_sem, Nat.reduceAdd, Nat.reduceSub, Nat.reduceMul, Nat.reduceDiv, Nat.reduceMod, Nat.reducePow, Nat.reduceLeDiff, Nat.reduceLT, Nat.reduceEqDiff, Nat.reduceBEq, Nat.reduceBNe, Int.reduceAdd, Int.reduceSub, Int.reduceMul, Int.reducePow, Int.reduceLE, Int.reduceLT, Int.reduceEq, Int.reduceToNat, Int.reduceNeg, reduceCtorEq, Nat.add_zero, Nat.zero_add, beq_self_eq_true, Try.f31, d1, d2, d3, d4, hc, unwind, modeEx, resultsOf, one]
              exact ⟨_, rfl⟩
            | true =>
              cases h5 : decide (x = old) with
              | false => simp only [go_sem, Nat.reduceAdd, Nat.reduceSub, Nat.reduceMul, Nat.reduceDiv, Nat.reduceMod, Nat.reducePow, Nat.reduceLeDiff, Nat.reduceLT, Nat.reduceEqDiff, Nat.reduceBEq, Nat.reduceBNe, Int.reduceAdd, Int.reduceSub, Int.reduceMul, Int.reducePow, Int.reduceLE, Int.reduceLT, Int.reduceEq, Int.reduceToNat, Int.reduceNeg, reduceCtorEq, Nat.add_zero, Nat.zero_add, beq_self_eq_true, Try.f31, d1, d2, d3, d4, h5, hc, unwind, modeEx, resultsOf, one]; exact ⟨_, rfl⟩
              | true =>
                cases h6 : decide (y = root) with
                | false => simp only [go_sem, Nat.reduceAdd, Nat.reduceSub, Nat.reduceMul, Nat.reduceDiv, Nat.reduceMod, Nat.reducePow, Nat.reduceLeDiff, Nat.reduceLT, Nat.reduceEqDiff, Nat.reduceBEq, Nat.reduceBNe, Int.reduceAdd, Int.reduceSub, Int.reduceMul, Int.reducePow, Int.reduceLE, Int.reduceLT, Int.reduceEq, Int.reduceToNat, Int.reduceNeg, reduceCtorEq, Nat.add_zero, Nat.zero_add, beq_self_eq_true, Try.f31, d1, d2, d3, d4, h5, h6, hc, unwind, modeEx, resultsOf, one]; exact ⟨_, rfl⟩
                | true => simp only [go_sem, Nat.reduceAdd, Nat.reduceSub, Nat.reduceMul, Nat.reduceDiv, Nat.reduceMod, Nat.reducePow, Nat.reduceLeDiff, Nat.reduceLT, Nat.reduceEqDiff, Nat.reduceBEq, Nat.reduceBNe, Int.reduceAdd, Int.reduceSub, Int.reduceMul, Int.reducePow, Int.reduceLE, Int.reduceLT, Int.reduceEq, Int.reduceToNat, Int.reduceNeg, reduceCtorEq, Nat.add_zero, Nat.zero_add, beq_self_eq_true, Try.f31, d1, d2, d3, d4, h5, h6, hc, unwind, modeEx, resultsOf, one]; exact ⟨_, rfl⟩
  obtain ⟨H', h⟩ := this
  exact call_pure rfl rfl rfl (by simp [underL, AVal.under]) h rfl ro H nx

theorem rCheckGrown_call (old first root many : Int) (cl : Bool) (sz : Nat) (p : List Int) (ho : 0 ≤ old ∧ old ≤ 18446744073709551615) (hp : u64s p) (hlen : p.length < 2 ^ 63) (hsz : p = [] ∨ sz = 1) (ro : Nat) (H : Heap) (nx : Nat) :
    callT env 32 [.int .u64 old, .int .i64 first, .int .u64 root, .int .i64 many, .lit cl sz (p.map (.int .u64))] ro H nx = some (.ret (.int .i64 (chkGrownS old first root many p)), .ups []) := by
  have : ∃ H', runT env 32 [.int .u64 old, .int .i64 first, .int .u64 root, .int .i64 many, .lit cl sz (p.map (.int .u64))] [] 0 = some (.ret (.int .i64 (chkGrownS old first root many p)), H') := by
    rw [run_unfold fn32 rfl]
    unfold chkGrownS
    cases h1 : decide (many < 1) with
    | true => simp only [go_sem, Nat.reduceAdd, Nat.reduceSub, Nat.reduceMul, Nat.reduceDiv, Nat.reduceMod, Nat.reducePow, Nat.reduceLeDiff, Nat.reduceLT, Nat.reduceEqDiff, Nat.reduceBEq, Nat.reduceBNe, Int.reduceAdd, Int.reduceSub, Int.reduceMul, Int.reducePow, Int.reduceLE, Int.reduceLT, Int.reduceEq, Int.reduceToNat, Int.reduceNeg, reduceCtorEq, Nat.add_zero, Nat.zero_add, beq_self_eq_true, Try.f32, h1, unwind, modeEx, resultsOf, one]; exact ⟨_, rfl⟩
    | false =>
      cases h2 : decide (512 < many) with
      | true => simp only [go_sem, Nat.reduceAdd, Nat.reduceSub, Nat.reduceMul, Nat.reduceDiv, Nat.reduceMod, Nat.reducePow, Nat.reduceLeDiff, Nat.reduceLT, Nat.reduceEqDiff, Nat.reduceBEq, Nat.reduceBNe, Int.reduceAdd, Int.reduceSub, Int.reduceMul, Int.reducePow, Int.reduceLE, Int.reduceLT, Int.reduceEq, Int.reduceToNat, Int.reduceNeg, reduceCtorEq, Nat.add_zero, Nat.zero_add, beq_self_eq_true, Try.f32, h1, h2, unwind, modeEx, resultsOf, one]; exact ⟨_, rfl⟩
      | false =>
        cases h3 : decide (first < 1) with
        | true => simp only [go_sem, Nat.reduceAdd, Nat.reduceSub, Nat.reduceMul, Nat.reduceDiv, Nat.reduceMod, Nat.reducePow, Nat.reduceLeDiff, Nat.reduceLT, Nat.reduceEqDiff, Nat.reduceBEq, Nat.reduceBNe, Int.reduceAdd, Int.reduceSub, Int.reduceMul, Int.reducePow, Int.reduceLE, Int.reduceLT, Int.reduceEq, Int.reduceToNat, Int.reduceNeg, reduceCtorEq, Nat.add_zero, Nat.zero_add, beq_self_eq_true, Try.f32, h1, h2, h3, unwind, modeEx, resultsOf, one]; exact ⟨_, rfl⟩
        | false =>
          cases h4 : decide (many < first) with
          | true => simp only [go_sem, Nat.reduceAdd, Nat.reduceSub, Nat.reduceMul, Nat.reduceDiv, Nat.reduceMod, Nat.reducePow, Nat.reduceLeDiff, Nat.reduceLT, Nat.reduceEqDiff, Nat.reduceBEq, Nat.reduceBNe, Int.reduceAdd, Int.reduceSub, Int.reduceMul, Int.reducePow, Int.reduceLE, Int.reduceLT, Int.reduceEq, Int.reduceToNat, Int.reduceNeg, reduceCtorEq, Nat.add_zero, Nat.zero_add, beq_self_eq_true, Try.f32, h1, h2, h3, h4, unwind, modeEx, resultsOf, one]; exact ⟨_, rfl⟩
          | false =>
            simp only [decide_eq_false_iff_not] at h1 h2 h3 h4
            obtain ⟨m, rfl⟩ : ∃ m : Nat, many = m := ⟨many.toNat, by omega⟩
            obtain ⟨q, rfl⟩ : ∃ q : Nat, first = q := ⟨first.toNat, by omega⟩
            have hc := grows_call old ho p.reverse (fun x hx => hp x (by simpa using hx)) (by simpa using hlen) q m true cl sz (by omega) (by omega) (by omega) (by simpa using hsz)
            rw [List.reverse_reverse] at hc
            have d1 : decide ((m : Int) < 1) = false := by simpa using h1
            have d2 : decide (512 < (m : Int)) = false := by simpa using h2
            have d3 : decide ((q : Int) < 1) = false := by simpa using h3
            have d4 : decide ((m : Int) < (q : Int)) = false := by simpa using h4
            simp only [Int.toNat_natCast]
            obtain ⟨x, y, ok, hq⟩ : ∃ x y ok, growR old p.reverse q m true = (x, y, ok) := ⟨_, _, _, rfl⟩
            simp only [hq] at hc ⊢
            cases ok with
            | false =>
              simp only [go_sem, Nat.reduceAdd, Nat.reduceSub, Nat.reduceMul, Nat.reduceDiv, Nat.reduceMod, Nat.reducePow, Nat.reduceLeDiff, Nat.reduceLT, Nat.reduceEqDiff, Nat.reduceBEq, Nat.reduceBNe, Int.reduceAdd, Int.reduceSub, Int.reduceMul, Int.reducePow, Int.reduceLE, Int.reduceLT, Int.reduceEq, Int.reduceToNat, Int.reduceNeg, reduceCtorEq, Nat.add_zero, Nat.zero_add, beq_self_eq_true, Try.f32, d1, d2, d3, d4, hc, unwind, modeEx, resultsOf, one]
              exact ⟨_, rfl⟩
            | true =>
              cases h5 : decide (x = old) with
              | false => simp only [go_sem, Nat.reduceAdd, Nat.reduceSub, Nat.reduceMul, Nat.reduceDiv, Nat.reduceMod, Nat.reducePow, Nat.reduceLeDiff, Nat.reduceLT, Nat.reduceEqDiff, Nat.reduceBEq, Nat.reduceBNe, Int.reduceAdd, Int.reduceSub, Int.reduceMul, Int.reducePow, Int.reduceLE, Int.reduceLT, Int.reduceEq, Int.reduceToNat, Int.reduceNeg, reduceCtorEq, Nat.add_zero, Nat.zero_add, beq_self_eq_true, Try.f32, d1, d2, d3, d4, h5, hc, unwind, modeEx, resultsOf, one]; exact ⟨_, rfl⟩
              | true =>
                cases h6 : decide (y = root) with
                | false => simp only [go_sem, Nat.reduceAdd, Nat.reduceSub, Nat.reduceMul, Nat.reduceDiv, Nat.reduceMod, Nat.reducePow, Nat.reduceLeDiff, Nat.reduceLT, Nat.reduceEqDiff, Nat.reduceBEq, Nat.reduceBNe, Int.reduceAdd, Int.reduceSub, Int.reduceMul, Int.reducePow, Int.reduceLE, Int.reduceLT, Int.reduceEq, Int.reduceToNat, Int.reduceNeg, reduceCtorEq, Nat.add_zero, Nat.zero_add, beq_self_eq_true, Try.f32, d1, d2, d3, d4, h5, h6, hc, unwind, modeEx, resultsOf, one]; exact ⟨_, rfl⟩
                | true => simp only [go_sem, Nat.reduceAdd, Nat.reduceSub, Nat.reduceMul, Nat.reduceDiv, Nat.reduceMod, Nat.reducePow, Nat.reduceLeDiff, Nat.reduceLT, Nat.reduceEqDiff, Nat.reduceBEq, Nat.reduceBNe, Int.reduceAdd, Int.reduceSub, Int.reduceMul, Int.reducePow, Int.reduceLE, Int.reduceLT, Int.reduceEq, Int.reduceToNat, Int.reduceNeg, reduceCtorEq, Nat.add_zero, Nat.zero_add, beq_self_eq_true, Try.f32, d1, d2, d3, d4, h5, h6, hc, unwind, modeEx, resultsOf, one]; exact ⟨_, rfl⟩
  obtain ⟨H', h⟩ := this
  exact call_pure rfl rfl rfl (by simp [underL, AVal.under]) h rfl ro H nx

end Go.Proofs.Ytamcncpgfhfheaa.Tidy

/-
  The law of short paths, run.
-/
namespace Go.Proofs.Ytamcncpgfhfheaa.Tidy
open Go Go.IntWalk
set_option maxRecDepth 10000
set_option linter.unusedSimpArgs false

/-- how many binary digits a number has -/
def digs (n : Nat) : Nat := if n = 0 then 0 else Nat.log2 n + 1

theorem digs_half {n : Nat} (h : 0 < n) : digs n = digs (n / 2) + 1 := by
  unfold digs
  rw [if_neg (by omega)]
  by_cases h1 : n / 2 = 0
  · rw [if_pos h1]
    have : n = 1 := by omega
    subst this; decide
  · rw [if_neg h1, Nat.log2_def n, if_pos (by omega)]

theorem digs_split {n m : Nat} (h : 2 ≤ n) (hm : m ≤ splitS n) : digs (m - 1) + 1 ≤ digs (n - 1) := by
  unfold digs
  rw [if_neg (show ¬ n - 1 = 0 by omega)]
  split
  · omega
  · rename_i h1
    have : Nat.log2 (m - 1) < Nat.log2 (n - 1) := (Nat.log2_lt (by omega)).2 (by unfold splitS at hm; omega)
    omega

theorem split_half {n : Nat} (h : 2 ≤ n) : n - splitS n ≤ splitS n := by
  unfold splitS
  have := Nat.lt_log2_self (n := n - 1)
  rw [Nat.pow_succ] at this
  omega

theorem digs_le : ∀ (m n : Nat), n < 2 ^ m → digs n ≤ m
  | m, n, h => by
    unfold digs
    split
    · omega
    · rename_i h1
      have := (Nat.log2_lt h1).2 h
      omega

theorem pathR_short (rt : List Entry → Int) : ∀ (n : Nat) (l : List Entry) (pos : Nat), l.length ≤ n → (pathR rt l pos).length ≤ digs (l.length - 1)
  | 0, l, pos, h => by rw [pathR_one (by omega)]; simp
  | n + 1, l, pos, h => by
    by_cases h1 : l.length ≤ 1
    · rw [pathR_one h1]; simp
    · have hs := splitS_lt (n := l.length) (by omega)
      by_cases hp : pos < splitS l.length
      · rw [pathR_left (by omega) hp]
        have h3 := pathR_short rt n (l.take (splitS l.length)) pos (by rw [List.length_take]; omega)
        have h4 := digs_split (n := l.length) (m := splitS l.length) (by omega) (Nat.le_refl _)
        rw [List.length_take, Nat.min_eq_left (by omega)] at h3
        simp only [List.length_cons]; omega
      · rw [pathR_right (by omega) hp]
        have h3 := pathR_short rt n (l.drop (splitS l.length)) (pos - splitS l.length) (by rw [List.length_drop]; omega)
        have h4 := digs_split (n := l.length) (m := l.length - splitS l.length) (by omega) (split_half (by omega))
        rw [List.length_drop] at h3
        simp only [List.length_cons]; omega

theorem grownR_short (rt : List Entry → Int) : ∀ (n : Nat) (l : List Entry) (first : Nat) (whole : Bool), l.length ≤ n → (grownR rt l first whole).length ≤ digs (l.length - 1) + 1
  | n, l, first, whole, h => by
    by_cases h0 : first = l.length
    · rw [grownR_all h0]; cases whole <;> simp
    · by_cases h1 : l.length ≤ 1
      · rw [grownR, if_neg h0, dif_pos h1]; simp
      · obtain ⟨m, rfl⟩ : ∃ m, n = m + 1 := ⟨n - 1, by omega⟩
        have hs := splitS_lt (n := l.length) (by omega)
        by_cases hp : first ≤ splitS l.length
        · rw [grownR_left h0 (by omega) hp]
          have h3 := grownR_short rt m (l.take (splitS l.length)) first whole (by rw [List.length_take]; omega)
          have h4 := digs_split (n := l.length) (m := splitS l.length) (by omega) (Nat.le_refl _)
          rw [List.length_take, Nat.min_eq_left (by omega)] at h3
          simp only [List.length_cons]; omega
        · rw [grownR_right h0 (by omega) hp]
          have h3 := grownR_short rt m (l.drop (splitS l.length)) (first - splitS l.length) false (by rw [List.length_drop]; omega)
          have h4 := digs_split (n := l.length) (m := l.length - splitS l.length) (by omega) (split_half (by omega))
          rw [List.length_drop] at h3
          simp only [List.length_cons]; omega

theorem tdiv_two (n : Nat) (h : n < 2 ^ 62) : IntKind.i64.wrap ((n : Int).tdiv 2) = ((n / 2 : Nat) : Int) := by
  rw [Int.tdiv_eq_ediv_of_nonneg (by omega), i64_in _ (by omega)]
  omega

theorem digits_loop (v0 v1 v2 : AVal) (H : Heap) (ro : Nat) : ∀ (m n d : Nat) (j3 j4 j5 j6 j9 j10 j11 j12 j13 j14 j15 j16 j17 j18 j19 j20 j21 j22 j23 j24 j25 j26 j27 j28 j29 j30 j31 j32 j33 j34 j35 j36 j37 j38 j39 j40 j41 j42 j43 j44 j45 j46 j47 j48 j49 j50 j51 j52 j53 j54 j55 j56 j57 j58 j59 j60 j61 j62 j63 j64 j65 j66 j67 j68 j69 j70 j71 j72 j73 j74 j75 j76 j77 : AVal), n ≤ m → n < 2 ^ 20 → d + m < 2 ^ 62 →
    Goes (execT env (Try.f6.at [1, 1, 1, 1, 0, 1, 0]) ⟨[v0, v1, v2, j3, j4, j5, j6, .int .i64 d, .int .i64 n, j9, j10, j11, j12, j13, j14, j15, j16, j17, j18, j19, j20, j21, j22, j23, j24, j25, j26, j27, j28, j29, j30, j31, j32, j33, j34, j35, j36, j37, j38, j39, j40, j41, j42, j43, j44, j45, j46, j47, j48, j49, j50, j51, j52, j53, j54, j55, j56, j57, j58, j59, j60, j61, j62, j63, j64, j65, j66, j67, j68, j69, j70, j71, j72, j73, j74, j75, j76, j77], H, [], ro, []⟩) fun e s => e = .exit 0 ∧
      ∃ j3 j4 j5 j6 j8 j9 j10 j11 j12 j13 j14 j15 j16 j17 j18 j19 j20 j21 j22 j23 j24 j25 j26 j27 j28 j29 j30 j31 j32 j33 j34 j35 j36 j37 j38 j39 j40 j41 j42 j43 j44 j45 j46 j47 j48 j49 j50 j51 j52 j53 j54 j55 j56 j57 j58 j59 j60 j61 j62 j63 j64 j65 j66 j67 j68 j69 j70 j71 j72 j73 j74 j75 j76 j77, s = ⟨[v0, v1, v2, j3, j4, j5, j6, .int .i64 ((d + digs n : Nat) : Int), j8, j9, j10, j11, j12, j13, j14, j15, j16, j17, j18, j19, j20, j21, j22, j23, j24, j25, j26, j27, j28, j29, j30, j31, j32, j33, j34, j35, j36, j37, j38, j39, j40, j41, j42, j43, j44, j45, j46, j47, j48, j49, j50, j51, j52, j53, j54, j55, j56, j57, j58, j59, j60, j61, j62, j63, j64, j65, j66, j67, j68, j69, j70, j71, j72, j73, j74, j75, j76, j77], H, [], ro, []⟩ := by
  intro m
  induction m with
  | zero =>
    intro n d j3 j4 j5 j6 j9 j10 j11 j12 j13 j14 j15 j16 j17 j18 j19 j20 j21 j22 j23 j24 j25 j26 j27 j28 j29 j30 j31 j32 j33 j34 j35 j36 j37 j38 j39 j40 j41 j42 j43 j44 j45 j46 j47 j48 j49 j50 j51 j52 j53 j54 j55 j56 j57 j58 j59 j60 j61 j62 j63 j64 j65 j66 j67 j68 j69 j70 j71 j72 j73 j74 j75 j76 j77 hn _ _
    obtain rfl : n = 0 := by omega
    have hd : decide ((0 : Int) < ((0 : Nat) : Int)) = false := by decide
    have h0 : digs 0 = 0 := by decide
    simp only [go_sem, Nat.reduceAdd, Nat.reduceSub, Nat.reduceMul, Nat.reduceDiv, Nat.reduceMod, Nat.reducePow, Nat.reduceLeDiff, Nat.reduceLT, Nat.reduceEqDiff, Nat.reduceBEq, Nat.reduceBNe, Int.reduceAdd, Int.reduceSub, Int.reduceMul, Int.reducePow, Int.reduceLE, Int.reduceLT, Int.reduceEq, Int.reduceToNat, Int.reduceNeg, reduceCtorEq, Nat.add_zero, Nat.zero_add, beq_self_eq_true, Try.f6]
    rw [execT_loop]
    simp only [go_sem, Nat.reduceAdd, Nat.reduceSub, Nat.reduceMul, Nat.reduceDiv, Nat.reduceMod, Nat.reducePow, Nat.reduceLeDiff, Nat.reduceLT, Nat.reduceEqDiff, Nat.reduceBEq, Nat.reduceBNe, Int.reduceAdd, Int.reduceSub, Int.reduceMul, Int.reducePow, Int.reduceLE, Int.reduceLT, Int.reduceEq, Int.reduceToNat, Int.reduceNeg, reduceCtorEq, Nat.add_zero, Nat.zero_add, beq_self_eq_true, hd, h0]
    exact ⟨_, _, _, _, _, _, _, _, _, _, _, _, _, _, _, _, _, _, _, _, _, _, _, _, _, _, _, _, _, _, _, _, _, _, _, _, _, _, _, _, _, _, _, _, _, _, _, _, _, _, _, _, _, _, _, _, _, _, _, _, _, _, _, _, _, _, _, _, _, _, _, _, _, _, rfl⟩
  | succ m ih =>
    intro n d j3 j4 j5 j6 j9 j10 j11 j12 j13 j14 j15 j16 j17 j18 j19 j20 j21 j22 j23 j24 j25 j26 j27 j28 j29 j30 j31 j32 j33 j34 j35 j36 j37 j38 j39 j40 j41 j42 j43 j44 j45 j46 j47 j48 j49 j50 j51 j52 j53 j54 j55 j56 j57 j58 j59 j60 j61 j62 j63 j64 j65 j66 j67 j68 j69 j70 j71 j72 j73 j74 j75 j76 j77 hn hs hdm
    by_cases hz : n = 0
    · subst hz
      have hd : decide ((0 : Int) < ((0 : Nat) : Int)) = false := by decide
      have h0 : digs 0 = 0 := by decide
      simp only [go_sem, Nat.reduceAdd, Nat.reduceSub, Nat.reduceMul, Nat.reduceDiv, Nat.reduceMod, Nat.reducePow, Nat.reduceLeDiff, Nat.reduceLT, Nat.reduceEqDiff, Nat.reduceBEq, Nat.reduceBNe, Int.reduceAdd, Int.reduceSub, Int.reduceMul, Int.reducePow, Int.reduceLE, Int.reduceLT, Int.reduceEq, Int.reduceToNat, Int.reduceNeg, reduceCtorEq, Nat.add_zero, Nat.zero_add, beq_self_eq_true, Try.f6]
      rw [execT_loop]
      simp only [go_sem, Nat.reduceAdd, Nat.reduceSub, Nat.reduceMul, Nat.reduceDiv, Nat.reduceMod, Nat.reducePow, Nat.reduceLeDiff, Nat.reduceLT, Nat.reduceEqDiff, Nat.reduceBEq, Nat.reduceBNe, Int.reduceAdd, Int.reduceSub, Int.reduceMul, Int.reducePow, Int.reduceLE, Int.reduceLT, Int.reduceEq, Int.reduceToNat, Int.reduceNeg, reduceCtorEq, Nat.add_zero, Nat.zero_add, beq_self_eq_true, hd, h0]
      exact ⟨_, _, _, _, _, _, _, _, _, _, _, _, _, _, _, _, _, _, _, _, _, _, _, _, _, _, _, _, _, _, _, _, _, _, _, _, _, _, _, _, _, _, _, _, _, _, _, _, _, _, _, _, _, _, _, _, _, _, _, _, _, _, _, _, _, _, _, _, _, _, _, _, _, _, rfl⟩
    · have hd : decide ((0 : Int) < (n : Int)) = true := by simp only [decide_eq_true_eq]; omega
      have h2 : decide ((2 : Int) = 0) = false := by decide
      have ih' := ih (n / 2) (d + 1)
      have hdg : d + digs n = d + 1 + digs (n / 2) := by rw [digs_half (n := n) (by omega)]; omega
      simp only [go_sem, Nat.reduceAdd, Nat.reduceSub, Nat.reduceMul, Nat.reduceDiv, Nat.reduceMod, Nat.reducePow, Nat.reduceLeDiff, Nat.reduceLT, Nat.reduceEqDiff, Nat.reduceBEq, Nat.reduceBNe, Int.reduceAdd, Int.reduceSub, Int.reduceMul, Int.reducePow, Int.reduceLE, Int.reduceLT, Int.reduceEq, Int.reduceToNat, Int.reduceNeg, reduceCtorEq, Nat.add_zero, Nat.zero_add, beq_self_eq_true, Try.f6] at ih' ⊢
      rw [execT_loop]
      simp only [go_sem, Nat.reduceAdd, Nat.reduceSub, Nat.reduceMul, Nat.reduceDiv, Nat.reduceMod, Nat.reducePow, Nat.reduceLeDiff, Nat.reduceLT, Nat.reduceEqDiff, Nat.reduceBEq, Nat.reduceBNe, Int.reduceAdd, Int.reduceSub, Int.reduceMul, Int.reducePow, Int.reduceLE, Int.reduceLT, Int.reduceEq, Int.reduceToNat, Int.reduceNeg, reduceCtorEq, Nat.add_zero, Nat.zero_add, beq_self_eq_true, hd, wrap_succ (show d < 2 ^ 63 - 1 by omega), tdiv_two n (by omega), hdg]
      exact ih' _ _ _ _ _ _ _ _ _ _ _ _ _ _ _ _ _ _ _ _ _ _ _ _ _ _ _ _ _ _ _ _ _ _ _ _ _ _ _ _ _ _ _ _ _ _ _ _ _ _ _ _ _ _ _ _ _ _ _ _ _ _ _ _ _ _ _ _ _ _ _ _ _ (by omega) (by omega) (by omega)

theorem short_law (a0 a1 a2 : List AVal) (h0 : FitT env 8 24 a0) (h1 : FitT env 8 3 a1) (h2 : FitT env 8 3 a2) :
    ∃ H', runT env 6 [pack ⟨.slice 23, 1, 24, .lit true 0 []⟩ a0, pack ⟨.int .i64, 1, 8, .int .i64 (0)⟩ a1, pack ⟨.int .i64, 1, 8, .int .i64 (0)⟩ a2] [] 0 = some (.ret (.bool true), H') := by
  obtain ⟨cl, l, rfl, hl⟩ := fit_entries h0
  obtain ⟨pos, rfl, _⟩ := fit_int ti3 h1
  obtain ⟨first, rfl, _⟩ := fit_int ti3 h2
  have hlen : l.length < 2 ^ 63 := by unfold maxLen at hl; omega
  show ∃ H', runT env 6 [.lit cl 3 (l.map Entry.enc), .int .i64 pos, .int .i64 first] [] 0 = some (.ret (.bool true), H')
  rw [run_unfold fn6 rfl]
  cases h40 : decide (40 < (l.length : Int)) with
  | true =>
    simp only [go_sem, Nat.reduceAdd, Nat.reduceSub, Nat.reduceMul, Nat.reduceDiv, Nat.reduceMod, Nat.reducePow, Nat.reduceLeDiff, Nat.reduceLT, Nat.reduceEqDiff, Nat.reduceBEq, Nat.reduceBNe, Int.reduceAdd, Int.reduceSub, Int.reduceMul, Int.reducePow, Int.reduceLE, Int.reduceLT, Int.reduceEq, Int.reduceToNat, Int.reduceNeg, reduceCtorEq, Nat.add_zero, Nat.zero_add, beq_self_eq_true, Try.f6, h40, List.length_map, unwind, modeEx, resultsOf, one]
    exact ⟨_, rfl⟩
  | false =>
    cases hf : fewS l with
    | false =>
      simp only [go_sem, Nat.reduceAdd, Nat.reduceSub, Nat.reduceMul, Nat.reduceDiv, Nat.reduceMod, Nat.reducePow, Nat.reduceLeDiff, Nat.reduceLT, Nat.reduceEqDiff, Nat.reduceBEq, Nat.reduceBNe, Int.reduceAdd, Int.reduceSub, Int.reduceMul, Int.reducePow, Int.reduceLE, Int.reduceLT, Int.reduceEq, Int.reduceToNat, Int.reduceNeg, reduceCtorEq, Nat.add_zero, Nat.zero_add, beq_self_eq_true, Try.f6, few_call cl l hlen, h40, hf, List.length_map, unwind, modeEx, resultsOf, one]
      exact ⟨_, rfl⟩
    | true =>
      cases hz : decide ((l.length : Int) = 0) with
      | true =>
        simp only [go_sem, Nat.reduceAdd, Nat.reduceSub, Nat.reduceMul, Nat.reduceDiv, Nat.reduceMod, Nat.reducePow, Nat.reduceLeDiff, Nat.reduceLT, Nat.reduceEqDiff, Nat.reduceBEq, Nat.reduceBNe, Int.reduceAdd, Int.reduceSub, Int.reduceMul, Int.reducePow, Int.reduceLE, Int.reduceLT, Int.reduceEq, Int.reduceToNat, Int.reduceNeg, reduceCtorEq, Nat.add_zero, Nat.zero_add, beq_self_eq_true, Try.f6, few_call cl l hlen, h40, hf, hz, List.length_map, unwind, modeEx, resultsOf, one]
        exact ⟨_, rfl⟩
      | false =>
        have h40' : ¬ (40 < (l.length : Int)) := by simpa using h40
        have hz' : ¬ ((l.length : Int) = 0) := by simpa using hz
        obtain ⟨e, s, hx, rfl, j3, j4, j5, j6, j8, j9, j10, j11, j12, j13, j14, j15, j16, j17, j18, j19, j20, j21, j22, j23, j24, j25, j26, j27, j28, j29, j30, j31, j32, j33, j34, j35, j36, j37, j38, j39, j40, j41, j42, j43, j44, j45, j46, j47, j48, j49, j50, j51, j52, j53, j54, j55, j56, j57, j58, j59, j60, j61, j62, j63, j64, j65, j66, j67, j68, j69, j70, j71, j72, j73, j74, j75, j76, j77, rfl⟩ := digits_loop (.lit cl 3 (l.map Entry.enc)) (.int .i64 pos) (.int .i64 first) [] 0 (l.length - 1) (l.length - 1) 0 _ _ _ _ _ _ _ _ _ _ _ _ _ _ _ _ _ _ _ _ _ _ _ _ _ _ _ _ _ _ _ _ _ _ _ _ _ _ _ _ _ _ _ _ _ _ _ _ _ _ _ _ _ _ _ _ _ _ _ _ _ _ _ _ _ _ _ _ _ _ _ _ _ (Nat.le_refl _) (by omega) (by omega)
        have e1 : IntKind.i64.wrap ((l.length : Int) - 1) = ((l.length - 1 : Nat) : Int) := by rw [i64_in _ (by omega)]; omega
        have hdl := digs_le 6 (l.length - 1) (by omega)
        obtain ⟨xs, er, c1, s1, k1, k2, c24⟩ : ∃ (xs : List Int) (er : Int) (c1 : Bool) (s1 : Nat), (er ≠ 0 → xs.length = 0) ∧ xs.length ≤ digs (l.length - 1) ∧
            (∀ ro H nx, callT env 24 [.lit cl 3 (l.map Entry.enc), .int .i64 pos] ro H nx = some (.ret (.tuple [.lit c1 s1 (xs.map (.int .u64)), .int .i64 er]), .ups [])) := by
          obtain ⟨c1, s1, h1, h2⟩ := Path_call cl l pos hlen
          refine ⟨_, _, c1, s1, ?_, ?_, h2⟩
          · unfold pathS
            split
            · split <;> simp
            · simp
          · unfold pathS
            split
            · split
              · simp
              · have := pathR_short rootI _ l pos.toNat (Nat.le_refl _)
                simp only [List.length_reverse]; omega
            · simp
        obtain ⟨ys, fr, c2, s2, k3, k4, c29⟩ : ∃ (xs : List Int) (er : Int) (c1 : Bool) (s1 : Nat), (er ≠ 0 → xs.length = 0) ∧ xs.length ≤ digs (l.length - 1) + 1 ∧
            (∀ ro H nx, callT env 29 [.lit cl 3 (l.map Entry.enc), .int .i64 first] ro H nx = some (.ret (.tuple [.lit c1 s1 (xs.map (.int .u64)), .int .i64 er]), .ups [])) := by
          obtain ⟨c1, s1, h1, h2⟩ := Grown_call cl l first hlen
          refine ⟨_, _, c1, s1, ?_, ?_, h2⟩
          · unfold grownS
            split
            · split <;> simp
            · simp
          · unfold grownS
            split
            · split
              · simp
              · have := grownR_short rootI _ l first.toNat true (Nat.le_refl _)
                simp only [List.length_reverse]; omega
            · simp
        rw [Nat.zero_add] at hx
        generalize digs (l.length - 1) = g at hx hdl k2 k4
        have d2 : decide ((xs.length : Int) ≤ (g : Int)) = true := by simp only [decide_eq_true_eq]; omega
        have d4 : decide ((ys.length : Int) ≤ ((g + 1 : Nat) : Int)) = true := by simp only [decide_eq_true_eq]; omega
        simp only [go_sem, Nat.reduceAdd, Nat.reduceSub, Nat.reduceMul, Nat.reduceDiv, Nat.reduceMod, Nat.reducePow, Nat.reduceLeDiff, Nat.reduceLT, Nat.reduceEqDiff, Nat.reduceBEq, Nat.reduceBNe, Int.reduceAdd, Int.reduceSub, Int.reduceMul, Int.reducePow, Int.reduceLE, Int.reduceLT, Int.reduceEq, Int.reduceToNat, Int.reduceNeg, reduceCtorEq, Nat.add_zero, Nat.zero_add, beq_self_eq_true, Try.f6, Int.ofNat_zero, Int.natCast_zero] at hx
        simp only [go_sem, Nat.reduceAdd, Nat.reduceSub, Nat.reduceMul, Nat.reduceDiv, Nat.reduceMod, Nat.reducePow, Nat.reduceLeDiff, Nat.reduceLT, Nat.reduceEqDiff, Nat.reduceBEq, Nat.reduceBNe, Int.reduceAdd, Int.reduceSub, Int.reduceMul, Int.reducePow, Int.reduceLE, Int.reduceLT, Int.reduceEq, Int.reduceToNat, Int.reduceNeg, reduceCtorEq, Nat.add_zero, Nat.zero_add, beq_self_eq_true, Try.f6, few_call cl l hlen, h40, hf, hz, List.length_map, e1]
        rw [hx]
        by_cases he : er = 0
        · have de : decide (er = 0) = true := by simpa using he
          by_cases hf0 : fr = 0
          · have df : decide (fr = 0) = true := by simpa using hf0
            simp only [go_sem, Nat.reduceAdd, Nat.reduceSub, Nat.reduceMul, Nat.reduceDiv, Nat.reduceMod, Nat.reducePow, Nat.reduceLeDiff, Nat.reduceLT, Nat.reduceEqDiff, Nat.reduceBEq, Nat.reduceBNe, Int.reduceAdd, Int.reduceSub, Int.reduceMul, Int.reducePow, Int.reduceLE, Int.reduceLT, Int.reduceEq, Int.reduceToNat, Int.reduceNeg, reduceCtorEq, Nat.add_zero, Nat.zero_add, beq_self_eq_true, List.length_map, c24, c29, de, df, d2, d4, wrap_succ (show g < 2 ^ 63 - 1 by omega), unwind, modeEx, resultsOf, one]
            exact ⟨_, rfl⟩
          · have df : decide (fr = 0) = false := by simpa using hf0
            have dy : decide ((ys.length : Int) = 0) = true := by have := k3 hf0; simp only [decide_eq_true_eq]; omega
            simp only [go_sem, Nat.reduceAdd, Nat.reduceSub, Nat.reduceMul, Nat.reduceDiv, Nat.reduceMod, Nat.reducePow, Nat.reduceLeDiff, Nat.reduceLT, Nat.reduceEqDiff, Nat.reduceBEq, Nat.reduceBNe, Int.reduceAdd, Int.reduceSub, Int.reduceMul, Int.reducePow, Int.reduceLE, Int.reduceLT, Int.reduceEq, Int.reduceToNat, Int.reduceNeg, reduceCtorEq, Nat.add_zero, Nat.zero_add, beq_self_eq_true, List.length_map, c24, c29, de, df, d2, dy, unwind, modeEx, resultsOf, one]
            exact ⟨_, rfl⟩
        · have de : decide (er = 0) = false := by simpa using he
          have dx : decide ((xs.length : Int) = 0) = true := by have := k1 he; simp only [decide_eq_true_eq]; omega
          by_cases hf0 : fr = 0
          · have df : decide (fr = 0) = true := by simpa using hf0
            simp only [go_sem, Nat.reduceAdd, Nat.reduceSub, Nat.reduceMul, Nat.reduceDiv, Nat.reduceMod, Nat.reducePow, Nat.reduceLeDiff, Nat.reduceLT, Nat.reduceEqDiff, Nat.reduceBEq, Nat.reduceBNe, Int.reduceAdd, Int.reduceSub, Int.reduceMul, Int.reducePow, Int.reduceLE, Int.reduceLT, Int.reduceEq, Int.reduceToNat, Int.reduceNeg, reduceCtorEq, Nat.add_zero, Nat.zero_add, beq_self_eq_true, List.length_map, c24, c29, de, df, dx, d4, wrap_succ (show g < 2 ^ 63 - 1 by omega), unwind, modeEx, resultsOf, one]
            exact ⟨_, rfl⟩
          · have df : decide (fr = 0) = false := by simpa using hf0
            have dy : decide ((ys.length : Int) = 0) = true := by have := k3 hf0; simp only [decide_eq_true_eq]; omega
            simp only [go_sem, Nat.reduceAdd, Nat.reduceSub, Nat.reduceMul, Nat.reduceDiv, Nat.reduceMod, Nat.reducePow, Nat.reduceLeDiff, Nat.reduceLT, Nat.reduceEqDiff, Nat.reduceBEq, Nat.reduceBNe, Int.reduceAdd, Int.reduceSub, Int.reduceMul, Int.reducePow, Int.reduceLE, Int.reduceLT, Int.reduceEq, Int.reduceToNat, Int.reduceNeg, reduceCtorEq, Nat.add_zero, Nat.zero_add, beq_self_eq_true, List.length_map, c24, c29, de, df, dx, dy, unwind, modeEx, resultsOf, one]
            exact ⟨_, rfl⟩
end Go.Proofs.Ytamcncpgfhfheaa.Tidy
