/-
  What the functions that LedgerGoesOn reaches compute; the law, run.
-/
import Derived.Test.YtamcncpgfhfheaaWa
set_option linter.all false
/-
  Strings that are hashed: those of a list, and those of a path.
-/
namespace Go.Proofs.Ytamcncpgfhfheaa.Tidy
open Go Go.IntWalk
set_option maxRecDepth 10000
set_option linter.unusedSimpArgs false

/-- what is hashed last for the root of entries -/
def topB (l : List Entry) : List UInt8 := if l.length = 0 then [] else match l with
  | [e] => leafB e
  | l => nodeB (rootI (l.take (splitS l.length))) (rootI (l.drop (splitS l.length)))

theorem topB_one (e : Entry) : topB [e] = leafB e := rfl
theorem topB_two {l : List Entry} (h : 2 ≤ l.length) : topB l = nodeB (rootI (l.take (splitS l.length))) (rootI (l.drop (splitS l.length))) := by
  unfold topB
  rw [if_neg (by omega)]
  split
  · simp at h
  · rfl

theorem rootI_two {l : List Entry} (h : 2 ≤ l.length) : rootI l = nodeI (rootI (l.take (splitS l.length))) (rootI (l.drop (splitS l.length))) := rootG_eq leafI nodeI h

theorem top_hash {l : List Entry} (h : small l) : hashS (topB l) = rootI l := by
  by_cases h0 : l.length = 0
  · obtain rfl : l = [] := List.eq_nil_of_length_eq_zero h0
    rfl
  · by_cases h1 : l.length = 1
    · obtain ⟨e, rfl⟩ := List.length_eq_one_iff.1 h1
      rw [topB_one, leaf_eq e (by have := h e (by simp); omega)]
      rfl
    · rw [topB_two (l := l) (by omega), rootI_two (l := l) (by omega)]
      exact node_eq (root_range _).1 (root_range _).2 (root_range _).1 (root_range _).2

theorem topB_length {l : List Entry} (h : small l) : (topB l).length < 2 ^ 63 := by
  by_cases h0 : l.length = 0
  · obtain rfl : l = [] := List.eq_nil_of_length_eq_zero h0
    decide
  · by_cases h1 : l.length = 1
    · obtain ⟨e, rfl⟩ := List.length_eq_one_iff.1 h1
      rw [topB_one, leafB_length]
      have := h e (by simp); omega
    · rw [topB_two (by omega), nodeB_length]; decide

/-- all that is hashed for the root of entries -/
def hashedS (l : List Entry) : List (List UInt8) :=
  if _h : l.length ≤ 1 then [topB l] else hashedS (l.take (splitS l.length)) ++ (hashedS (l.drop (splitS l.length)) ++ [topB l])
termination_by l.length
decreasing_by
  all_goals
    have := splitS_lt (n := l.length) (by omega)
    simp only [List.length_take, List.length_drop]
    omega

theorem hashedS_one {l : List Entry} (h : l.length ≤ 1) : hashedS l = [topB l] := by rw [hashedS, dif_pos h]
theorem hashedS_two {l : List Entry} (h : 2 ≤ l.length) : hashedS l = hashedS (l.take (splitS l.length)) ++ (hashedS (l.drop (splitS l.length)) ++ [topB l]) := by rw [hashedS, dif_neg (by omega)]

theorem hashedS_last (l : List Entry) : ∃ a, hashedS l = a ++ [topB l] := by
  by_cases h : l.length ≤ 1
  · exact ⟨[], hashedS_one h⟩
  · exact ⟨_, by rw [hashedS_two (by omega), List.append_assoc]⟩

theorem hashedS_length : ∀ (n : Nat) (l : List Entry), l.length ≤ n → (hashedS l).length ≤ 2 * l.length + 1 ∧ (1 ≤ l.length → (hashedS l).length + 1 ≤ 2 * l.length)
  | n, l, h => by
    by_cases h1 : l.length ≤ 1
    · rw [hashedS_one h1]; simp; omega
    · obtain ⟨m, rfl⟩ : ∃ m, n = m + 1 := ⟨n - 1, by omega⟩
      have hs := splitS_lt (n := l.length) (by omega)
      rw [hashedS_two (by omega)]
      have h3 := (hashedS_length m (l.take (splitS l.length)) (by rw [List.length_take]; omega)).2 (by rw [List.length_take]; omega)
      have h4 := (hashedS_length m (l.drop (splitS l.length)) (by rw [List.length_drop]; omega)).2 (by rw [List.length_drop]; omega)
      rw [List.length_take] at h3
      rw [List.length_drop] at h4
      simp only [List.length_append, List.length_cons, List.length_nil]
      omega

theorem hashed_run : ∀ (n : Nat) (cl : Bool) (l : List Entry), l.length = n → n ≤ 512 → small l → ∃ c, runT env 53 [encL cl l] [] 0 = some (.ret (.lit c 1 ((hashedS l).map .str)), []) := by
  intro n
  induction n using Nat.strongRecOn with
  | _ n ih =>
    intro cl l hl hn hsm
    rw [run_unfold fn53 rfl]
    by_cases h0 : n = 0
    · have : l = [] := List.eq_nil_of_length_eq_zero (by omega)
      subst this
      rw [hashedS_one (by simp)]
      refine ⟨true, ?_⟩
      simp only [go_sem, Nat.reduceAdd, Nat.reduceSub, Nat.reduceMul, Nat.reduceDiv, Nat.reduceMod, Nat.reducePow, Nat.reduceLeDiff, Nat.reduceLT, Nat.reduceEqDiff, Nat.reduceBEq, Nat.reduceBNe, Int.reduceAdd, Int.reduceSub, Int.reduceMul, Int.reducePow, Int.reduceLE, Int.reduceLT, Int.reduceEq, Int.reduceToNat, Int.reduceNeg, reduceCtorEq, Nat.add_zero, Nat.zero_add, beq_self_eq_true, Try.f53, encL, unwind, modeEx, resultsOf, one, Int.ofNat_zero, Int.natCast_zero]
      rfl
    · by_cases h1 : n = 1
      · obtain ⟨e, rfl⟩ : ∃ e, l = [e] := List.length_eq_one_iff.1 (by omega)
        have hlf := leafBytes_call e (hsm e (by simp))
        rw [hashedS_one (by simp), topB_one]
        refine ⟨true, ?_⟩
        simp only [go_sem, Nat.reduceAdd, Nat.reduceSub, Nat.reduceMul, Nat.reduceDiv, Nat.reduceMod, Nat.reducePow, Nat.reduceLeDiff, Nat.reduceLT, Nat.reduceEqDiff, Nat.reduceBEq, Nat.reduceBNe, Int.reduceAdd, Int.reduceSub, Int.reduceMul, Int.reducePow, Int.reduceLE, Int.reduceLT, Int.reduceEq, Int.reduceToNat, Int.reduceNeg, reduceCtorEq, Nat.add_zero, Nat.zero_add, beq_self_eq_true, Try.f53, encL, unwind, modeEx, resultsOf, one, Int.natCast_one, hlf]
      · have hs := splitS_lt (n := l.length) (by omega)
        have d0 : decide ((l.length : Int) = 0) = false := by simp only [decide_eq_false_iff_not]; omega
        have d1 : decide ((l.length : Int) = 1) = false := by simp only [decide_eq_false_iff_not]; omega
        obtain ⟨ca, hca⟩ := ih (l.take (splitS l.length)).length (by rw [List.length_take]; omega) true (l.take (splitS l.length)) rfl (by rw [List.length_take]; omega) (hsm.take _)
        obtain ⟨cb, hcb⟩ := ih (l.drop (splitS l.length)).length (by rw [List.length_drop]; omega) cl (l.drop (splitS l.length)) rfl (by rw [List.length_drop]; omega) (hsm.drop _)
        obtain ⟨a, ha⟩ := hashedS_last (l.take (splitS l.length))
        obtain ⟨b, hb⟩ := hashedS_last (l.drop (splitS l.length))
        have la := (hashedS_length _ (l.take (splitS l.length)) (Nat.le_refl _)).1
        have lb := (hashedS_length _ (l.drop (splitS l.length)) (Nat.le_refl _)).1
        obtain ⟨cc, hcc⟩ := concat_call [⟨ca, 1, hashedS (l.take (splitS l.length))⟩, ⟨cb, 1, hashedS (l.drop (splitS l.length))⟩, ⟨true, 1, [topB l]⟩] (by intro p hp; simp only [List.mem_cons, List.not_mem_nil, or_false] at hp; rcases hp with rfl | rfl | rfl <;> exact .inr rfl) (by simp) (by simp [total]; omega) (by
          simp only [total, List.map_cons, List.map_nil, List.sum_cons, List.sum_nil, List.length_singleton]
          rw [List.length_take] at la; rw [List.length_drop] at lb
          omega)
        have hj : joined [⟨ca, 1, hashedS (l.take (splitS l.length))⟩, ⟨cb, 1, hashedS (l.drop (splitS l.length))⟩, ⟨true, 1, [topB l]⟩] = hashedS l := by
          rw [hashedS_two (l := l) (by omega)]; simp [joined]
        rw [hj] at hcc
        simp only [Strs.enc, List.map_cons, List.map_nil, topB_two (l := l) (by omega)] at hcc
        have c1 := fun ro H nx => call_pure (H' := []) (E := env) (f := 53) rfl rfl rfl rfl hca (by rfl) ro H nx
        have c2 := fun ro H nx => call_pure (H' := []) (E := env) (f := 53) rfl rfl rfl rfl hcb (by rfl) ro H nx
        simp only [encL] at c1 c2
        rw [ha] at c1 hcc
        rw [hb] at c2 hcc
        have ga : ((a ++ [topB (l.take (splitS l.length))]).map AVal.str)[((a.length : Nat) : Int).toNat]? = some (.str (topB (l.take (splitS l.length)))) := get_map (by simp)
        have gb : ((b ++ [topB (l.drop (splitS l.length))]).map AVal.str)[((b.length : Nat) : Int).toNat]? = some (.str (topB (l.drop (splitS l.length)))) := get_map (by simp)
        have ea : (0 : Int) ≤ (a.length : Int) := by omega
        have eb : (0 : Int) ≤ (b.length : Int) := by omega
        have k1 := fun ro H nx => hash_call (topB (l.take (splitS l.length))) (topB_length (hsm.take _)) ro H nx
        have k2 := fun ro H nx => hash_call (topB (l.drop (splitS l.length))) (topB_length (hsm.drop _)) ro H nx
        rw [top_hash (hsm.take _)] at k1
        rw [top_hash (hsm.drop _)] at k2
        have hla : a.length < 2 ^ 63 := by rw [ha, List.length_append, List.length_take] at la; omega
        have hlb : b.length < 2 ^ 63 := by rw [hb, List.length_append, List.length_drop] at lb; omega
        refine ⟨cc, ?_⟩
        simp only [go_sem, Nat.reduceAdd, Nat.reduceSub, Nat.reduceMul, Nat.reduceDiv, Nat.reduceMod, Nat.reducePow, Nat.reduceLeDiff, Nat.reduceLT, Nat.reduceEqDiff, Nat.reduceBEq, Nat.reduceBNe, Int.reduceAdd, Int.reduceSub, Int.reduceMul, Int.reducePow, Int.reduceLE, Int.reduceLT, Int.reduceEq, Int.reduceToNat, Int.reduceNeg, reduceCtorEq, Nat.add_zero, Nat.zero_add, beq_self_eq_true, Try.f53, encL, List.length_map, List.length_append, d0, d1, rsplit_call (n := l.length) (by omega) (by omega), sl_to3 _ _ _ (show splitS l.length ≤ l.length by omega), sl_from _ _ _ (show splitS l.length ≤ l.length by omega), c1, c2, wrap_pred hla, wrap_pred hlb, ga, gb, ea, eb, k1, k2, hcc, unwind, modeEx, resultsOf, one]

theorem hashed_call (cl : Bool) (l : List Entry) (h1 : l.length ≤ 512) (h2 : small l) : ∃ c, ∀ ro H nx, callT env 53 [.lit cl 3 (l.map Entry.enc)] ro H nx = some (.ret (.lit c 1 ((hashedS l).map .str)), .ups []) := by
  obtain ⟨c, h⟩ := hashed_run _ cl l rfl h1 h2
  exact ⟨c, fun ro H nx => call_pure rfl rfl rfl rfl h rfl ro H nx⟩
end Go.Proofs.Ytamcncpgfhfheaa.Tidy

/-
  Strings that are hashed: those of a path; whether hashes are distinct.
-/
namespace Go.Proofs.Ytamcncpgfhfheaa.Tidy
open Go Go.IntWalk
set_option maxRecDepth 10000
set_option linter.unusedSimpArgs false

/-- what is hashed last when a path makes something of a string -/
def upT (s : List UInt8) : Nat → Nat → List Int → List UInt8
  | _, _, [] => s
  | many, pos, h :: r => if many ≤ 1 then s else
      if pos < splitS many then nodeB (climbR (hashS s) (splitS many) pos r).1 h
      else nodeB h (climbR (hashS s) (many - splitS many) (pos - splitS many) r).1

theorem upT_cons (s : List UInt8) (many pos : Nat) (h : Int) (r : List Int) : upT s many pos (h :: r) = if many ≤ 1 then s else
      if pos < splitS many then nodeB (climbR (hashS s) (splitS many) pos r).1 h
      else nodeB h (climbR (hashS s) (many - splitS many) (pos - splitS many) r).1 := rfl

theorem climbR_cons (of : Int) (many pos : Nat) (h : Int) (r : List Int) : climbR of many pos (h :: r) = if many = 1 then (of, false) else
      if pos < splitS many then (nodeI (climbR of (splitS many) pos r).1 h, (climbR of (splitS many) pos r).2)
      else (nodeI h (climbR of (many - splitS many) (pos - splitS many) r).1, (climbR of (many - splitS many) (pos - splitS many) r).2) := by
  rw [climbR]

/-- all that is hashed -/
def upS (s : List UInt8) : Nat → Nat → List Int → List (List UInt8)
  | _, _, [] => [s]
  | many, pos, h :: r => if many ≤ 1 then [s] else
      (if pos < splitS many then upS s (splitS many) pos r else upS s (many - splitS many) (pos - splitS many) r) ++ [upT s many pos (h :: r)]

theorem upS_last (s : List UInt8) : ∀ (r : List Int) (many pos : Nat), ∃ a, upS s many pos r = a ++ [upT s many pos r]
  | [], many, pos => ⟨[], rfl⟩
  | h :: r, many, pos => by
    unfold upS
    split
    · refine ⟨[], ?_⟩
      rename_i h1
      simp [upT, h1]
    · exact ⟨_, rfl⟩

theorem upT_length (s : List UInt8) (hs : s.length < 2 ^ 63) : ∀ (r : List Int) (many pos : Nat), (upT s many pos r).length < 2 ^ 63
  | [], many, pos => hs
  | h :: r, many, pos => by
    rw [upT_cons]
    split
    · exact hs
    · split
      · rw [nodeB_length]; decide
      · rw [nodeB_length]; decide

theorem upS_length (s : List UInt8) : ∀ (r : List Int) (many pos : Nat), (upS s many pos r).length ≤ r.length + 1
  | [], many, pos => by simp [upS]
  | h :: r, many, pos => by
    unfold upS
    split
    · simp
    · split
      · have := upS_length s r (splitS many) pos
        simp only [List.length_append, List.length_cons, List.length_nil]; omega
      · have := upS_length s r (many - splitS many) (pos - splitS many)
        simp only [List.length_append, List.length_cons, List.length_nil]; omega

theorem hashS_range (s : List UInt8) : 0 ≤ hashS s ∧ hashS s ≤ 18446744073709551615 := fold_range _ _ (by decide) (by decide)

theorem upT_hash (s : List UInt8) : ∀ (r : List Int) (many pos : Nat), 1 ≤ many → u64s r → hashS (upT s many pos r) = (climbR (hashS s) many pos r).1
  | [], many, pos, _, _ => rfl
  | h :: r, many, pos, hm, hu => by
    have hh := hu h (by simp)
    rw [upT_cons, climbR_cons]
    by_cases h1 : many ≤ 1
    · rw [if_pos h1, if_pos (show many = 1 by omega)]
    · rw [if_neg h1, if_neg (show ¬ many = 1 by omega)]
      have r1 := climbR_range (hashS_range s) (splitS many) pos r
      have r2 := climbR_range (hashS_range s) (many - splitS many) (pos - splitS many) r
      generalize climbR (hashS s) (splitS many) pos r = c1 at r1 ⊢
      generalize climbR (hashS s) (many - splitS many) (pos - splitS many) r = c2 at r2 ⊢
      by_cases hp : pos < splitS many
      · rw [if_pos hp, if_pos hp]
        exact node_eq r1.1 r1.2 hh.1 hh.2
      · rw [if_neg hp, if_neg hp]
        exact node_eq hh.1 hh.2 r2.1 r2.2

/-- one string more, in a list of strings -/
theorem append64 {v : AVal} {us : Ups} {xs : List (List UInt8)} (hv : VecB 1 0 v us (xs.map .str)) (hx : xs.length ≤ 600) (y : List UInt8) :
    ∃ u us', appendOp env 0 (putU [] us).length 64 v (.lit true 1 [.str y]) (putU [] us) = some (u, us') ∧ VecA 1 u (putU (putU [] us) us') ((xs ++ [y]).map .str) ∧
      us'.map (·.1) = [0] ∧ consec (putU [] us).length (putU [] us).length us' = true := by
  have hb : (xs.length + 1) * (16 + 1) ≤ maxBytes := by unfold maxBytes; omega
  rcases hv with ⟨sz, rfl, rfl, hsz⟩ | ⟨g, rfl, rfl, h0⟩
  · refine ⟨.ref 0 0 0 (xs.length + 1) false, [(0, .cells 0 1 true ((xs ++ [y]).map .str))], ?_, .inr ⟨0, by simp, by simp [putU], by simp⟩, rfl, rfl⟩
    have := append_lit (E := env) (nx := 0) (ro := 0) (H := []) (x := .lit true 1 [.str y]) (sz := sz) (es := xs.map .str) ti64 ti9 rfl ⟨by decide, rfl, rfl⟩ rfl (by simp) hsz (by simpa using hb) (fun _ => rfl)
    simpa [putU, newBlk, show flatTy env 8 9 = true from rfl] using this
  · have hl : 0 < xs.length := List.length_pos_iff.2 (by simpa using h0)
    refine ⟨.ref 0 (g + 1) 0 (xs.length + 1) false, [(0, .cells (g + 1) 1 true ((xs ++ [y]).map .str))], ?_, .inr ⟨g + 1, by simp, by simp [putU], by simp⟩, rfl, rfl⟩
    have := append_ref (E := env) (nx := 1) (ro := 0) (id := 0) (g := g) (fl := true) (H := [.cells g 1 true (xs.map .str)]) (x := .lit true 1 [.str y]) (bs := xs.map .str) (len := xs.length) ti64 ti9 rfl ⟨by decide, rfl, rfl⟩ rfl (by simp) rfl (by simp) hl (by omega) (by simpa using hb) (fun _ => rfl)
    simpa [putU] using this

theorem up_run (s : List UInt8) (hs : s.length < 2 ^ 63) : ∀ (r : List Int), u64s r → r.length ≤ 512 → ∀ (many pos : Nat) (cl : Bool) (sz : Nat), 1 ≤ many → many ≤ 512 → pos < many → (r = [] ∨ sz = 1) → ∃ v H',
    runT env 54 [.str s, .int .i64 many, .int .i64 pos, .lit cl sz (r.reverse.map (.int .u64))] [] 0 = some (.ret v, H') ∧ VecA 1 v H' ((upS s many pos r).map .str) := by
  intro r
  induction r with
  | nil =>
    intro _ _ many pos cl sz h1 h2 h3 _
    rw [run_unfold fn54 rfl]
    have z0 : decide (((0 : Nat) : Int) = 0) = true := by decide
    cases hd : decide ((many : Int) ≤ 1) with
    | true =>
      simp only [go_sem, Nat.reduceAdd, Nat.reduceSub, Nat.reduceMul, Nat.reduceDiv, Nat.reduceMod, Nat.reducePow, Nat.reduceLeDiff, Nat.reduceLT, Nat.reduceEqDiff, Nat.reduceBEq, Nat.reduceBNe, Int.reduceAdd, Int.reduceSub, Int.reduceMul, Int.reducePow, Int.reduceLE, Int.reduceLT, Int.reduceEq, Int.reduceToNat, Int.reduceNeg, reduceCtorEq, Nat.add_zero, Nat.zero_add, beq_self_eq_true, Try.f54, hd, List.reverse_nil, unwind, modeEx, resultsOf, one, upS]
      exact ⟨_, _, rfl, .inl ⟨1, rfl, rfl, .inr rfl⟩⟩
    | false =>
      simp only [go_sem, Nat.reduceAdd, Nat.reduceSub, Nat.reduceMul, Nat.reduceDiv, Nat.reduceMod, Nat.reducePow, Nat.reduceLeDiff, Nat.reduceLT, Nat.reduceEqDiff, Nat.reduceBEq, Nat.reduceBNe, Int.reduceAdd, Int.reduceSub, Int.reduceMul, Int.reducePow, Int.reduceLE, Int.reduceLT, Int.reduceEq, Int.reduceToNat, Int.reduceNeg, reduceCtorEq, Nat.add_zero, Nat.zero_add, beq_self_eq_true, Try.f54, hd, z0, List.reverse_nil, unwind, modeEx, resultsOf, one, upS]
      exact ⟨_, _, rfl, .inl ⟨1, rfl, rfl, .inr rfl⟩⟩
  | cons h r ih =>
    intro hu hl many pos cl sz h1 h2 h3 hsz
    obtain rfl : sz = 1 := by rcases hsz with h | h; · cases h
                              · exact h
    have hh := hu h (by simp)
    have hu' : u64s r := fun x hx => hu x (by simp [hx])
    have hl' : r.length + 1 ≤ 512 := by simpa using hl
    rw [run_unfold fn54 rfl]
    by_cases hm : many ≤ 1
    · have hd : decide ((many : Int) ≤ 1) = true := by simp only [decide_eq_true_eq]; omega
      simp only [go_sem, Nat.reduceAdd, Nat.reduceSub, Nat.reduceMul, Nat.reduceDiv, Nat.reduceMod, Nat.reducePow, Nat.reduceLeDiff, Nat.reduceLT, Nat.reduceEqDiff, Nat.reduceBEq, Nat.reduceBNe, Int.reduceAdd, Int.reduceSub, Int.reduceMul, Int.reducePow, Int.reduceLE, Int.reduceLT, Int.reduceEq, Int.reduceToNat, Int.reduceNeg, reduceCtorEq, Nat.add_zero, Nat.zero_add, beq_self_eq_true, Try.f54, hd, unwind, modeEx, resultsOf, one, upS, hm]
      exact ⟨_, _, rfl, .inl ⟨1, rfl, rfl, .inr rfl⟩⟩
    · have hd : decide ((many : Int) ≤ 1) = false := by simp only [decide_eq_false_iff_not]; omega
      have d0 : decide (((r.length + 1 : Nat) : Int) = 0) = false := by simp only [decide_eq_false_iff_not]; omega
      have hs' := splitS_lt (n := many) (by omega)
      have e0 : (0 : Int) ≤ (r.length : Int) := by omega
      have hg : ((r.reverse ++ [h]).map (AVal.int .u64))[r.length]? = some (.int .u64 h) := get_map (by simp)
      have ht : (r.reverse ++ [h]).take r.length = r.reverse := by
        rw [show r.length = r.reverse.length from by simp]; exact List.take_left' rfl
      by_cases hp : pos < splitS many
      · have d2 : decide ((pos : Int) < (splitS many : Int)) = true := by simp only [decide_eq_true_eq]; omega
        obtain ⟨v, H', hr, hv⟩ := ih hu' (by omega) (splitS many) pos true 1 (by omega) (by omega) hp (.inr rfl)
        obtain ⟨u, us, hc, huv⟩ := call_vecA (E := env) (f := 54) rfl rfl rfl rfl (by simp [underL, AVal.under]) hr hv 0 [] 0
        obtain ⟨a, hal⟩ := upS_last s r (splitS many) pos
        have hlen := upS_length s r (splitS many) pos
        have k1 := fun ro H nx => hash_call (upT s (splitS many) pos r) (upT_length s hs _ _ _) ro H nx
        rw [upT_hash s r _ _ (by omega) hu'] at k1
        obtain ⟨w, us', ha, hw, g3, g5⟩ := append64 huv (by omega) (nodeB (climbR (hashS s) (splitS many) pos r).1 h)
        have ga : ((a ++ [upT s (splitS many) pos r]).map AVal.str)[a.length]? = some (.str (upT s (splitS many) pos r)) := get_map (by simp)
        have ea : (0 : Int) ≤ (a.length : Int) := by omega
        have db : decide ((a.length : Int) < ((a.length + 1 : Nat) : Int)) = true := by simp only [decide_eq_true_eq]; omega
        have hla : a.length < 2 ^ 63 := by rw [hal, List.length_append] at hlen; omega
        have hres : upS s many pos (h :: r) = upS s (splitS many) pos r ++ [nodeB (climbR (hashS s) (splitS many) pos r).1 h] := by
          simp only [upS, upT, hm, hp, if_false, if_true]
        rw [hres]
        rw [hal] at huv
        rcases huv with ⟨sz', rfl, rfl, hsz'⟩ | ⟨g, rfl, rfl, hne⟩
        · obtain rfl : sz' = 1 := by rcases hsz' with h | h; · simp at h
                                     · exact h
          simp only [putU, List.length_nil] at ha g5
          simp only [go_sem, Nat.reduceAdd, Nat.reduceSub, Nat.reduceMul, Nat.reduceDiv, Nat.reduceMod, Nat.reducePow, Nat.reduceLeDiff, Nat.reduceLT, Nat.reduceEqDiff, Nat.reduceBEq, Nat.reduceBNe, Int.reduceAdd, Int.reduceSub, Int.reduceMul, Int.reducePow, Int.reduceLE, Int.reduceLT, Int.reduceEq, Int.reduceToNat, Int.reduceNeg, reduceCtorEq, Nat.add_zero, Nat.zero_add, beq_self_eq_true, Try.f54, hd, d0, d2, List.reverse_cons, List.length_map, List.length_append, List.length_reverse, wrap_pred (show r.length < 2 ^ 63 by omega), wrap_pred hla, rsplit_call (n := many) (by omega) (by omega), sl35_to3 _ _ _ (show r.length ≤ (r.reverse ++ [h]).length by simp), ht, hc, e0, Int.toNat_natCast, hg, ga, ea, k1, ha, g3, g5]
          rw [apart_ok]
          · simp only [go_sem, Nat.reduceAdd, Nat.reduceSub, Nat.reduceMul, Nat.reduceDiv, Nat.reduceMod, Nat.reducePow, Nat.reduceLeDiff, Nat.reduceLT, Nat.reduceEqDiff, Nat.reduceBEq, Nat.reduceBNe, Int.reduceAdd, Int.reduceSub, Int.reduceMul, Int.reducePow, Int.reduceLE, Int.reduceLT, Int.reduceEq, Int.reduceToNat, Int.reduceNeg, reduceCtorEq, Nat.add_zero, Nat.zero_add, beq_self_eq_true, unwind, modeEx, resultsOf, one]
            exact ⟨_, _, rfl, hw⟩
          · kernel_rfl
        · simp only [putU, List.length_nil, Nat.lt_irrefl, if_false, List.nil_append, List.length_cons, List.length_append, List.length_map, Nat.zero_add] at ha g5
          simp only [go_sem, Nat.reduceAdd, Nat.reduceSub, Nat.reduceMul, Nat.reduceDiv, Nat.reduceMod, Nat.reducePow, Nat.reduceLeDiff, Nat.reduceLT, Nat.reduceEqDiff, Nat.reduceBEq, Nat.reduceBNe, Int.reduceAdd, Int.reduceSub, Int.reduceMul, Int.reducePow, Int.reduceLE, Int.reduceLT, Int.reduceEq, Int.reduceToNat, Int.reduceNeg, reduceCtorEq, Nat.add_zero, Nat.zero_add, beq_self_eq_true, Try.f54, hd, d0, d2, List.reverse_cons, List.length_map, List.length_append, List.length_reverse, wrap_pred (show r.length < 2 ^ 63 by omega), wrap_pred hla, rsplit_call (n := many) (by omega) (by omega), sl35_to3 _ _ _ (show r.length ≤ (r.reverse ++ [h]).length by simp), ht, hc, e0, Int.toNat_natCast, hg, ga, ea, db, k1, ha, g3, g5]
          rw [apart_ok]
          · simp only [go_sem, Nat.reduceAdd, Nat.reduceSub, Nat.reduceMul, Nat.reduceDiv, Nat.reduceMod, Nat.reducePow, Nat.reduceLeDiff, Nat.reduceLT, Nat.reduceEqDiff, Nat.reduceBEq, Nat.reduceBNe, Int.reduceAdd, Int.reduceSub, Int.reduceMul, Int.reducePow, Int.reduceLE, Int.reduceLT, Int.reduceEq, Int.reduceToNat, Int.reduceNeg, reduceCtorEq, Nat.add_zero, Nat.zero_add, beq_self_eq_true, unwind, modeEx, resultsOf, one]
            exact ⟨_, _, rfl, hw⟩
          · kernel_rfl
      · have d2 : decide ((pos : Int) < (splitS many : Int)) = false := by simp only [decide_eq_false_iff_not]; omega
        obtain ⟨v, H', hr, hv⟩ := ih hu' (by omega) (many - splitS many) (pos - splitS many) true 1 (by omega) (by omega) (by omega) (.inr rfl)
        obtain ⟨u, us, hc, huv⟩ := call_vecA (E := env) (f := 54) rfl rfl rfl rfl (by simp [underL, AVal.under]) hr hv 0 [] 0
        obtain ⟨a, hal⟩ := upS_last s r (many - splitS many) (pos - splitS many)
        have hlen := upS_length s r (many - splitS many) (pos - splitS many)
        have k1 := fun ro H nx => hash_call (upT s (many - splitS many) (pos - splitS many) r) (upT_length s hs _ _ _) ro H nx
        rw [upT_hash s r _ _ (by omega) hu'] at k1
        obtain ⟨w, us', ha, hw, g3, g5⟩ := append64 huv (by omega) (nodeB h (climbR (hashS s) (many - splitS many) (pos - splitS many) r).1)
        have ga : ((a ++ [upT s (many - splitS many) (pos - splitS many) r]).map AVal.str)[a.length]? = some (.str (upT s (many - splitS many) (pos - splitS many) r)) := get_map (by simp)
        have ea : (0 : Int) ≤ (a.length : Int) := by omega
        have db : decide ((a.length : Int) < ((a.length + 1 : Nat) : Int)) = true := by simp only [decide_eq_true_eq]; omega
        have hla : a.length < 2 ^ 63 := by rw [hal, List.length_append] at hlen; omega
        have hres : upS s many pos (h :: r) = upS s (many - splitS many) (pos - splitS many) r ++ [nodeB h (climbR (hashS s) (many - splitS many) (pos - splitS many) r).1] := by
          simp only [upS, upT, hm, hp, if_false, if_true]
        rw [hres]
        rw [hal] at huv
        rcases huv with ⟨sz', rfl, rfl, hsz'⟩ | ⟨g, rfl, rfl, hne⟩
        · obtain rfl : sz' = 1 := by rcases hsz' with h | h; · simp at h
                                     · exact h
          simp only [putU, List.length_nil] at ha g5
          simp only [go_sem, Nat.reduceAdd, Nat.reduceSub, Nat.reduceMul, Nat.reduceDiv, Nat.reduceMod, Nat.reducePow, Nat.reduceLeDiff, Nat.reduceLT, Nat.reduceEqDiff, Nat.reduceBEq, Nat.reduceBNe, Int.reduceAdd, Int.reduceSub, Int.reduceMul, Int.reducePow, Int.reduceLE, Int.reduceLT, Int.reduceEq, Int.reduceToNat, Int.reduceNeg, reduceCtorEq, Nat.add_zero, Nat.zero_add, beq_self_eq_true, Try.f54, hd, d0, d2, List.reverse_cons, List.length_map, List.length_append, List.length_reverse, wrap_pred (show r.length < 2 ^ 63 by omega), wrap_pred hla, wrap_sub (show splitS many ≤ many by omega) (by omega), wrap_sub (show splitS many ≤ pos by omega) (by omega), rsplit_call (n := many) (by omega) (by omega), sl35_to3 _ _ _ (show r.length ≤ (r.reverse ++ [h]).length by simp), ht, hc, e0, Int.toNat_natCast, hg, ga, ea, k1, ha, g3, g5]
          rw [apart_ok]
          · simp only [go_sem, Nat.reduceAdd, Nat.reduceSub, Nat.reduceMul, Nat.reduceDiv, Nat.reduceMod, Nat.reducePow, Nat.reduceLeDiff, Nat.reduceLT, Nat.reduceEqDiff, Nat.reduceBEq, Nat.reduceBNe, Int.reduceAdd, Int.reduceSub, Int.reduceMul, Int.reducePow, Int.reduceLE, Int.reduceLT, Int.reduceEq, Int.reduceToNat, Int.reduceNeg, reduceCtorEq, Nat.add_zero, Nat.zero_add, beq_self_eq_true, unwind, modeEx, resultsOf, one]
            exact ⟨_, _, rfl, hw⟩
          · kernel_rfl
        · simp only [putU, List.length_nil, Nat.lt_irrefl, if_false, List.nil_append, List.length_cons, List.length_append, List.length_map, Nat.zero_add] at ha g5
          simp only [go_sem, Nat.reduceAdd, Nat.reduceSub, Nat.reduceMul, Nat.reduceDiv, Nat.reduceMod, Nat.reducePow, Nat.reduceLeDiff, Nat.reduceLT, Nat.reduceEqDiff, Nat.reduceBEq, Nat.reduceBNe, Int.reduceAdd, Int.reduceSub, Int.reduceMul, Int.reducePow, Int.reduceLE, Int.reduceLT, Int.reduceEq, Int.reduceToNat, Int.reduceNeg, reduceCtorEq, Nat.add_zero, Nat.zero_add, beq_self_eq_true, Try.f54, hd, d0, d2, List.reverse_cons, List.length_map, List.length_append, List.length_reverse, wrap_pred (show r.length < 2 ^ 63 by omega), wrap_pred hla, wrap_sub (show splitS many ≤ many by omega) (by omega), wrap_sub (show splitS many ≤ pos by omega) (by omega), rsplit_call (n := many) (by omega) (by omega), sl35_to3 _ _ _ (show r.length ≤ (r.reverse ++ [h]).length by simp), ht, hc, e0, Int.toNat_natCast, hg, ga, ea, db, k1, ha, g3, g5]
          rw [apart_ok]
          · simp only [go_sem, Nat.reduceAdd, Nat.reduceSub, Nat.reduceMul, Nat.reduceDiv, Nat.reduceMod, Nat.reducePow, Nat.reduceLeDiff, Nat.reduceLT, Nat.reduceEqDiff, Nat.reduceBEq, Nat.reduceBNe, Int.reduceAdd, Int.reduceSub, Int.reduceMul, Int.reducePow, Int.reduceLE, Int.reduceLT, Int.reduceEq, Int.reduceToNat, Int.reduceNeg, reduceCtorEq, Nat.add_zero, Nat.zero_add, beq_self_eq_true, unwind, modeEx, resultsOf, one]
            exact ⟨_, _, rfl, hw⟩
          · kernel_rfl

theorem up_call (s : List UInt8) (hs : s.length < 2 ^ 63) (r : List Int) (hu : u64s r) (hl : r.length ≤ 512) (many pos : Nat) (cl : Bool) (sz : Nat) (h1 : 1 ≤ many) (h2 : many ≤ 512) (h3 : pos < many) (hsz : r = [] ∨ sz = 1) (ro : Nat) (H : Heap) (nx : Nat) :
    ∃ u us, callT env 54 [.str s, .int .i64 many, .int .i64 pos, .lit cl sz (r.reverse.map (.int .u64))] ro H nx = some (.ret u, .ups us) ∧ VecB 1 nx u us ((upS s many pos r).map .str) := by
  obtain ⟨v, H', hr, hv⟩ := up_run s hs r hu hl many pos cl sz h1 h2 h3 hsz
  exact call_vecA rfl rfl rfl rfl (by simp [underL, AVal.under]) hr hv ro H nx
end Go.Proofs.Ytamcncpgfhfheaa.Tidy

/-
  Whether hashes are distinct.
-/
namespace Go.Proofs.Ytamcncpgfhfheaa.Tidy
open Go Go.IntWalk
set_option maxRecDepth 10000
set_option linter.unusedSimpArgs false

abbrev Met := List (Int × List UInt8)
def encM (m : Met) : List (AVal × AVal) := m.map fun p => (.int .u64 p.1, .str p.2)
def lk (h : Int) : Met → Option (List UInt8)
  | [] => none
  | (k, v) :: m => if h = k then some v else lk h m
def updM (h : Int) (s : List UInt8) : Met → Met
  | [] => [(h, s)]
  | (k, v) :: m => if h = k then (h, s) :: m else (k, v) :: updM h s m

theorem lk_updM (h : Int) (s : List UInt8) (k : Int) : ∀ m : Met, lk k (updM h s m) = if k = h then some s else lk k m
  | [] => by simp only [updM, lk]
  | (k', v) :: m => by
    have ih := lk_updM h s k m
    simp only [updM]
    by_cases h1 : h = k'
    · rw [if_pos h1]
      simp only [lk]
      by_cases h2 : k = h
      · rw [if_pos h2, if_pos h2]
      · rw [if_neg h2, if_neg h2, if_neg (by omega)]
    · rw [if_neg h1]
      simp only [lk]
      by_cases h2 : k = k'
      · rw [if_pos h2, if_neg (by omega), if_pos h2]
      · rw [if_neg h2, ih]
        simp only [if_neg h2]

theorem find_none {h : Int} : ∀ {m : Met} (i : Nat), lk h m = none → findKey (.int .u64 h) (encM m) i = some none
  | [], _, _ => rfl
  | (k, v) :: m, i, hn => by
    simp only [lk] at hn
    split at hn
    · cases hn
    · rename_i hk
      simp only [encM, List.map_cons, findKey, eqv, if_true, hk, decide_false]
      exact find_none (m := m) (i + 1) hn

theorem find_some {h : Int} {v : List UInt8} : ∀ {m : Met} (i : Nat), lk h m = some v → ∃ j, findKey (.int .u64 h) (encM m) i = some (some (j, .str v))
  | [], _, hn => by cases hn
  | (k, v') :: m, i, hn => by
    simp only [lk] at hn
    split at hn
    · rename_i hk
      cases hn
      exact ⟨i, by simp only [encM, List.map_cons, findKey, eqv, if_true, hk, decide_true]⟩
    · rename_i hk
      obtain ⟨j, hj⟩ := find_some (m := m) (i + 1) hn
      exact ⟨j, by simp only [encM, List.map_cons, findKey, eqv, if_true, hk, decide_false]; exact hj⟩

theorem set_met {h : Int} {s : List UInt8} : ∀ {m : Met}, mapSet (.int .u64 h) (.str s) (encM m) = some (encM (updM h s m))
  | [] => rfl
  | (k, v) :: m => by
    by_cases hk : h = k
    · simp only [encM, List.map_cons, mapSet, eqv, if_true, hk, decide_true, updM]
    · have ih := set_met (h := h) (s := s) (m := m)
      simp only [encM, List.map_cons, mapSet, eqv, if_true, hk, decide_false, updM, if_false] at ih ⊢
      rw [ih]; rfl

theorem key25 (h : Int) : env.keyOk 25 (.int .u64 h) = true := rfl

/-- no two different strings have the same hash -/
def NoColl (l : List (List UInt8)) : Prop := ∀ s ∈ l, ∀ t ∈ l, hashS s = hashS t → s = t

theorem distinct_loop (c : Bool) (L : List (List UInt8)) (hL : L.length < 2 ^ 63) (hs : ∀ s ∈ L, s.length < 2 ^ 63) (v0 : AVal) : ∀ (n i : Nat) (met : Met) (j1 j4 j5 j6 j7 j8 j9 j13 j14 j15 j16 j17 j18 j19 j20 j21 j22 j23 j24 j25 j26 j27 j28 j29 j30 j31 j32 j33 : AVal), i + n = L.length → (∀ s ∈ L.take i, lk (hashS s) met = some s) →
    Goes (execT env (Try.f51.at [1, 1, 0, 1, 0]) ⟨[v0, j1, .bool false, .mapp 0, j4, j5, j6, j7, j8, j9, .lit c 1 (L.map .str), .int .i64 L.length, .int .i64 i, j13, j14, j15, j16, j17, j18, j19, j20, j21, j22, j23, j24, j25, j26, j27, j28, j29, j30, j31, j32, j33], [.map (encM met)], [], 0, []⟩) fun e s' =>
      (e = .ret ∧ ∃ m', ∃ j0 j1 j3 j4 j5 j6 j7 j8 j9 j10 j11 j12 j13 j14 j15 j16 j17 j18 j19 j20 j21 j22 j23 j24 j25 j26 j27 j28 j29 j30 j31 j32 j33, s' = ⟨[j0, j1, .bool false, j3, j4, j5, j6, j7, j8, j9, j10, j11, j12, j13, j14, j15, j16, j17, j18, j19, j20, j21, j22, j23, j24, j25, j26, j27, j28, j29, j30, j31, j32, j33], [.map (encM m')], [], 0, []⟩) ∨ (NoColl L ∧ e = .exit 0 ∧ ∃ m', ∃ j0 j1 j2 j3 j4 j5 j6 j7 j8 j9 j10 j11 j12 j13 j14 j15 j16 j17 j18 j19 j20 j21 j22 j23 j24 j25 j26 j27 j28 j29 j30 j31 j32 j33, s' = ⟨[j0, j1, j2, j3, j4, j5, j6, j7, j8, j9, j10, j11, j12, j13, j14, j15, j16, j17, j18, j19, j20, j21, j22, j23, j24, j25, j26, j27, j28, j29, j30, j31, j32, j33], [.map (encM m')], [], 0, []⟩) := by
  intro n
  induction n with
  | zero =>
    intro i met j1 j4 j5 j6 j7 j8 j9 j13 j14 j15 j16 j17 j18 j19 j20 j21 j22 j23 j24 j25 j26 j27 j28 j29 j30 j31 j32 j33 hi hmet
    have hd : decide ((i : Int) < (L.length : Int)) = false := by simp; omega
    rw [List.take_of_length_le (by omega)] at hmet
    have hnc : NoColl L := by
      intro s h1 t h2 h3
      have a := hmet s h1
      have b := hmet t h2
      rw [h3, b] at a
      cases a; rfl
    simp only [go_sem, Nat.reduceAdd, Nat.reduceSub, Nat.reduceMul, Nat.reduceDiv, Nat.reduceMod, Nat.reducePow, Nat.reduceLeDiff, Nat.reduceLT, Nat.reduceEqDiff, Nat.reduceBEq, Nat.reduceBNe, Int.reduceAdd, Int.reduceSub, Int.reduceMul, Int.reducePow, Int.reduceLE, Int.reduceLT, Int.reduceEq, Int.reduceToNat, Int.reduceNeg, reduceCtorEq, Nat.add_zero, Nat.zero_add, beq_self_eq_true, Try.f51]
    rw [execT_loop]
    simp only [go_sem, Nat.reduceAdd, Nat.reduceSub, Nat.reduceMul, Nat.reduceDiv, Nat.reduceMod, Nat.reducePow, Nat.reduceLeDiff, Nat.reduceLT, Nat.reduceEqDiff, Nat.reduceBEq, Nat.reduceBNe, Int.reduceAdd, Int.reduceSub, Int.reduceMul, Int.reducePow, Int.reduceLE, Int.reduceLT, Int.reduceEq, Int.reduceToNat, Int.reduceNeg, reduceCtorEq, Nat.add_zero, Nat.zero_add, beq_self_eq_true, hd]
    exact .inr ⟨hnc, met, _, _, _, _, _, _, _, _, _, _, _, _, _, _, _, _, _, _, _, _, _, _, _, _, _, _, _, _, _, _, _, _, _, _, rfl⟩
  | succ n ih =>
    intro i met j1 j4 j5 j6 j7 j8 j9 j13 j14 j15 j16 j17 j18 j19 j20 j21 j22 j23 j24 j25 j26 j27 j28 j29 j30 j31 j32 j33 hi hmet
    have hd : decide ((i : Int) < (L.length : Int)) = true := by simp; omega
    have h0 : (0 : Int) ≤ (i : Int) := by omega
    have hlt : i < L.length := by omega
    obtain ⟨s, hsx, hdr⟩ := get_drop hlt
    have hsm : s ∈ L := List.mem_of_getElem? hsx
    have hs' : (L.map AVal.str)[(i : Int).toNat]? = some (.str s) := get_map hsx
    have hh := hash_call s (hs s hsm)
    have ih' := ih (i + 1) (updM (hashS s) s met)
    simp only [go_sem, Nat.reduceAdd, Nat.reduceSub, Nat.reduceMul, Nat.reduceDiv, Nat.reduceMod, Nat.reducePow, Nat.reduceLeDiff, Nat.reduceLT, Nat.reduceEqDiff, Nat.reduceBEq, Nat.reduceBNe, Int.reduceAdd, Int.reduceSub, Int.reduceMul, Int.reducePow, Int.reduceLE, Int.reduceLT, Int.reduceEq, Int.reduceToNat, Int.reduceNeg, reduceCtorEq, Nat.add_zero, Nat.zero_add, beq_self_eq_true, Try.f51] at ih' ⊢
    rw [execT_loop]
    have htake : ∀ t, t ∈ L.take (i + 1) → t ∈ L.take i ∨ t = s := by
      intro t ht
      rw [List.take_add_one, hsx] at ht
      simpa using ht
    cases hl : lk (hashS s) met with
    | none =>
      have hf := find_none 0 hl
      simp only [go_sem, Nat.reduceAdd, Nat.reduceSub, Nat.reduceMul, Nat.reduceDiv, Nat.reduceMod, Nat.reducePow, Nat.reduceLeDiff, Nat.reduceLT, Nat.reduceEqDiff, Nat.reduceBEq, Nat.reduceBNe, Int.reduceAdd, Int.reduceSub, Int.reduceMul, Int.reducePow, Int.reduceLE, Int.reduceLT, Int.reduceEq, Int.reduceToNat, Int.reduceNeg, reduceCtorEq, Nat.add_zero, Nat.zero_add, beq_self_eq_true, hd, h0, hs', hh, key25, hf, set_met, wrap_succ (show i < 2 ^ 63 - 1 by omega)]
      refine ih' _ _ _ _ _ _ _ _ _ _ _ _ _ _ _ _ _ _ _ _ _ _ _ _ _ _ _ _ (by omega) (fun t ht => ?_)
      rw [lk_updM]
      rcases htake t ht with ht | rfl
      · split
        · rename_i he
          have := hmet t ht
          rw [he, hl] at this; cases this
        · exact hmet t ht
      · rw [if_pos rfl]
    | some v =>
      obtain ⟨j, hf⟩ := find_some 0 hl
      by_cases hv : v = s
      · subst hv
        simp only [go_sem, Nat.reduceAdd, Nat.reduceSub, Nat.reduceMul, Nat.reduceDiv, Nat.reduceMod, Nat.reducePow, Nat.reduceLeDiff, Nat.reduceLT, Nat.reduceEqDiff, Nat.reduceBEq, Nat.reduceBNe, Int.reduceAdd, Int.reduceSub, Int.reduceMul, Int.reducePow, Int.reduceLE, Int.reduceLT, Int.reduceEq, Int.reduceToNat, Int.reduceNeg, reduceCtorEq, Nat.add_zero, Nat.zero_add, beq_self_eq_true, hd, h0, hs', hh, key25, hf, set_met, wrap_succ (show i < 2 ^ 63 - 1 by omega)]
        refine ih' _ _ _ _ _ _ _ _ _ _ _ _ _ _ _ _ _ _ _ _ _ _ _ _ _ _ _ _ (by omega) (fun t ht => ?_)
        rw [lk_updM]
        rcases htake t ht with ht | rfl
        · split
          · rename_i he
            have := hmet t ht
            rw [he, hl] at this; exact this
          · exact hmet t ht
        · rw [if_pos rfl]
      · have hb : (v == s) = false := by simpa using hv
        simp only [go_sem, Nat.reduceAdd, Nat.reduceSub, Nat.reduceMul, Nat.reduceDiv, Nat.reduceMod, Nat.reducePow, Nat.reduceLeDiff, Nat.reduceLT, Nat.reduceEqDiff, Nat.reduceBEq, Nat.reduceBNe, Int.reduceAdd, Int.reduceSub, Int.reduceMul, Int.reducePow, Int.reduceLE, Int.reduceLT, Int.reduceEq, Int.reduceToNat, Int.reduceNeg, reduceCtorEq, Nat.add_zero, Nat.zero_add, beq_self_eq_true, hd, h0, hs', hh, key25, hf, hb]
        exact .inl ⟨_, _, _, _, _, _, _, _, _, _, _, _, _, _, _, _, _, _, _, _, _, _, _, _, _, _, _, _, _, _, _, _, _, _, rfl⟩

theorem distinct_call (c : Bool) (L : List (List UInt8)) (hL : L.length < 2 ^ 63) (hs : ∀ s ∈ L, s.length < 2 ^ 63) : ∃ b, (b = true → NoColl L) ∧ ∀ ro H nx, callT env 51 [.lit c 1 (L.map .str)] ro H nx = some (.ret (.bool b), .ups []) := by
  obtain ⟨e, s, hx, hp⟩ := distinct_loop c L hL hs (.lit c 1 (L.map .str)) L.length 0 [] _ _ _ _ _ _ _ _ _ _ _ _ _ _ _ _ _ _ _ _ _ _ _ _ _ _ _ _ (by omega) (by simp)
  simp only [go_sem, Nat.reduceAdd, Nat.reduceSub, Nat.reduceMul, Nat.reduceDiv, Nat.reduceMod, Nat.reducePow, Nat.reduceLeDiff, Nat.reduceLT, Nat.reduceEqDiff, Nat.reduceBEq, Nat.reduceBNe, Int.reduceAdd, Int.reduceSub, Int.reduceMul, Int.reducePow, Int.reduceLE, Int.reduceLT, Int.reduceEq, Int.reduceToNat, Int.reduceNeg, reduceCtorEq, Nat.add_zero, Nat.zero_add, beq_self_eq_true, Try.f51, Int.ofNat_zero, Int.natCast_zero, encM] at hx
  have hu : underL 0 [AVal.lit c 1 (L.map .str)] = true := rfl
  rcases hp with ⟨rfl, m', j0, j1, j3, j4, j5, j6, j7, j8, j9, j10, j11, j12, j13, j14, j15, j16, j17, j18, j19, j20, j21, j22, j23, j24, j25, j26, j27, j28, j29, j30, j31, j32, j33, rfl⟩ | ⟨hn, rfl, m', j0, j1, j2, j3, j4, j5, j6, j7, j8, j9, j10, j11, j12, j13, j14, j15, j16, j17, j18, j19, j20, j21, j22, j23, j24, j25, j26, j27, j28, j29, j30, j31, j32, j33, rfl⟩
  · refine ⟨false, by simp, fun ro H nx => ?_⟩
    refine call_pure (H' := [.map (encM m')]) rfl rfl rfl hu ?_ rfl ro H nx
    rw [run_unfold fn51 rfl]
    simp only [go_sem, Nat.reduceAdd, Nat.reduceSub, Nat.reduceMul, Nat.reduceDiv, Nat.reduceMod, Nat.reducePow, Nat.reduceLeDiff, Nat.reduceLT, Nat.reduceEqDiff, Nat.reduceBEq, Nat.reduceBNe, Int.reduceAdd, Int.reduceSub, Int.reduceMul, Int.reducePow, Int.reduceLE, Int.reduceLT, Int.reduceEq, Int.reduceToNat, Int.reduceNeg, reduceCtorEq, Nat.add_zero, Nat.zero_add, beq_self_eq_true, Try.f51, List.length_map]
    rw [hx]
    simp only [go_sem, Nat.reduceAdd, Nat.reduceSub, Nat.reduceMul, Nat.reduceDiv, Nat.reduceMod, Nat.reducePow, Nat.reduceLeDiff, Nat.reduceLT, Nat.reduceEqDiff, Nat.reduceBEq, Nat.reduceBNe, Int.reduceAdd, Int.reduceSub, Int.reduceMul, Int.reducePow, Int.reduceLE, Int.reduceLT, Int.reduceEq, Int.reduceToNat, Int.reduceNeg, reduceCtorEq, Nat.add_zero, Nat.zero_add, beq_self_eq_true, unwind, modeEx, resultsOf, one]
  · refine ⟨true, fun _ => hn, fun ro H nx => ?_⟩
    refine call_pure (H' := [.map (encM m')]) rfl rfl rfl hu ?_ rfl ro H nx
    rw [run_unfold fn51 rfl]
    simp only [go_sem, Nat.reduceAdd, Nat.reduceSub, Nat.reduceMul, Nat.reduceDiv, Nat.reduceMod, Nat.reducePow, Nat.reduceLeDiff, Nat.reduceLT, Nat.reduceEqDiff, Nat.reduceBEq, Nat.reduceBNe, Int.reduceAdd, Int.reduceSub, Int.reduceMul, Int.reducePow, Int.reduceLE, Int.reduceLT, Int.reduceEq, Int.reduceToNat, Int.reduceNeg, reduceCtorEq, Nat.add_zero, Nat.zero_add, beq_self_eq_true, Try.f51, List.length_map]
    rw [hx]
    simp only [go_sem, Nat.reduceAdd, Nat.reduceSub, Nat.reduceMul, Nat.reduceDiv, Nat.reduceMod, Nat.reducePow, Nat.reduceLeDiff, Nat.reduceLT, Nat.reduceEqDiff, Nat.reduceBEq, Nat.reduceBNe, Int.reduceAdd, Int.reduceSub, Int.reduceMul, Int.reducePow, Int.reduceLE, Int.reduceLT, Int.reduceEq, Int.reduceToNat, Int.reduceNeg, reduceCtorEq, Nat.add_zero, Nat.zero_add, beq_self_eq_true, unwind, modeEx, resultsOf, one]
end Go.Proofs.Ytamcncpgfhfheaa.Tidy

/-
  What a path proves, in plain terms.
-/
namespace Go.Proofs.Ytamcncpgfhfheaa.Tidy
open Go Go.IntWalk
set_option linter.unusedSimpArgs false

theorem eightL_inj : ∀ (k : Nat) (a b : Int), 0 ≤ a → 0 ≤ b → a ≤ 18446744073709551615 → b ≤ 18446744073709551615 → a < 256 ^ k → b < 256 ^ k → eightL k a = eightL k b → a = b
  | 0, a, b, ha, hb, _, _, ha', hb', _ => by
    rw [Int.pow_zero] at ha' hb'; omega
  | k + 1, a, b, ha, hb, hA, hB, ha', hb', h => by
    rw [Int.pow_succ] at ha' hb'
    simp only [eightL, List.cons.injEq] at h
    obtain ⟨h1, h2⟩ := h
    have w : ∀ n : Int, 0 ≤ n → n ≤ 18446744073709551615 → IntKind.u64.wrap (n.tdiv 256) = n / 256 := by
      intro n h0 h1
      rw [u64_quo n 256 ⟨h0, h1, by omega⟩]
    rw [w a ha hA, w b hb hB] at h2
    have e1 := bO_val ha
    have e2 := bO_val hb
    rw [h1, e2, IntKind.wrap_u8, IntKind.wrap_u8] at e1
    have hrec := eightL_inj k (a / 256) (b / 256) (by omega) (by omega) (by omega) (by omega) (by generalize (256 : Int) ^ k = m at ha' hb'; omega) (by generalize (256 : Int) ^ k = m at ha' hb'; omega) h2
    omega

def u64 (a : Int) : Prop := 0 ≤ a ∧ a ≤ 18446744073709551615

theorem nodeB_inj {a b c d : Int} (ha : u64 a) (hb : u64 b) (hc : u64 c) (hd : u64 d) (h : nodeB a b = nodeB c d) : a = c ∧ b = d := by
  unfold nodeB at h
  rw [List.append_assoc, List.append_assoc] at h
  have h1 := List.append_cancel_left h
  obtain ⟨h2, h3⟩ := List.append_inj h1 (by rw [eightL_length, eightL_length])
  have hp : (256 : Int) ^ 8 = 18446744073709551616 := by decide
  exact ⟨eightL_inj 8 a c ha.1 hc.1 ha.2 hc.2 (by have := ha.2; omega) (by have := hc.2; omega) h2, eightL_inj 8 b d hb.1 hd.1 hb.2 hd.2 (by have := hb.2; omega) (by have := hd.2; omega) h3⟩

theorem ok_range {e : Entry} (h : e.ok = true) : (0 ≤ e.office ∧ e.office < 8) ∧ (0 ≤ e.no ∧ e.no < 64) ∧ e.body.length ≤ 2400 := by
  unfold Entry.ok at h
  simp only [Bool.not_eq_true', Bool.or_eq_false_iff, decide_eq_false_iff_not] at h
  omega

theorem leafB_inj {e f : Entry} (he : e.ok = true) (hf : f.ok = true) (h : leafB e = leafB f) : e = f := by
  obtain ⟨⟨a1, a2⟩, ⟨a3, a4⟩, a5⟩ := ok_range he
  obtain ⟨⟨b1, b2⟩, ⟨b3, b4⟩, b5⟩ := ok_range hf
  unfold leafB at h
  simp only [List.append_assoc, List.cons_append, List.nil_append, List.cons.injEq] at h
  obtain ⟨_, h1, h2, _, _, h3⟩ := h
  have w : ∀ n : Int, 0 ≤ n → n < 256 → ((bO (IntKind.u64.wrap n)).toNat : Int) = n := by
    intro n h0 h1
    rw [u64_in n (by omega), bO_val h0, u8_in n (by omega)]
  have e1 := w e.office a1 (by omega)
  rw [h1, w f.office b1 (by omega)] at e1
  have e2 := w e.no a3 (by omega)
  rw [h2, w f.no b3 (by omega)] at e2
  cases e; cases f
  simp_all

theorem rootI_one (e : Entry) : rootI [e] = leafI e := rfl

theorem all_take {l : List Entry} (h : l.all Entry.ok = true) (k : Nat) : (l.take k).all Entry.ok = true := List.all_eq_true.2 fun e he => List.all_eq_true.1 h e (List.mem_of_mem_take he)
theorem all_drop {l : List Entry} (h : l.all Entry.ok = true) (k : Nat) : (l.drop k).all Entry.ok = true := List.all_eq_true.2 fun e he => List.all_eq_true.1 h e (List.mem_of_mem_drop he)

theorem top_mem (l : List Entry) : topB l ∈ hashedS l := by
  obtain ⟨a, h⟩ := hashedS_last l
  rw [h]; simp
theorem up_mem (s : List UInt8) (r : List Int) (many pos : Nat) : upT s many pos r ∈ upS s many pos r := by
  obtain ⟨a, h⟩ := upS_last s r many pos
  rw [h]; simp

/-- the path of an entry makes the root -/
theorem climb_path : ∀ (n : Nat) (l : List Entry) (pos : Nat) (e : Entry), l.length ≤ n → l[pos]? = some e → climbR (leafI e) l.length pos (pathR rootI l pos) = (rootI l, true)
  | n, l, pos, e, hn, he => by
    have hlt : pos < l.length := (List.getElem?_eq_some_iff.1 he).1
    by_cases h1 : l.length ≤ 1
    · obtain ⟨x, rfl⟩ := List.length_eq_one_iff.1 (show l.length = 1 by omega)
      obtain rfl : pos = 0 := by simp at hlt; exact hlt
      cases he
      rw [pathR_one (by simp)]
      rfl
    · obtain ⟨m, rfl⟩ : ∃ m, n = m + 1 := ⟨n - 1, by omega⟩
      have hs := splitS_lt (n := l.length) (by omega)
      by_cases hp : pos < splitS l.length
      · have ih := climb_path m (l.take (splitS l.length)) pos e (by rw [List.length_take]; omega) (by rw [List.getElem?_take, if_pos hp]; exact he)
        rw [List.length_take, Nat.min_eq_left (by omega)] at ih
        rw [pathR_left (by omega) hp, climbR_cons, if_neg (by omega), if_pos hp, ih, rootI_two (l := l) (by omega)]
      · have ih := climb_path m (l.drop (splitS l.length)) (pos - splitS l.length) e (by rw [List.length_drop]; omega) (by rw [List.getElem?_drop, show splitS l.length + (pos - splitS l.length) = pos by omega]; exact he)
        rw [List.length_drop] at ih
        rw [pathR_right (by omega) hp, climbR_cons, if_neg (by omega), if_neg hp, ih, rootI_two (l := l) (by omega)]

theorem pathR_u64 : ∀ (n : Nat) (l : List Entry) (pos : Nat), l.length ≤ n → u64s (pathR rootI l pos)
  | n, l, pos, hn => by
    by_cases h1 : l.length ≤ 1
    · rw [pathR_one h1]; intro x hx; cases hx
    · obtain ⟨m, rfl⟩ : ∃ m, n = m + 1 := ⟨n - 1, by omega⟩
      have hs := splitS_lt (n := l.length) (by omega)
      by_cases hp : pos < splitS l.length
      · rw [pathR_left (by omega) hp]
        intro x hx
        rcases List.mem_cons.1 hx with rfl | hx
        · exact root_range _
        · exact pathR_u64 m _ _ (by rw [List.length_take]; omega) x hx
      · rw [pathR_right (by omega) hp]
        intro x hx
        rcases List.mem_cons.1 hx with rfl | hx
        · exact root_range _
        · exact pathR_u64 m _ _ (by rw [List.length_drop]; omega) x hx

/-- without a collision a path proves what it says, and is the path -/
theorem climb_only {S : List (List UInt8)} (hS : NoColl S) {e : Entry} (heo : e.ok = true) : ∀ (r : List Int) (l : List Entry) (pos : Nat), pos < l.length → l.all Entry.ok = true → u64s r → (∀ s ∈ hashedS l, s ∈ S) → (∀ s ∈ upS (leafB e) l.length pos r, s ∈ S) →
    climbR (leafI e) l.length pos r = (rootI l, true) → l[pos]? = some e ∧ r = pathR rootI l pos
  | [], l, pos, hp, hl, _, h1, h2, h => by
    have hle : hashS (leafB e) = leafI e := leaf_eq e (by have := (ok_range heo).2.2; omega)
    simp only [climbR, Prod.mk.injEq, decide_eq_true_eq] at h
    obtain ⟨x, rfl⟩ := List.length_eq_one_iff.1 h.2
    obtain rfl : pos = 0 := by simp at hp; exact hp
    have hx : x.ok = true := by simpa using hl
    have hlx : hashS (leafB x) = leafI x := leaf_eq x (by have := (ok_range hx).2.2; omega)
    have ha : leafB x ∈ S := h1 _ (by rw [← topB_one x]; exact top_mem [x])
    have hb : leafB e ∈ S := h2 _ (by simp [upS])
    have := hS _ hb _ ha (by rw [hle, hlx]; exact h.1)
    obtain rfl := leafB_inj heo hx this
    exact ⟨rfl, by rw [pathR_one (by simp)]⟩
  | h :: r, l, pos, hp, hl, hu, h1, h2, hc => by
    have hle : hashS (leafB e) = leafI e := leaf_eq e (by have := (ok_range heo).2.2; omega)
    have hh : u64 h := hu h (by simp)
    have hu' : u64s r := fun x hx => hu x (by simp [hx])
    have hlr := leaf_range e
    rw [climbR_cons] at hc
    by_cases hm : l.length = 1
    · rw [if_pos hm] at hc
      exact absurd (congrArg Prod.snd hc) (by simp)
    · have hs := splitS_lt (n := l.length) (by omega)
      rw [if_neg hm] at hc
      have htop : topB l ∈ S := h1 _ (top_mem l)
      have hup : upT (leafB e) l.length pos (h :: r) ∈ S := h2 _ (up_mem _ _ _ _)
      rw [topB_two (by omega)] at htop
      rw [upT_cons, if_neg (by omega), hle] at hup
      rw [hashedS_two (by omega)] at h1
      have h2' : ∀ s ∈ (if pos < splitS l.length then upS (leafB e) (splitS l.length) pos r else upS (leafB e) (l.length - splitS l.length) (pos - splitS l.length) r), s ∈ S := by
        intro s hs'
        refine h2 s ?_
        simp only [upS]
        rw [if_neg (show ¬ l.length ≤ 1 by omega)]
        exact List.mem_append_left _ hs'
      have n1 := root_range (l.take (splitS l.length))
      have n2 := root_range (l.drop (splitS l.length))
      rw [rootI_two (l := l) (by omega)] at hc
      have hsm := all_small hl
      by_cases hlt : pos < splitS l.length
      · rw [if_pos hlt] at hc hup h2'
        have c1 : u64 (climbR (leafI e) (splitS l.length) pos r).1 := climbR_range hlr _ _ _
        simp only [Prod.mk.injEq] at hc
        have := hS _ hup _ htop (by rw [node_eq c1.1 c1.2 hh.1 hh.2, node_eq n1.1 n1.2 n2.1 n2.2]; exact hc.1)
        obtain ⟨e1, e2⟩ := nodeB_inj c1 hh n1 n2 this
        obtain ⟨k1, k2⟩ := climb_only hS heo r (l.take (splitS l.length)) pos (by rw [List.length_take]; omega) (all_take hl _) hu' (fun s hs' => h1 s (List.mem_append_left _ hs'))
          (by rw [List.length_take, Nat.min_eq_left (by omega)]; exact h2') (by rw [List.length_take, Nat.min_eq_left (by omega)]; exact Prod.ext e1 hc.2)
        rw [List.getElem?_take, if_pos hlt] at k1
        exact ⟨k1, by rw [pathR_left (by omega) hlt, ← k2, e2]⟩
      · rw [if_neg hlt] at hc hup h2'
        have c1 : u64 (climbR (leafI e) (l.length - splitS l.length) (pos - splitS l.length) r).1 := climbR_range hlr _ _ _
        simp only [Prod.mk.injEq] at hc
        have := hS _ hup _ htop (by rw [node_eq hh.1 hh.2 c1.1 c1.2, node_eq n1.1 n1.2 n2.1 n2.2]; exact hc.1)
        obtain ⟨e1, e2⟩ := nodeB_inj hh c1 n1 n2 this
        obtain ⟨k1, k2⟩ := climb_only hS heo r (l.drop (splitS l.length)) (pos - splitS l.length) (by rw [List.length_drop]; omega) (all_drop hl _) hu' (fun s hs' => h1 s (List.mem_append_right _ (List.mem_append_left _ hs')))
          (by rw [List.length_drop]; exact h2') (by rw [List.length_drop]; exact Prod.ext e2 hc.2)
        rw [List.getElem?_drop, show splitS l.length + (pos - splitS l.length) = pos by omega] at k1
        exact ⟨k1, by rw [pathR_right (by omega) hlt, ← k2, e1]⟩
end Go.Proofs.Ytamcncpgfhfheaa.Tidy

/-
  The law of what paths prove, run.
-/
namespace Go.Proofs.Ytamcncpgfhfheaa.Tidy
open Go Go.IntWalk
set_option maxRecDepth 10000
set_option linter.unusedSimpArgs false

theorem hashedS_small : ∀ (n : Nat) (l : List Entry), l.length ≤ n → small l → ∀ s ∈ hashedS l, s.length < 2 ^ 63
  | n, l, hn, hsm, s, hs => by
    by_cases h1 : l.length ≤ 1
    · rw [hashedS_one h1] at hs
      obtain rfl : s = topB l := by simpa using hs
      exact topB_length hsm
    · obtain ⟨m, rfl⟩ : ∃ m, n = m + 1 := ⟨n - 1, by omega⟩
      have hk := splitS_lt (n := l.length) (by omega)
      rw [hashedS_two (by omega)] at hs
      rcases List.mem_append.1 hs with hs | hs
      · exact hashedS_small m _ (by rw [List.length_take]; omega) (hsm.take _) s hs
      · rcases List.mem_append.1 hs with hs | hs
        · exact hashedS_small m _ (by rw [List.length_drop]; omega) (hsm.drop _) s hs
        · obtain rfl : s = topB l := by simpa using hs
          exact topB_length hsm

theorem upS_small {s0 : List UInt8} (h0 : s0.length < 2 ^ 63) : ∀ (r : List Int) (many pos : Nat), ∀ s ∈ upS s0 many pos r, s.length < 2 ^ 63
  | [], many, pos, s, hs => by
    obtain rfl : s = s0 := by simpa [upS] using hs
    exact h0
  | h :: r, many, pos, s, hs => by
    simp only [upS] at hs
    split at hs
    · obtain rfl : s = s0 := by simpa using hs
      exact h0
    · rcases List.mem_append.1 hs with hs | hs
      · split at hs
        · exact upS_small h0 r _ _ s hs
        · exact upS_small h0 r _ _ s hs
      · obtain rfl : s = upT s0 many pos (h :: r) := by simpa using hs
        exact upT_length s0 h0 _ _ _

/-- two lists of strings in a block, joined: both by value, or the second one a block -/
theorem join2_call (ca : Bool) (A B : List (List UInt8)) (hA : A ≠ []) (hl : A.length + B.length < 2 ^ 40) (b0 : Blk) {u : AVal} {us : Ups} (hu : VecB 1 1 u us (B.map .str)) (hB : B ≠ []) :
    ∃ c n, ∃ ws : Ups, n = (putU [b0] us).length ∧ (∀ nx, callT env 52 [.ref n 0 0 2 false] 0 (putU (putU [b0] us) [(n, .cells 0 1 false [.lit ca 1 (A.map .str), u])]) nx = some (.ret (.lit c 1 ((A ++ B).map .str)), .ups ws)) ∧
      ((us = [] ∧ ws = [(1, .dead)] ∧ n = 1) ∨ (∃ b, us = [(1, b)] ∧ ws = [(2, .dead), (1, .dead)] ∧ n = 2)) := by
  have hrun := concat_run false [⟨ca, 1, A⟩, ⟨true, 1, B⟩] (by intro p hp; simp only [List.mem_cons, List.not_mem_nil, or_false] at hp; rcases hp with rfl | rfl <;> exact .inr rfl) (by simp) (by have := List.length_pos_iff.2 hA; simp [total]; omega) (by simpa [total] using hl)
  have hrun2 := concat_run false [⟨ca, 1, A⟩, ⟨false, 1, B⟩] (by intro p hp; simp only [List.mem_cons, List.not_mem_nil, or_false] at hp; rcases hp with rfl | rfl <;> exact .inr rfl) (by simp) (by have := List.length_pos_iff.2 hA; simp [total]; omega) (by simpa [total] using hl)
  have hj : ∀ c1 c2 : Bool, joined [⟨c1, 1, A⟩, ⟨c2, 1, B⟩] = A ++ B := fun _ _ => by simp [joined]
  rw [hj] at hrun hrun2
  simp only [List.map_cons, List.map_nil, Strs.enc] at hrun hrun2
  have hne : (A ++ B).map AVal.str ≠ [] := by simp [hA]
  have hback : ∀ (nx : Nat) (ids : List Nat), ids ≠ [] → callBack (env.hint 52) 0 nx [] ids (.ret (.ref 0 0 0 (A ++ B).length false), [.cells 0 1 true ((A ++ B).map .str)]) = some (.ret (.lit false 1 ((A ++ B).map .str)), .ups (ids.map (·, .dead))) := by
    intro nx ids hids
    have h1 : ids.isEmpty = false := by cases ids <;> simp_all
    have h3 : ((A ++ B).map AVal.str).isEmpty = false := by
      cases h : (A ++ B).map AVal.str with
      | nil => exact absurd h hne
      | cons _ _ => rfl
    have h2 : handBack [.cells 0 1 true ((A ++ B).map .str)] 0 [] 4 (.ref 0 0 0 (A ++ B).length false) = some (.lit false 1 ((A ++ B).map .str)) := by
      have h1 : List.take (A ++ B).length ((A ++ B).map AVal.str) = (A ++ B).map AVal.str := List.take_of_length_le (by simp)
      simp only [handBack, Nat.not_lt_zero, decide_false, List.contains_nil, Bool.or_self, Bool.false_eq_true, if_false]
      simp only [toLit, noRef, AVal.under, Nat.not_lt_zero, decide_false, Bool.false_eq_true, if_false, List.getElem?_cons_zero, List.length_map, Nat.zero_add, Nat.le_refl, decide_true, List.contains_nil, Bool.not_false, Bool.and_true, if_true, List.drop_zero, h1, Nat.zero_le]
    simp only [callBack, hint52, keepOf, Bool.false_eq_true, if_false, List.filter_nil, uniq, getAll, List.length_nil, h2, h1, AVal.noLit, h3, Bool.false_and, Bool.or_false, Nat.zero_le, decide_true, List.all_eq_true, implies_true, if_true, AVal.ren, callUpd, List.map_nil, numbered]
    rfl
  rcases hu with ⟨s, rfl, rfl, hs⟩ | ⟨g, rfl, rfl, _⟩
  · obtain rfl : s = 1 := hs.resolve_left (by simpa using hB)
    refine ⟨false, 1, [(1, .dead)], rfl, fun nx => ?_, .inl ⟨rfl, rfl, rfl⟩⟩
    rw [call_lent1 (E := env) (f := 52) (u := .lit false 1 [.lit ca 1 (A.map .str), .lit true 1 (B.map .str)]) (ids := [1]) rfl rfl rfl ?_ rfl hrun]
    · exact hback nx [1] (by simp)
    · rfl
  · refine ⟨false, 2, [(2, .dead), (1, .dead)], rfl, fun nx => ?_, .inr ⟨_, rfl, rfl, rfl⟩⟩
    rw [call_lent1 (E := env) (f := 52) (u := .lit false 1 [.lit ca 1 (A.map .str), .lit false 1 (B.map .str)]) (ids := [2, 1]) rfl rfl rfl ?_ rfl hrun2]
    · exact hback nx [2, 1] (by simp)
    · have h1 : List.take (B.map AVal.str).length (B.map AVal.str) = B.map AVal.str := List.take_of_length_le (Nat.le_refl _)
      rw [List.length_map] at h1
      simp [putU, toLit, noRef, AVal.under, mapO, h1]

def entryEq (e x : Entry) : Bool := decide (e.office = x.office) && (decide (e.no = x.no) && (e.body == x.body))
theorem entryEq_iff (e x : Entry) : entryEq e x = true ↔ e = x := by
  unfold entryEq
  simp only [Bool.and_eq_true, decide_eq_true_eq, beq_iff_eq]
  constructor
  · rintro ⟨h1, h2, h3⟩; cases e; cases x; simp_all
  · rintro rfl; exact ⟨rfl, rfl, rfl⟩
@[go_sem] theorem bin_entry (e x : Entry) {t : TI} {fs : List (Nat × Nat)} {n m : Nat} {z : AVal} (ht : t = ⟨.struct fs, n, m, z⟩) : binOp env .eql 23 t e.enc x.enc = some (.bool (entryEq e x)) := by
  subst ht
  have h : env.keyOk 23 e.enc = true := rfl
  unfold Entry.enc at h ⊢
  simp only [binOp, eqOp, h, if_true, eqvL, eqv, Option.map_some, entryEq, Bool.and_true]
@[go_sem] theorem bin_entry1 (e x : Entry) {fs : List (Nat × Nat)} {n m : Nat} {z : AVal} : binOp env .eql 23 ⟨.struct fs, n, m, z⟩ e.enc x.enc = some (.bool (entryEq e x)) := bin_entry e x rfl

theorem chkPath_zero {root many pos : Int} {e : Entry} {p : List Int} (h : chkPathS root many pos e p = 0) : e.ok = true ∧ climbR (leafI e) many.toNat pos.toNat p.reverse = (root, true) := by
  unfold chkPathS at h
  split at h
  · rename_i ho
    split at h
    · cases h
    · split at h
      · rename_i hc
        simp only [Bool.and_eq_true, decide_eq_true_eq] at hc
        exact ⟨ho, Prod.ext hc.2 hc.1⟩
      · cases h
  · cases h

set_option maxHeartbeats 4000000 in
theorem proves_law (a0 a1 a2 a3 : List AVal) (h0 : FitT env 8 24 a0) (h1 : FitT env 8 3 a1) (h2 : FitT env 8 23 a2) (h3 : FitT env 8 35 a3) :
    ∃ H', runT env 8 [pack ⟨.slice 23, 1, 24, .lit true 0 []⟩ a0, pack ⟨.int .i64, 1, 8, .int .i64 (0)⟩ a1, pack ⟨.struct [(3, 0), (3, 1), (9, 2)], 3, 32, .agg [.int .i64 (0), .int .i64 (0), .str []]⟩ a2, pack ⟨.slice 25, 1, 24, .lit true 0 []⟩ a3] [] 0 = some (.ret (.bool true), H') := by
  obtain ⟨cl, l, rfl, hl⟩ := fit_entries h0
  obtain ⟨pos, rfl, _⟩ := fit_int ti3 h1
  obtain ⟨e, he, _⟩ := fit_entry h2
  obtain ⟨cp, p, rfl, hp, hu⟩ := fit_u64s h3
  rw [pack_entry he]
  have hlen : l.length < 2 ^ 63 := by unfold maxLen at hl; omega
  have hpl : p.length < 2 ^ 63 := by unfold maxLen at hp; omega
  show ∃ H', runT env 8 [.lit cl 3 (l.map Entry.enc), .int .i64 pos, e.enc, .lit cp 1 (p.map (.int .u64))] [] 0 = some (.ret (.bool true), H')
  rw [run_unfold fn8 rfl]
  cases h40 : decide (40 < (l.length : Int)) with
  | true =>
    simp only [go_sem, Nat.reduceAdd, Nat.reduceSub, Nat.reduceMul, Nat.reduceDiv, Nat.reduceMod, Nat.reducePow, Nat.reduceLeDiff, Nat.reduceLT, Nat.reduceEqDiff, Nat.reduceBEq, Nat.reduceBNe, Int.reduceAdd, Int.reduceSub, Int.reduceMul, Int.reducePow, Int.reduceLE, Int.reduceLT, Int.reduceEq, Int.reduceToNat, Int.reduceNeg, reduceCtorEq, Nat.add_zero, Nat.zero_add, beq_self_eq_true, Try.f8, h40, List.length_map, unwind, modeEx, resultsOf, one]
    exact ⟨_, rfl⟩
  | false =>
  cases hf : fewS l with
  | false =>
    simp only [go_sem, Nat.reduceAdd, Nat.reduceSub, Nat.reduceMul, Nat.reduceDiv, Nat.reduceMod, Nat.reducePow, Nat.reduceLeDiff, Nat.reduceLT, Nat.reduceEqDiff, Nat.reduceBEq, Nat.reduceBNe, Int.reduceAdd, Int.reduceSub, Int.reduceMul, Int.reducePow, Int.reduceLE, Int.reduceLT, Int.reduceEq, Int.reduceToNat, Int.reduceNeg, reduceCtorEq, Nat.add_zero, Nat.zero_add, beq_self_eq_true, Try.f8, few_call cl l hlen, h40, hf, List.length_map, unwind, modeEx, resultsOf, one]
    exact ⟨_, rfl⟩
  | true =>
  cases hk : decide (40 < (p.length : Int)) with
  | true =>
    simp only [go_sem, Nat.reduceAdd, Nat.reduceSub, Nat.reduceMul, Nat.reduceDiv, Nat.reduceMod, Nat.reducePow, Nat.reduceLeDiff, Nat.reduceLT, Nat.reduceEqDiff, Nat.reduceBEq, Nat.reduceBNe, Int.reduceAdd, Int.reduceSub, Int.reduceMul, Int.reducePow, Int.reduceLE, Int.reduceLT, Int.reduceEq, Int.reduceToNat, Int.reduceNeg, reduceCtorEq, Nat.add_zero, Nat.zero_add, beq_self_eq_true, Try.f8, few_call cl l hlen, h40, hf, hk, List.length_map, unwind, modeEx, resultsOf, one]
    exact ⟨_, rfl⟩
  | false =>
  cases hn : decide (pos < 0) with
  | true =>
    simp only [go_sem, Nat.reduceAdd, Nat.reduceSub, Nat.reduceMul, Nat.reduceDiv, Nat.reduceMod, Nat.reducePow, Nat.reduceLeDiff, Nat.reduceLT, Nat.reduceEqDiff, Nat.reduceBEq, Nat.reduceBNe, Int.reduceAdd, Int.reduceSub, Int.reduceMul, Int.reducePow, Int.reduceLE, Int.reduceLT, Int.reduceEq, Int.reduceToNat, Int.reduceNeg, reduceCtorEq, Nat.add_zero, Nat.zero_add, beq_self_eq_true, Try.f8, few_call cl l hlen, h40, hf, hk, hn, List.length_map, unwind, modeEx, resultsOf, one]
    exact ⟨_, rfl⟩
  | false =>
  cases hg : decide ((l.length : Int) ≤ pos) with
  | true =>
    simp only [go_sem, Nat.reduceAdd, Nat.reduceSub, Nat.reduceMul, Nat.reduceDiv, Nat.reduceMod, Nat.reducePow, Nat.reduceLeDiff, Nat.reduceLT, Nat.reduceEqDiff, Nat.reduceBEq, Nat.reduceBNe, Int.reduceAdd, Int.reduceSub, Int.reduceMul, Int.reducePow, Int.reduceLE, Int.reduceLT, Int.reduceEq, Int.reduceToNat, Int.reduceNeg, reduceCtorEq, Nat.add_zero, Nat.zero_add, beq_self_eq_true, Try.f8, few_call cl l hlen, h40, hf, hk, hn, hg, List.length_map, unwind, modeEx, resultsOf, one]
    exact ⟨_, rfl⟩
  | false =>
  have h40' : ¬ (40 < (l.length : Int)) := by simpa using h40
  have hk' : ¬ (40 < (p.length : Int)) := by simpa using hk
  have hn' : ¬ (pos < 0) := by simpa using hn
  have hg' : ¬ ((l.length : Int) ≤ pos) := by simpa using hg
  have c18 := rootT_call cl l hlen
  obtain ⟨c1, s1, hs1, c24⟩ := Path_call cl l pos hlen
  by_cases hc : chkS l = 0
  · have hcd : decide (chkS l = 0) = true := by simpa using hc
    obtain ⟨hl512, hall⟩ := chk_zero hc
    obtain ⟨q, rfl⟩ : ∃ q : Nat, pos = q := ⟨pos.toNat, by omega⟩
    have hq : q < l.length := by omega
    obtain ⟨x, hx, _⟩ := get_drop hq
    have hps : pathS l q = ((pathR rootI l q).reverse, 0) := by
      unfold pathS
      rw [if_pos hc, if_neg (by rintro (h | h) <;> contradiction), Int.toNat_natCast]
    rw [hps] at hs1 c24
    simp only at hs1 c24
    simp only [rootT, hc, if_true] at c18
    have hxo : x.ok = true := List.all_eq_true.1 hall x (List.mem_of_getElem? hx)
    have hpu := pathR_u64 _ l q (Nat.le_refl _)
    have hpl2 := pathR_length rootI _ l q (Nat.le_refl _)
    have hcl := climb_path _ l q x (Nat.le_refl _) hx
    have c27 : ∀ ro H nx, callT env 27 [.int .u64 (rootI l), .int .i64 l.length, .int .i64 q, x.enc, .lit c1 s1 ((pathR rootI l q).reverse.map (.int .u64))] ro H nx = some (.ret (.int .i64 0), .ups []) := by
      intro ro H nx
      rw [CheckPath_call (rootI l) l.length q x c1 s1 (pathR rootI l q).reverse (fun y hy => hpu y (by simpa using hy)) (by simp; omega) hs1]
      have d1 : decide ((l.length : Int) < 1) = false := by simp; omega
      have d2 : decide (512 < (l.length : Int)) = false := by simp; omega
      have d3 : decide ((q : Int) < 0) = false := by simp
      have d4 : decide ((l.length : Int) ≤ (q : Int)) = false := by simp; omega
      simp only [chkPathS, hxo, if_true, d1, d2, d3, d4, Bool.or_false, Bool.false_eq_true, if_false, List.reverse_reverse, Int.toNat_natCast, hcl, decide_true, Bool.and_true]
    have c27' := fun ro H nx => CheckPath_call (rootI l) l.length q e cp 1 p hu hpl (.inr rfl) ro H nx
    have g0 : (0 : Int) ≤ (q : Int) := by omega
    have gx : (l.map Entry.enc)[q]? = some x.enc := get_map hx
    by_cases hz : chkPathS (rootI l) l.length q e p = 0
    · have hzd : decide (chkPathS (rootI l) l.length q e p = 0) = true := by simpa using hz
      obtain ⟨heo, hce⟩ := chkPath_zero hz
      simp only [Int.toNat_natCast] at hce
      have c26 := fun ro H nx => equal_call c1 cp s1 1 (pathR rootI l q).reverse p hs1 (.inr rfl) (by simp; omega) ro H nx
      by_cases hsame : entryEq e x = true ∧ (pathR rootI l q).reverse = p
      · obtain ⟨hex, hpp⟩ := hsame
        subst hpp
        simp only [go_sem, Nat.reduceAdd, Nat.reduceSub, Nat.reduceMul, Nat.reduceDiv, Nat.reduceMod, Nat.reducePow, Nat.reduceLeDiff, Nat.reduceLT, Nat.reduceEqDiff, Nat.reduceBEq, Nat.reduceBNe, Int.reduceAdd, Int.reduceSub, Int.reduceMul, Int.reducePow, Int.reduceLE, Int.reduceLT, Int.reduceEq, Int.reduceToNat, Int.reduceNeg, reduceCtorEq, Nat.add_zero, Nat.zero_add, beq_self_eq_true, Try.f8, few_call cl l hlen, h40, hf, hk, hn, hg, List.length_map, c18, c24, c27, c27', Int.toNat_natCast, g0, gx, hzd, hex, c26, unwind, modeEx, resultsOf, one]
        exact ⟨_, rfl⟩
      · have hbody := (ok_range heo).2.2
        obtain ⟨ch, c53⟩ := hashed_call cl l hl512 (all_small hall)
        have c55 := leafBytes_call e (by omega)
        have hup := up_call (leafB e) (by rw [leafB_length]; omega) p.reverse (fun y hy => hu y (by simpa using hy)) (by simp; omega) l.length q cp 1 (by omega) hl512 hq (.inr rfl) 0 [.cells 0 3 true [e.enc]] 1
        rw [List.reverse_reverse] at hup
        obtain ⟨u, us, c54, huv⟩ := hup
        have hA : hashedS l ≠ [] := List.ne_nil_of_mem (top_mem l)
        have hB : upS (leafB e) l.length q p.reverse ≠ [] := List.ne_nil_of_mem (up_mem _ _ _ _)
        have lA := (hashedS_length _ l (Nat.le_refl _)).1
        have lB := upS_length (leafB e) p.reverse l.length q
        rw [List.length_reverse] at lB
        obtain ⟨c, n, ws, hnn, c52, hcases⟩ := join2_call ch (hashedS l) (upS (leafB e) l.length q p.reverse) hA (by omega) (.cells 0 3 true [e.enc]) huv hB
        obtain ⟨b, hb, c51⟩ := distinct_call c (hashedS l ++ upS (leafB e) l.length q p.reverse) (by rw [List.length_append]; omega) (by
          intro s hs
          rcases List.mem_append.1 hs with hs | hs
          · exact hashedS_small _ l (Nat.le_refl _) (all_small hall) s hs
          · exact upS_small (by rw [leafB_length]; omega) _ _ _ s hs)
        have hbf : b = false := by
          cases b with
          | false => rfl
          | true =>
            exfalso
            obtain ⟨k1, k2⟩ := climb_only (hb rfl) heo p.reverse l q hq hall (fun y hy => hu y (by simpa using hy)) (fun s hs => List.mem_append_left _ hs) (fun s hs => List.mem_append_right _ hs) hce
            rw [hx] at k1
            cases k1
            exact hsame ⟨(entryEq_iff _ _).2 rfl, by rw [← k2, List.reverse_reverse]⟩
        subst hbf
        have hsm : (entryEq e x && decide ((pathR rootI l q).reverse = p)) = false := by
          cases h1 : entryEq e x with
          | false => rfl
          | true => simp only [Bool.true_and, decide_eq_false_iff_not]; exact fun h => hsame ⟨h1, h⟩
        cases hex : entryEq e x with
        | false =>
          rcases huv with ⟨s, rfl, rfl, hs⟩ | ⟨g, rfl, rfl, _⟩
          · rcases hcases with ⟨_, rfl, rfl⟩ | ⟨b, hb', _⟩
            · have c52' : ∀ nx, callT env 52 [.ref 1 0 0 2 false] 0 [.cells 0 3 true [e.enc], .cells 0 1 false [.lit ch 1 ((hashedS l).map .str), .lit true s ((upS (leafB e) l.length q p.reverse).map .str)]] nx = some (.ret (.lit c 1 ((hashedS l ++ upS (leafB e) l.length q p.reverse).map .str)), .ups [(1, .dead)]) := c52
              have hlk : looks [.cells 0 3 true [e.enc], .cells 0 1 false [.lit ch 1 ((hashedS l).map .str), .lit true s ((upS (leafB e) l.length q p.reverse).map .str)]] fuel0 [1] [] = some [1] := rfl
              simp only [go_sem, Nat.reduceAdd, Nat.reduceSub, Nat.reduceMul, Nat.reduceDiv, Nat.reduceMod, Nat.reducePow, Nat.reduceLeDiff, Nat.reduceLT, Nat.reduceEqDiff, Nat.reduceBEq, Nat.reduceBNe, Int.reduceAdd, Int.reduceSub, Int.reduceMul, Int.reducePow, Int.reduceLE, Int.reduceLT, Int.reduceEq, Int.reduceToNat, Int.reduceNeg, reduceCtorEq, Nat.add_zero, Nat.zero_add, beq_self_eq_true, Try.f8, few_call cl l hlen, h40, hf, hk, hn, hg, List.length_map, c18, c24, c27, c27', Int.toNat_natCast, g0, gx, hzd, hex, c26, c53, c55, c54, c52', hlk, c51]
              rw [apart_ok]
              · simp only [go_sem, Nat.reduceAdd, Nat.reduceSub, Nat.reduceMul, Nat.reduceDiv, Nat.reduceMod, Nat.reducePow, Nat.reduceLeDiff, Nat.reduceLT, Nat.reduceEqDiff, Nat.reduceBEq, Nat.reduceBNe, Int.reduceAdd, Int.reduceSub, Int.reduceMul, Int.reducePow, Int.reduceLE, Int.reduceLT, Int.reduceEq, Int.reduceToNat, Int.reduceNeg, reduceCtorEq, Nat.add_zero, Nat.zero_add, beq_self_eq_true, unwind, modeEx, resultsOf, one]
                exact ⟨_, rfl⟩
              · kernel_rfl
            · cases hb'
          · rcases hcases with ⟨hb', _⟩ | ⟨b, hb', rfl, rfl⟩
            · cases hb'
            · cases hb'
              have c52' : ∀ nx, callT env 52 [.ref 2 0 0 2 false] 0 [.cells 0 3 true [e.enc], .cells g 1 true ((upS (leafB e) l.length q p.reverse).map .str), .cells 0 1 false [.lit ch 1 ((hashedS l).map .str), .ref 1 g 0 ((upS (leafB e) l.length q p.reverse).map AVal.str).length false]] nx = some (.ret (.lit c 1 ((hashedS l ++ upS (leafB e) l.length q p.reverse).map .str)), .ups [(2, .dead), (1, .dead)]) := c52
              have hlk : looks [.cells 0 3 true [e.enc], .cells g 1 true ((upS (leafB e) l.length q p.reverse).map .str), .cells 0 1 false [.lit ch 1 ((hashedS l).map .str), .ref 1 g 0 ((upS (leafB e) l.length q p.reverse).map AVal.str).length false]] fuel0 [2] [] = some [2, 1] := rfl
              simp only [List.length_map] at c52' hlk c54
              simp only [go_sem, Nat.reduceAdd, Nat.reduceSub, Nat.reduceMul, Nat.reduceDiv, Nat.reduceMod, Nat.reducePow, Nat.reduceLeDiff, Nat.reduceLT, Nat.reduceEqDiff, Nat.reduceBEq, Nat.reduceBNe, Int.reduceAdd, Int.reduceSub, Int.reduceMul, Int.reducePow, Int.reduceLE, Int.reduceLT, Int.reduceEq, Int.reduceToNat, Int.reduceNeg, reduceCtorEq, Nat.add_zero, Nat.zero_add, beq_self_eq_true, Try.f8, few_call cl l hlen, h40, hf, hk, hn, hg, List.length_map, c18, c24, c27, c27', Int.toNat_natCast, g0, gx, hzd, hex, c26, c53, c55, c54, c52', hlk, c51]
              rw [apart_ok]
              · simp only [go_sem, Nat.reduceAdd, Nat.reduceSub, Nat.reduceMul, Nat.reduceDiv, Nat.reduceMod, Nat.reducePow, Nat.reduceLeDiff, Nat.reduceLT, Nat.reduceEqDiff, Nat.reduceBEq, Nat.reduceBNe, Int.reduceAdd, Int.reduceSub, Int.reduceMul, Int.reducePow, Int.reduceLE, Int.reduceLT, Int.reduceEq, Int.reduceToNat, Int.reduceNeg, reduceCtorEq, Nat.add_zero, Nat.zero_add, beq_self_eq_true, unwind, modeEx, resultsOf, one]
                exact ⟨_, rfl⟩
              · kernel_rfl
        | true =>
          have hps : decide ((pathR rootI l q).reverse = p) = false := by rw [hex, Bool.true_and] at hsm; exact hsm
          rcases huv with ⟨s, rfl, rfl, hs⟩ | ⟨g, rfl, rfl, _⟩
          · rcases hcases with ⟨_, rfl, rfl⟩ | ⟨b, hb', _⟩
            · have c52' : ∀ nx, callT env 52 [.ref 1 0 0 2 false] 0 [.cells 0 3 true [e.enc], .cells 0 1 false [.lit ch 1 ((hashedS l).map .str), .lit true s ((upS (leafB e) l.length q p.reverse).map .str)]] nx = some (.ret (.lit c 1 ((hashedS l ++ upS (leafB e) l.length q p.reverse).map .str)), .ups [(1, .dead)]) := c52
              have hlk : looks [.cells 0 3 true [e.enc], .cells 0 1 false [.lit ch 1 ((hashedS l).map .str), .lit true s ((upS (leafB e) l.length q p.reverse).map .str)]] fuel0 [1] [] = some [1] := rfl
              simp only [go_sem, Nat.reduceAdd, Nat.reduceSub, Nat.reduceMul, Nat.reduceDiv, Nat.reduceMod, Nat.reducePow, Nat.reduceLeDiff, Nat.reduceLT, Nat.reduceEqDiff, Nat.reduceBEq, Nat.reduceBNe, Int.reduceAdd, Int.reduceSub, Int.reduceMul, Int.reducePow, Int.reduceLE, Int.reduceLT, Int.reduceEq, Int.reduceToNat, Int.reduceNeg, reduceCtorEq, Nat.add_zero, Nat.zero_add, beq_self_eq_true, Try.f8, few_call cl l hlen, h40, hf, hk, hn, hg, List.length_map, c18, c24, c27, c27', Int.toNat_natCast, g0, gx, hzd, hex, c26, hps, c53, c55, c54, c52', hlk, c51]
              rw [apart_ok]
              · simp only [go_sem, Nat.reduceAdd, Nat.reduceSub, Nat.reduceMul, Nat.reduceDiv, Nat.reduceMod, Nat.reducePow, Nat.reduceLeDiff, Nat.reduceLT, Nat.reduceEqDiff, Nat.reduceBEq, Nat.reduceBNe, Int.reduceAdd, Int.reduceSub, Int.reduceMul, Int.reducePow, Int.reduceLE, Int.reduceLT, Int.reduceEq, Int.reduceToNat, Int.reduceNeg, reduceCtorEq, Nat.add_zero, Nat.zero_add, beq_self_eq_true, unwind, modeEx, resultsOf, one]
                exact ⟨_, rfl⟩
              · kernel_rfl
            · cases hb'
          · rcases hcases with ⟨hb', _⟩ | ⟨b, hb', rfl, rfl⟩
            · cases hb'
            · cases hb'
              have c52' : ∀ nx, callT env 52 [.ref 2 0 0 2 false] 0 [.cells 0 3 true [e.enc], .cells g 1 true ((upS (leafB e) l.length q p.reverse).map .str), .cells 0 1 false [.lit ch 1 ((hashedS l).map .str), .ref 1 g 0 ((upS (leafB e) l.length q p.reverse).map AVal.str).length false]] nx = some (.ret (.lit c 1 ((hashedS l ++ upS (leafB e) l.length q p.reverse).map .str)), .ups [(2, .dead), (1, .dead)]) := c52
              have hlk : looks [.cells 0 3 true [e.enc], .cells g 1 true ((upS (leafB e) l.length q p.reverse).map .str), .cells 0 1 false [.lit ch 1 ((hashedS l).map .str), .ref 1 g 0 ((upS (leafB e) l.length q p.reverse).map AVal.str).length false]] fuel0 [2] [] = some [2, 1] := rfl
              simp only [List.length_map] at c52' hlk c54
              simp only [go_sem, Nat.reduceAdd, Nat.reduceSub, Nat.reduceMul, Nat.reduceDiv, Nat.reduceMod, Nat.reducePow, Nat.reduceLeDiff, Nat.reduceLT, Nat.reduceEqDiff, Nat.reduceBEq, Nat.reduceBNe, Int.reduceAdd, Int.reduceSub, Int.reduceMul, Int.reducePow, Int.reduceLE, Int.reduceLT, Int.reduceEq, Int.reduceToNat, Int.reduceNeg, reduceCtorEq, Nat.add_zero, Nat.zero_add, beq_self_eq_true, Try.f8, few_call cl l hlen, h40, hf, hk, hn, hg, List.length_map, c18, c24, c27, c27', Int.toNat_natCast, g0, gx, hzd, hex, c26, hps, c53, c55, c54, c52', hlk, c51]
              rw [apart_ok]
              · simp only [go_sem, Nat.reduceAdd, Nat.reduceSub, Nat.reduceMul, Nat.reduceDiv, Nat.reduceMod, Nat.reducePow, Nat.reduceLeDiff, Nat.reduceLT, Nat.reduceEqDiff, Nat.reduceBEq, Nat.reduceBNe, Int.reduceAdd, Int.reduceSub, Int.reduceMul, Int.reducePow, Int.reduceLE, Int.reduceLT, Int.reduceEq, Int.reduceToNat, Int.reduceNeg, reduceCtorEq, Nat.add_zero, Nat.zero_add, beq_self_eq_true, unwind, modeEx, resultsOf, one]
                exact ⟨_, rfl⟩
              · kernel_rfl
    · have hzd : decide (chkPathS (rootI l) l.length q e p = 0) = false := by simpa using hz
      simp only [go_sem, Nat.reduceAdd, Nat.reduceSub, Nat.reduceMul, Nat.reduceDiv, Nat.reduceMod, Nat.reducePow, Nat.reduceLeDiff, Nat.reduceLT, Nat.reduceEqDiff, Nat.reduceBEq, Nat.reduceBNe, Int.reduceAdd, Int.reduceSub, Int.reduceMul, Int.reducePow, Int.reduceLE, Int.reduceLT, Int.reduceEq, Int.reduceToNat, Int.reduceNeg, reduceCtorEq, Nat.add_zero, Nat.zero_add, beq_self_eq_true, Try.f8, few_call cl l hlen, h40, hf, hk, hn, hg, List.length_map, c18, c24, c27, c27', Int.toNat_natCast, g0, gx, hzd, unwind, modeEx, resultsOf, one]
      exact ⟨_, rfl⟩
  · have h90 : chkS l = 90 := by
      unfold chkS at hc ⊢
      rw [if_neg (by omega)] at hc ⊢
      split
      · rename_i h; rw [if_pos h] at hc; exact absurd rfl hc
      · rfl
    have hps : pathS l pos = ([], 90) := by unfold pathS; rw [if_neg hc, h90]
    rw [hps] at c24
    simp only [rootT, h90] at c18
    simp only [go_sem, Nat.reduceAdd, Nat.reduceSub, Nat.reduceMul, Nat.reduceDiv, Nat.reduceMod, Nat.reducePow, Nat.reduceLeDiff, Nat.reduceLT, Nat.reduceEqDiff, Nat.reduceBEq, Nat.reduceBNe, Int.reduceAdd, Int.reduceSub, Int.reduceMul, Int.reducePow, Int.reduceLE, Int.reduceLT, Int.reduceEq, Int.reduceToNat, Int.reduceNeg, reduceCtorEq, Nat.add_zero, Nat.zero_add, beq_self_eq_true, Try.f8, few_call cl l hlen, h40, hf, hk, hn, hg, List.length_map, c18, c24, unwind, modeEx, resultsOf, one]
    exact ⟨_, rfl⟩
end Go.Proofs.Ytamcncpgfhfheaa.Tidy

/-
  Trees: growths, of the program and of the reference.
-/
namespace Go.Proofs.Ytamcncpgfhfheaa.Tidy
open Go Go.IntWalk
set_option maxRecDepth 10000
set_option linter.unusedSimpArgs false

/-- a growth, from its end -/
def grownR (rt : List Entry → Int) (l : List Entry) (first : Nat) (whole : Bool) : List Int :=
  if first = l.length then (if whole then [] else [rt l]) else
    if _h : l.length ≤ 1 then [] else
      if first ≤ splitS l.length then rt (l.drop (splitS l.length)) :: grownR rt (l.take (splitS l.length)) first whole
      else rt (l.take (splitS l.length)) :: grownR rt (l.drop (splitS l.length)) (first - splitS l.length) false
termination_by l.length
decreasing_by
  all_goals
    have := splitS_lt (n := l.length) (by omega)
    simp only [List.length_take, List.length_drop]
    omega

theorem grownR_all {rt : List Entry → Int} {l : List Entry} {first : Nat} {whole : Bool} (h : first = l.length) : grownR rt l first whole = if whole then [] else [rt l] := by
  rw [grownR, if_pos h]
theorem grownR_left {rt : List Entry → Int} {l : List Entry} {first : Nat} {whole : Bool} (h : first ≠ l.length) (h2 : 2 ≤ l.length) (hp : first ≤ splitS l.length) : grownR rt l first whole = rt (l.drop (splitS l.length)) :: grownR rt (l.take (splitS l.length)) first whole := by
  rw [grownR, if_neg h, dif_neg (by omega), if_pos hp]
theorem grownR_right {rt : List Entry → Int} {l : List Entry} {first : Nat} {whole : Bool} (h : first ≠ l.length) (h2 : 2 ≤ l.length) (hp : ¬ first ≤ splitS l.length) : grownR rt l first whole = rt (l.take (splitS l.length)) :: grownR rt (l.drop (splitS l.length)) (first - splitS l.length) false := by
  rw [grownR, if_neg h, dif_neg (by omega), if_neg hp]

theorem grownR_length (rt : List Entry → Int) : ∀ (n : Nat) (l : List Entry) (first : Nat) (whole : Bool), l.length ≤ n → (grownR rt l first whole).length ≤ n + 1
  | n, l, first, whole, h => by
    by_cases h0 : first = l.length
    · rw [grownR_all h0]; cases whole <;> simp
    · by_cases h1 : l.length ≤ 1
      · rw [grownR, if_neg h0, dif_pos h1]; simp
      · obtain ⟨m, rfl⟩ : ∃ m, n = m + 1 := ⟨n - 1, by omega⟩
        have hs := splitS_lt (n := l.length) (by omega)
        by_cases hp : first ≤ splitS l.length
        · rw [grownR_left h0 (by omega) hp]
          have := grownR_length rt m (l.take (splitS l.length)) first whole (by rw [List.length_take]; omega)
          simp only [List.length_cons]; omega
        · rw [grownR_right h0 (by omega) hp]
          have := grownR_length rt m (l.drop (splitS l.length)) (first - splitS l.length) false (by rw [List.length_drop]; omega)
          simp only [List.length_cons]; omega

theorem root_call1 (cl : Bool) (l : List Entry) (h1 : l.length ≤ 512) (h2 : small l) (ro : Nat) (H : Heap) (nx : Nat) : callT env 82 [.lit cl 3 (l.map Entry.enc)] ro H nx = some (.ret (.int .u64 (rootI l)), .ups []) := root_call cl l h1 h2 ro H nx

/-- what Grown tells -/
def grownS (l : List Entry) (first : Int) : List Int × Int :=
  if chkS l = 0 then (if first < 1 ∨ (l.length : Int) < first then ([], 1) else ((grownR rootI l first.toNat true).reverse, 0)) else ([], chkS l)

theorem grown_run : ∀ (n : Nat) (cl : Bool) (l : List Entry) (first : Nat) (whole : Bool), l.length = n → 1 ≤ first → n ≤ 512 → first ≤ n → small l → ∃ v H', runT env 93 [encL cl l, .int .i64 first, .bool whole] [] 0 = some (.ret v, H') ∧ VecR .u64 v H' (grownR rootI l first whole).reverse := by
  intro n
  induction n using Nat.strongRecOn with
  | _ n ih =>
    intro cl l first whole hl h1 hn hp hsm
    rw [run_unfold fn93 rfl]
    by_cases h2 : first = l.length
    · have d1 : decide ((first : Int) = (l.length : Int)) = true := by simp only [decide_eq_true_eq]; omega
      rw [grownR_all h2]
      cases whole with
      | true =>
        simp only [go_sem, Nat.reduceAdd, Nat.reduceSub, Nat.reduceMul, Nat.reduceDiv, Nat.reduceMod, Nat.reducePow, Nat.reduceLeDiff, Nat.reduceLT, Nat.reduceEqDiff, Nat.reduceBEq, Nat.reduceBNe, Int.reduceAdd, Int.reduceSub, Int.reduceMul, Int.reducePow, Int.reduceLE, Int.reduceLT, Int.reduceEq, Int.reduceToNat, Int.reduceNeg, reduceCtorEq, Nat.add_zero, Nat.zero_add, beq_self_eq_true, Try.f93, encL, List.length_map, d1, unwind, modeEx, resultsOf, one]
        exact ⟨_, _, rfl, .inl ⟨0, rfl, rfl, .inl rfl⟩⟩
      | false =>
        have hrt := fun cl => root_call1 cl l (by omega) hsm
        simp only [go_sem, Nat.reduceAdd, Nat.reduceSub, Nat.reduceMul, Nat.reduceDiv, Nat.reduceMod, Nat.reducePow, Nat.reduceLeDiff, Nat.reduceLT, Nat.reduceEqDiff, Nat.reduceBEq, Nat.reduceBNe, Int.reduceAdd, Int.reduceSub, Int.reduceMul, Int.reducePow, Int.reduceLE, Int.reduceLT, Int.reduceEq, Int.reduceToNat, Int.reduceNeg, reduceCtorEq, Nat.add_zero, Nat.zero_add, beq_self_eq_true, Try.f93, encL, List.length_map, d1, hrt, unwind, modeEx, resultsOf, one]
        exact ⟨_, _, rfl, .inl ⟨1, rfl, rfl, .inr rfl⟩⟩
    · have hs := splitS_lt (n := l.length) (by omega)
      have d1 : decide ((first : Int) = (l.length : Int)) = false := by simp only [decide_eq_false_iff_not]; omega
      by_cases hlt : first ≤ splitS l.length
      · have d2 : decide ((first : Int) ≤ (splitS l.length : Int)) = true := by simp only [decide_eq_true_eq]; omega
        rw [grownR_left h2 (by omega) hlt]
        obtain ⟨v, H', hr, hv⟩ := ih (l.take (splitS l.length)).length (by rw [List.length_take]; omega) (cl && splitS l.length == l.length) (l.take (splitS l.length)) first whole rfl (by omega) (by rw [List.length_take]; omega) (by rw [List.length_take]; omega) (hsm.take _)
        obtain ⟨u, us, hc, hu⟩ := call_vec rfl rfl rfl rfl rfl hr hv 0 [] 0
        have hlen := grownR_length rootI 512 (l.take (splitS l.length)) first whole (by rw [List.length_take]; omega)
        obtain ⟨w, us', ha, hw, g1, g2, g3, g4⟩ := append35 hu (by rw [List.length_reverse]; omega) (rootI (l.drop (splitS l.length)))
        have hrt := fun cl => root_call1 cl (l.drop (splitS l.length)) (by rw [List.length_drop]; omega) (hsm.drop _)
        simp only [encL] at hc
        simp only [go_sem, Nat.reduceAdd, Nat.reduceSub, Nat.reduceMul, Nat.reduceDiv, Nat.reduceMod, Nat.reducePow, Nat.reduceLeDiff, Nat.reduceLT, Nat.reduceEqDiff, Nat.reduceBEq, Nat.reduceBNe, Int.reduceAdd, Int.reduceSub, Int.reduceMul, Int.reducePow, Int.reduceLE, Int.reduceLT, Int.reduceEq, Int.reduceToNat, Int.reduceNeg, reduceCtorEq, Nat.add_zero, Nat.zero_add, beq_self_eq_true, Try.f93, encL, List.length_map, d1, d2, split_call (n := l.length) (by omega) (by omega), sl_to _ _ _ (show splitS l.length ≤ l.length by omega), sl_from _ _ _ (show splitS l.length ≤ l.length by omega), hc, hrt, ha, g1, g2, g3]
        rw [apart_ok]
        · simp only [go_sem, Nat.reduceAdd, Nat.reduceSub, Nat.reduceMul, Nat.reduceDiv, Nat.reduceMod, Nat.reducePow, Nat.reduceLeDiff, Nat.reduceLT, Nat.reduceEqDiff, Nat.reduceBEq, Nat.reduceBNe, Int.reduceAdd, Int.reduceSub, Int.reduceMul, Int.reducePow, Int.reduceLE, Int.reduceLT, Int.reduceEq, Int.reduceToNat, Int.reduceNeg, reduceCtorEq, Nat.add_zero, Nat.zero_add, beq_self_eq_true, unwind, modeEx, resultsOf, one]
          exact ⟨_, _, rfl, by simpa using hw⟩
        · rcases g4 with ⟨e1, e2⟩ | ⟨e1, e2⟩ <;> rw [e1, e2] <;> kernel_rfl
      · have d2 : decide ((first : Int) ≤ (splitS l.length : Int)) = false := by simp only [decide_eq_false_iff_not]; omega
        rw [grownR_right h2 (by omega) hlt]
        obtain ⟨v, H', hr, hv⟩ := ih (l.drop (splitS l.length)).length (by rw [List.length_drop]; omega) cl (l.drop (splitS l.length)) (first - splitS l.length) false rfl (by omega) (by rw [List.length_drop]; omega) (by rw [List.length_drop]; omega) (hsm.drop _)
        obtain ⟨u, us, hc, hu⟩ := call_vec rfl rfl rfl rfl rfl hr hv 0 [] 0
        have hlen := grownR_length rootI 512 (l.drop (splitS l.length)) (first - splitS l.length) false (by rw [List.length_drop]; omega)
        obtain ⟨w, us', ha, hw, g1, g2, g3, g4⟩ := append35 hu (by rw [List.length_reverse]; omega) (rootI (l.take (splitS l.length)))
        have hrt := fun cl => root_call1 cl (l.take (splitS l.length)) (by rw [List.length_take]; omega) (hsm.take _)
        simp only [encL] at hc
        simp only [go_sem, Nat.reduceAdd, Nat.reduceSub, Nat.reduceMul, Nat.reduceDiv, Nat.reduceMod, Nat.reducePow, Nat.reduceLeDiff, Nat.reduceLT, Nat.reduceEqDiff, Nat.reduceBEq, Nat.reduceBNe, Int.reduceAdd, Int.reduceSub, Int.reduceMul, Int.reducePow, Int.reduceLE, Int.reduceLT, Int.reduceEq, Int.reduceToNat, Int.reduceNeg, reduceCtorEq, Nat.add_zero, Nat.zero_add, beq_self_eq_true, Try.f93, encL, List.length_map, d1, d2, wrap_sub (show splitS l.length ≤ first by omega) (by omega), split_call (n := l.length) (by omega) (by omega), sl_to _ _ _ (show splitS l.length ≤ l.length by omega), sl_from _ _ _ (show splitS l.length ≤ l.length by omega), hc, hrt, ha, g1, g2, g3]
        rw [apart_ok]
        · simp only [go_sem, Nat.reduceAdd, Nat.reduceSub, Nat.reduceMul, Nat.reduceDiv, Nat.reduceMod, Nat.reducePow, Nat.reduceLeDiff, Nat.reduceLT, Nat.reduceEqDiff, Nat.reduceBEq, Nat.reduceBNe, Int.reduceAdd, Int.reduceSub, Int.reduceMul, Int.reducePow, Int.reduceLE, Int.reduceLT, Int.reduceEq, Int.reduceToNat, Int.reduceNeg, reduceCtorEq, Nat.add_zero, Nat.zero_add, beq_self_eq_true, unwind, modeEx, resultsOf, one]
          exact ⟨_, _, rfl, by simpa using hw⟩
        · rcases g4 with ⟨e1, e2⟩ | ⟨e1, e2⟩ <;> rw [e1, e2] <;> kernel_rfl

theorem rgrown_run : ∀ (n : Nat) (cl : Bool) (l : List Entry) (first : Nat) (whole : Bool), l.length = n → 1 ≤ first → n ≤ 512 → first ≤ n → small l → ∃ v H', runT env 94 [encL cl l, .int .i64 first, .bool whole] [] 0 = some (.ret v, H') ∧ VecR .u64 v H' (grownR rootI l first whole).reverse := by
  intro n
  induction n using Nat.strongRecOn with
  | _ n ih =>
    intro cl l first whole hl h1 hn hp hsm
    rw [run_unfold fn94 rfl]
    by_cases h2 : first = l.length
    · have d1 : decide ((first : Int) = (l.length : Int)) = true := by simp only [decide_eq_true_eq]; omega
      rw [grownR_all h2]
      cases whole with
      | true =>
        simp only [go_sem, Nat.reduceAdd, Nat.reduceSub, Nat.reduceMul, Nat.reduceDiv, Nat.reduceMod, Nat.reducePow, Nat.reduceLeDiff, Nat.reduceLT, Nat.reduceEqDiff, Nat.reduceBEq, Nat.reduceBNe, Int.reduceAdd, Int.reduceSub, Int.reduceMul, Int.reducePow, Int.reduceLE, Int.reduceLT, Int.reduceEq, Int.reduceToNat, Int.reduceNeg, reduceCtorEq, Nat.add_zero, Nat.zero_add, beq_self_eq_true, Try.f94, encL, List.length_map, d1, unwind, modeEx, resultsOf, one]
        exact ⟨_, _, rfl, .inl ⟨0, rfl, rfl, .inl rfl⟩⟩
      | false =>
        have hrt := fun cl => rroot_call1 cl l (by omega) hsm
        simp only [go_sem, Nat.reduceAdd, Nat.reduceSub, Nat.reduceMul, Nat.reduceDiv, Nat.reduceMod, Nat.reducePow, Nat.reduceLeDiff, Nat.reduceLT, Nat.reduceEqDiff, Nat.reduceBEq, Nat.reduceBNe, Int.reduceAdd, Int.reduceSub, Int.reduceMul, Int.reducePow, Int.reduceLE, Int.reduceLT, Int.reduceEq, Int.reduceToNat, Int.reduceNeg, reduceCtorEq, Nat.add_zero, Nat.zero_add, beq_self_eq_true, Try.f94, encL, List.length_map, d1, hrt, unwind, modeEx, resultsOf, one]
        exact ⟨_, _, rfl, .inl ⟨1, rfl, rfl, .inr rfl⟩⟩
    · have hs := splitS_lt (n := l.length) (by omega)
      have d1 : decide ((first : Int) = (l.length : Int)) = false := by simp only [decide_eq_false_iff_not]; omega
      by_cases hlt : first ≤ splitS l.length
      · have d2 : decide ((first : Int) ≤ (splitS l.length : Int)) = true := by simp only [decide_eq_true_eq]; omega
        rw [grownR_left h2 (by omega) hlt]
        obtain ⟨v, H', hr, hv⟩ := ih (l.take (splitS l.length)).length (by rw [List.length_take]; omega) true (l.take (splitS l.length)) first whole rfl (by omega) (by rw [List.length_take]; omega) (by rw [List.length_take]; omega) (hsm.take _)
        obtain ⟨u, us, hc, hu⟩ := call_vec rfl rfl rfl rfl rfl hr hv 0 [] 0
        have hlen := grownR_length rootI 512 (l.take (splitS l.length)) first whole (by rw [List.length_take]; omega)
        obtain ⟨w, us', ha, hw, g1, g2, g3, g4⟩ := append35 hu (by rw [List.length_reverse]; omega) (rootI (l.drop (splitS l.length)))
        have hrt := fun cl => rroot_call1 cl (l.drop (splitS l.length)) (by rw [List.length_drop]; omega) (hsm.drop _)
        simp only [encL] at hc
        simp only [go_sem, Nat.reduceAdd, Nat.reduceSub, Nat.reduceMul, Nat.reduceDiv, Nat.reduceMod, Nat.reducePow, Nat.reduceLeDiff, Nat.reduceLT, Nat.reduceEqDiff, Nat.reduceBEq, Nat.reduceBNe, Int.reduceAdd, Int.reduceSub, Int.reduceMul, Int.reducePow, Int.reduceLE, Int.reduceLT, Int.reduceEq, Int.reduceToNat, Int.reduceNeg, reduceCtorEq, Nat.add_zero, Nat.zero_add, beq_self_eq_true, Try.f94, encL, List.length_map, d1, d2, rsplit_call (n := l.length) (by omega) (by omega), sl_to3 _ _ _ (show splitS l.length ≤ l.length by omega), sl_from _ _ _ (show splitS l.length ≤ l.length by omega), hc, hrt, ha, g1, g2, g3]
        rw [apart_ok]
        · simp only [go_sem, Nat.reduceAdd, Nat.reduceSub, Nat.reduceMul, Nat.reduceDiv, Nat.reduceMod, Nat.reducePow, Nat.reduceLeDiff, Nat.reduceLT, Nat.reduceEqDiff, Nat.reduceBEq, Nat.reduceBNe, Int.reduceAdd, Int.reduceSub, Int.reduceMul, Int.reducePow, Int.reduceLE, Int.reduceLT, Int.reduceEq, Int.reduceToNat, Int.reduceNeg, reduceCtorEq, Nat.add_zero, Nat.zero_add, beq_self_eq_true, unwind, modeEx, resultsOf, one]
          exact ⟨_, _, rfl, by simpa using hw⟩
        · rcases g4 with ⟨e1, e2⟩ | ⟨e1, e2⟩ <;> rw [e1, e2] <;> kernel_rfl
      · have d2 : decide ((first : Int) ≤ (splitS l.length : Int)) = false := by simp only [decide_eq_false_iff_not]; omega
        rw [grownR_right h2 (by omega) hlt]
        obtain ⟨v, H', hr, hv⟩ := ih (l.drop (splitS l.length)).length (by rw [List.length_drop]; omega) cl (l.drop (splitS l.length)) (first - splitS l.length) false rfl (by omega) (by rw [List.length_drop]; omega) (by rw [List.length_drop]; omega) (hsm.drop _)
        obtain ⟨u, us, hc, hu⟩ := call_vec rfl rfl rfl rfl rfl hr hv 0 [] 0
        have hlen := grownR_length rootI 512 (l.drop (splitS l.length)) (first - splitS l.length) false (by rw [List.length_drop]; omega)
        obtain ⟨w, us', ha, hw, g1, g2, g3, g4⟩ := append35 hu (by rw [List.length_reverse]; omega) (rootI (l.take (splitS l.length)))
        have hrt := fun cl => rroot_call1 cl (l.take (splitS l.length)) (by rw [List.length_take]; omega) (hsm.take _)
        simp only [encL] at hc
        simp only [go_sem, Nat.reduceAdd, Nat.reduceSub, Nat.reduceMul, Nat.reduceDiv, Nat.reduceMod, Nat.reducePow, Nat.reduceLeDiff, Nat.reduceLT, Nat.reduceEqDiff, Nat.reduceBEq, Nat.reduceBNe, Int.reduceAdd, Int.reduceSub, Int.reduceMul, Int.reducePow, Int.reduceLE, Int.reduceLT, Int.reduceEq, Int.reduceToNat, Int.reduceNeg, reduceCtorEq, Nat.add_zero, Nat.zero_add, beq_self_eq_true, Try.f94, encL, List.length_map, d1, d2, wrap_sub (show splitS l.length ≤ first by omega) (by omega), rsplit_call (n := l.length) (by omega) (by omega), sl_to3 _ _ _ (show splitS l.length ≤ l.length by omega), sl_from _ _ _ (show splitS l.length ≤ l.length by omega), hc, hrt, ha, g1, g2, g3]
        rw [apart_ok]
        · simp only [go_sem, Nat.reduceAdd, Nat.reduceSub, Nat.reduceMul, Nat.reduceDiv, Nat.reduceMod, Nat.reducePow, Nat.reduceLeDiff, Nat.reduceLT, Nat.reduceEqDiff, Nat.reduceBEq, Nat.reduceBNe, Int.reduceAdd, Int.reduceSub, Int.reduceMul, Int.reducePow, Int.reduceLE, Int.reduceLT, Int.reduceEq, Int.reduceToNat, Int.reduceNeg, reduceCtorEq, Nat.add_zero, Nat.zero_add, beq_self_eq_true, unwind, modeEx, resultsOf, one]
          exact ⟨_, _, rfl, by simpa using hw⟩
        · rcases g4 with ⟨e1, e2⟩ | ⟨e1, e2⟩ <;> rw [e1, e2] <;> kernel_rfl

theorem Grown_call (cl : Bool) (l : List Entry) (pos : Int) (hlen : l.length < 2 ^ 63) : ∃ cl' sz, ((grownS l pos).1 = [] ∨ sz = 1) ∧ ∀ ro H nx,
    callT env 29 [.lit cl 3 (l.map Entry.enc), .int .i64 pos] ro H nx = some (.ret (.tuple [.lit cl' sz ((grownS l pos).1.map (.int .u64)), .int .i64 (grownS l pos).2]), .ups []) := by
  have : ∃ v H', runT env 29 [.lit cl 3 (l.map Entry.enc), .int .i64 pos] [] 0 = some (.ret (.tuple [v, .int .i64 (grownS l pos).2]), H') ∧ VecR .u64 v H' (grownS l pos).1 := by
    have hck := fun ro H nx => checkList_call cl l hlen ro H nx
    unfold grownS
    rw [run_unfold fn29 rfl]
    by_cases hc : chkS l = 0
    · have hcd : decide (chkS l = 0) = true := by simpa using hc
      rw [if_pos hc]
      obtain ⟨h1, h2⟩ := chk_zero hc
      by_cases hp : pos < 1
      · have d1 : decide (pos < 1) = true := by simpa using hp
        rw [if_pos (.inl hp)]
        simp only [go_sem, Nat.reduceAdd, Nat.reduceSub, Nat.reduceMul, Nat.reduceDiv, Nat.reduceMod, Nat.reducePow, Nat.reduceLeDiff, Nat.reduceLT, Nat.reduceEqDiff, Nat.reduceBEq, Nat.reduceBNe, Int.reduceAdd, Int.reduceSub, Int.reduceMul, Int.reducePow, Int.reduceLE, Int.reduceLT, Int.reduceEq, Int.reduceToNat, Int.reduceNeg, reduceCtorEq, Nat.add_zero, Nat.zero_add, beq_self_eq_true, Try.f29, hck, hcd, d1, unwind, modeEx, resultsOf, one]
        exact ⟨_, _, rfl, .inl ⟨0, rfl, rfl, .inl rfl⟩⟩
      · have d1 : decide (pos < 1) = false := by simpa using hp
        by_cases hq : (l.length : Int) < pos
        · have d2 : decide ((l.length : Int) < pos) = true := by simpa using hq
          rw [if_pos (.inr hq)]
          simp only [go_sem, Nat.reduceAdd, Nat.reduceSub, Nat.reduceMul, Nat.reduceDiv, Nat.reduceMod, Nat.reducePow, Nat.reduceLeDiff, Nat.reduceLT, Nat.reduceEqDiff, Nat.reduceBEq, Nat.reduceBNe, Int.reduceAdd, Int.reduceSub, Int.reduceMul, Int.reducePow, Int.reduceLE, Int.reduceLT, Int.reduceEq, Int.reduceToNat, Int.reduceNeg, reduceCtorEq, Nat.add_zero, Nat.zero_add, beq_self_eq_true, Try.f29, hck, hcd, d1, d2, List.length_map, unwind, modeEx, resultsOf, one]
          exact ⟨_, _, rfl, .inl ⟨0, rfl, rfl, .inl rfl⟩⟩
        · have d2 : decide ((l.length : Int) < pos) = false := by simpa using hq
          rw [if_neg (by rintro (h | h) <;> contradiction)]
          obtain ⟨v, H', hr, hv⟩ := grown_run l.length cl l pos.toNat true rfl (by omega) h1 (by omega) (all_small h2)
          obtain ⟨u, us, hpc, hu⟩ := call_vec rfl rfl rfl rfl rfl hr hv 0 [] 0
          have hpos : ((pos.toNat : Nat) : Int) = pos := by omega
          simp only [encL, hpos] at hpc
          simp only [go_sem, Nat.reduceAdd, Nat.reduceSub, Nat.reduceMul, Nat.reduceDiv, Nat.reduceMod, Nat.reducePow, Nat.reduceLeDiff, Nat.reduceLT, Nat.reduceEqDiff, Nat.reduceBEq, Nat.reduceBNe, Int.reduceAdd, Int.reduceSub, Int.reduceMul, Int.reducePow, Int.reduceLE, Int.reduceLT, Int.reduceEq, Int.reduceToNat, Int.reduceNeg, reduceCtorEq, Nat.add_zero, Nat.zero_add, beq_self_eq_true, Try.f29, hck, hcd, d1, d2, List.length_map, hpc, unwind, modeEx, resultsOf, one]
          refine ⟨_, _, rfl, ?_⟩
          rcases hu with ⟨sz, rfl, rfl, hsz⟩ | ⟨g, rfl, rfl, hne⟩
          · exact .inl ⟨sz, rfl, rfl, hsz⟩
          · exact .inr ⟨g, rfl, rfl, hne⟩
    · have hcd : decide (chkS l = 0) = false := by simpa using hc
      rw [if_neg hc]
      simp only [go_sem, Nat.reduceAdd, Nat.reduceSub, Nat.reduceMul, Nat.reduceDiv, Nat.reduceMod, Nat.reducePow, Nat.reduceLeDiff, Nat.reduceLT, Nat.reduceEqDiff, Nat.reduceBEq, Nat.reduceBNe, Int.reduceAdd, Int.reduceSub, Int.reduceMul, Int.reducePow, Int.reduceLE, Int.reduceLT, Int.reduceEq, Int.reduceToNat, Int.reduceNeg, reduceCtorEq, Nat.add_zero, Nat.zero_add, beq_self_eq_true, Try.f29, hck, hcd, unwind, modeEx, resultsOf, one]
      exact ⟨_, _, rfl, .inl ⟨0, rfl, rfl, .inl rfl⟩⟩
  obtain ⟨v, H', hr, hv⟩ := this
  exact call_lit2 rfl rfl rfl rfl rfl hr hv rfl

theorem rGrown_call (cl : Bool) (l : List Entry) (pos : Int) (hlen : l.length < 2 ^ 63) : ∃ cl' sz, ((grownS l pos).1 = [] ∨ sz = 1) ∧ ∀ ro H nx,
    callT env 30 [.lit cl 3 (l.map Entry.enc), .int .i64 pos] ro H nx = some (.ret (.tuple [.lit cl' sz ((grownS l pos).1.map (.int .u64)), .int .i64 (grownS l pos).2]), .ups []) := by
  have : ∃ v H', runT env 30 [.lit cl 3 (l.map Entry.enc), .int .i64 pos] [] 0 = some (.ret (.tuple [v, .int .i64 (grownS l pos).2]), H') ∧ VecR .u64 v H' (grownS l pos).1 := by
    have hck := fun ro H nx => rcheckList_call cl l hlen ro H nx
    unfold grownS
    rw [run_unfold fn30 rfl]
    by_cases hc : chkS l = 0
    · have hcd : decide (chkS l = 0) = true := by simpa using hc
      rw [if_pos hc]
      obtain ⟨h1, h2⟩ := chk_zero hc
      by_cases hp : pos < 1
      · have d1 : decide (pos < 1) = true := by simpa using hp
        rw [if_pos (.inl hp)]
        simp only [go_sem, Nat.reduceAdd, Nat.reduceSub, Nat.reduceMul, Nat.reduceDiv, Nat.reduceMod, Nat.reducePow, Nat.reduceLeDiff, Nat.reduceLT, Nat.reduceEqDiff, Nat.reduceBEq, Nat.reduceBNe, Int.reduceAdd, Int.reduceSub, Int.reduceMul, Int.reducePow, Int.reduceLE, Int.reduceLT, Int.reduceEq, Int.reduceToNat, Int.reduceNeg, reduceCtorEq, Nat.add_zero, Nat.zero_add, beq_self_eq_true, Try.f30, hck, hcd, d1, unwind, modeEx, resultsOf, one]
        exact ⟨_, _, rfl, .inl ⟨0, rfl, rfl, .inl rfl⟩⟩
      · have d1 : decide (pos < 1) = false := by simpa using hp
        by_cases hq : (l.length : Int) < pos
        · have d2 : decide ((l.length : Int) < pos) = true := by simpa using hq
          rw [if_pos (.inr hq)]
          simp only [go_sem, Nat.reduceAdd, Nat.reduceSub, Nat.reduceMul, Nat.reduceDiv, Nat.reduceMod, Nat.reducePow, Nat.reduceLeDiff, Nat.reduceLT, Nat.reduceEqDiff, Nat.reduceBEq, Nat.reduceBNe, Int.reduceAdd, Int.reduceSub, Int.reduceMul, Int.reducePow, Int.reduceLE, Int.reduceLT, Int.reduceEq, Int.reduceToNat, Int.reduceNeg, reduceCtorEq, Nat.add_zero, Nat.zero_add, beq_self_eq_true, Try.f30, hck, hcd, d1, d2, List.length_map, unwind, modeEx, resultsOf, one]
          exact ⟨_, _, rfl, .inl ⟨0, rfl, rfl, .inl rfl⟩⟩
        · have d2 : decide ((l.length : Int) < pos) = false := by simpa using hq
          rw [if_neg (by rintro (h | h) <;> contradiction)]
          obtain ⟨v, H', hr, hv⟩ := rgrown_run l.length cl l pos.toNat true rfl (by omega) h1 (by omega) (all_small h2)
          obtain ⟨u, us, hpc, hu⟩ := call_vec rfl rfl rfl rfl rfl hr hv 0 [] 0
          have hpos : ((pos.toNat : Nat) : Int) = pos := by omega
          simp only [encL, hpos] at hpc
          simp only [go_sem, Nat.reduceAdd, Nat.reduceSub, Nat.reduceMul, Nat.reduceDiv, Nat.reduceMod, Nat.reducePow, Nat.reduceLeDiff, Nat.reduceLT, Nat.reduceEqDiff, Nat.reduceBEq, Nat.reduceBNe, Int.reduceAdd, Int.reduceSub, Int.reduceMul, Int.reducePow, Int.reduceLE, Int.reduceLT, Int.reduceEq, Int.reduceToNat, Int.reduceNeg, reduceCtorEq, Nat.add_zero, Nat.zero_add, beq_self_eq_true, Try.f30, hck, hcd, d1, d2, List.length_map, hpc, unwind, modeEx, resultsOf, one]
          refine ⟨_, _, rfl, ?_⟩
          rcases hu with ⟨sz, rfl, rfl, hsz⟩ | ⟨g, rfl, rfl, hne⟩
          · exact .inl ⟨sz, rfl, rfl, hsz⟩
          · exact .inr ⟨g, rfl, rfl, hne⟩
    · have hcd : decide (chkS l = 0) = false := by simpa using hc
      rw [if_neg hc]
      simp only [go_sem, Nat.reduceAdd, Nat.reduceSub, Nat.reduceMul, Nat.reduceDiv, Nat.reduceMod, Nat.reducePow, Nat.reduceLeDiff, Nat.reduceLT, Nat.reduceEqDiff, Nat.reduceBEq, Nat.reduceBNe, Int.reduceAdd, Int.reduceSub, Int.reduceMul, Int.reducePow, Int.reduceLE, Int.reduceLT, Int.reduceEq, Int.reduceToNat, Int.reduceNeg, reduceCtorEq, Nat.add_zero, Nat.zero_add, beq_self_eq_true, Try.f30, hck, hcd, unwind, modeEx, resultsOf, one]
      exact ⟨_, _, rfl, .inl ⟨0, rfl, rfl, .inl rfl⟩⟩
  obtain ⟨v, H', hr, hv⟩ := this
  exact call_lit2 rfl rfl rfl rfl rfl hr hv rfl

/-- what a growth makes of an earlier root; the growth from its end -/
def growR (old : Int) : List Int → Nat → Nat → Bool → Int × Int × Bool
  | [], first, many, whole => if first = many then (if whole then (old, old, true) else (0, 0, false)) else (0, 0, false)
  | h :: r, first, many, whole => if first = many then (if whole then (old, old, false) else if r.length = 0 then (h, h, true) else (0, 0, false)) else
      if first ≤ splitS many then ((growR old r first (splitS many) whole).1, nodeI (growR old r first (splitS many) whole).2.1 h, (growR old r first (splitS many) whole).2.2)
      else (nodeI h (growR old r (first - splitS many) (many - splitS many) false).1, nodeI h (growR old r (first - splitS many) (many - splitS many) false).2.1, (growR old r (first - splitS many) (many - splitS many) false).2.2)

theorem growR_range {old : Int} (ho : 0 ≤ old ∧ old ≤ 18446744073709551615) : ∀ (r : List Int) (first many : Nat) (whole : Bool), u64s r →
    (0 ≤ (growR old r first many whole).1 ∧ (growR old r first many whole).1 ≤ 18446744073709551615) ∧ (0 ≤ (growR old r first many whole).2.1 ∧ (growR old r first many whole).2.1 ≤ 18446744073709551615)
  | [], first, many, whole, _ => by
    have z : (0 : Int) ≤ 0 ∧ (0 : Int) ≤ 18446744073709551615 := by omega
    unfold growR
    split
    · split
      · exact ⟨ho, ho⟩
      · exact ⟨z, z⟩
    · exact ⟨z, z⟩
  | h :: r, first, many, whole, hu => by
    have z : (0 : Int) ≤ 0 ∧ (0 : Int) ≤ 18446744073709551615 := by omega
    have hh := hu h (by simp)
    have hr : u64s r := fun x hx => hu x (by simp [hx])
    unfold growR
    split
    · split
      · exact ⟨ho, ho⟩
      · split
        · exact ⟨hh, hh⟩
        · exact ⟨z, z⟩
    · split
      · exact ⟨(growR_range ho r _ _ _ hr).1, node_range _ _⟩
      · exact ⟨node_range _ _, node_range _ _⟩

theorem grow_call (old : Int) (ho : 0 ≤ old ∧ old ≤ 18446744073709551615) : ∀ (r : List Int), u64s r → r.length < 2 ^ 63 → ∀ (first many : Nat) (whole : Bool) (cl : Bool) (sz : Nat), 1 ≤ first → many ≤ 512 → first ≤ many → (r = [] ∨ sz = 1) → ∀ ro H nx,
    callT env 95 [.int .u64 old, .int .i64 first, .int .i64 many, .bool whole, .lit cl sz (r.reverse.map (.int .u64))] ro H nx = some (.ret (.tuple [.int .u64 (growR old r first many whole).1, .int .u64 (growR old r first many whole).2.1, .bool (growR old r first many whole).2.2]), .ups []) := by
  intro r
  induction r with
  | nil =>
    intro _ _ first many whole cl sz h1 h2 h3 _ ro H nx
    refine call_pure (H' := []) rfl rfl rfl rfl ?_ rfl ro H nx
    rw [run_unfold fn95 rfl]
    have w0 : IntKind.i64.wrap (((0 : Nat) : Int) - 1) = -1 := by decide
    cases hd : decide ((first : Int) = (many : Int)) with
    | true =>
      have hm : first = many := by simp only [decide_eq_true_eq] at hd; omega
      cases whole with
      | true => simp only [go_sem, Nat.reduceAdd, Nat.reduceSub, Nat.reduceMul, Nat.reduceDiv, Nat.reduceMod, Nat.reducePow, Nat.reduceLeDiff, Nat.reduceLT, Nat.reduceEqDiff, Nat.reduceBEq, Nat.reduceBNe, Int.reduceAdd, Int.reduceSub, Int.reduceMul, Int.reducePow, Int.reduceLE, Int.reduceLT, Int.reduceEq, Int.reduceToNat, Int.reduceNeg, reduceCtorEq, Nat.add_zero, Nat.zero_add, beq_self_eq_true, Try.f95, hd, w0, List.reverse_nil, unwind, modeEx, resultsOf, one, growR, hm]
      | false => simp only [go_sem, Nat.reduceAdd, Nat.reduceSub, Nat.reduceMul, Nat.reduceDiv, Nat.reduceMod, Nat.reducePow, Nat.reduceLeDiff, Nat.reduceLT, Nat.reduceEqDiff, Nat.reduceBEq, Nat.reduceBNe, Int.reduceAdd, Int.reduceSub, Int.reduceMul, Int.reducePow, Int.reduceLE, Int.reduceLT, Int.reduceEq, Int.reduceToNat, Int.reduceNeg, reduceCtorEq, Nat.add_zero, Nat.zero_add, beq_self_eq_true, Try.f95, hd, w0, List.reverse_nil, unwind, modeEx, resultsOf, one, growR, hm]
    | false =>
      have hm : ¬ first = many := by simp only [decide_eq_false_iff_not] at hd; omega
      simp only [go_sem, Nat.reduceAdd, Nat.reduceSub, Nat.reduceMul, Nat.reduceDiv, Nat.reduceMod, Nat.reducePow, Nat.reduceLeDiff, Nat.reduceLT, Nat.reduceEqDiff, Nat.reduceBEq, Nat.reduceBNe, Int.reduceAdd, Int.reduceSub, Int.reduceMul, Int.reducePow, Int.reduceLE, Int.reduceLT, Int.reduceEq, Int.reduceToNat, Int.reduceNeg, reduceCtorEq, Nat.add_zero, Nat.zero_add, beq_self_eq_true, Try.f95, hd, w0, List.reverse_nil, unwind, modeEx, resultsOf, one, growR, hm]
  | cons h r ih =>
    intro hu hl first many whole cl sz h1 h2 h3 hsz ro H nx
    obtain rfl : sz = 1 := by rcases hsz with h | h; · cases h
                              · exact h
    have hh := hu h (by simp)
    have hu' : u64s r := fun x hx => hu x (by simp [hx])
    have hl' : r.length < 2 ^ 63 := by simp only [List.length_cons] at hl; omega
    refine call_pure (H' := []) rfl rfl rfl (by simp [underL, AVal.under]) ?_ rfl ro H nx
    rw [run_unfold fn95 rfl]
    have d0 : decide (((r.length : Nat) : Int) < 0) = false := by simp only [decide_eq_false_iff_not]; omega
    have e0 : (0 : Int) ≤ (r.length : Int) := by omega
    have hg : ((r.reverse ++ [h]).map (AVal.int .u64))[((r.length : Nat) : Int).toNat]? = some (.int .u64 h) := get_map (by simp)
    have ht : (r.reverse ++ [h]).take r.length = r.reverse := by
      rw [show r.length = r.reverse.length from by simp]; exact List.take_left' rfl
    by_cases hm : first = many
    · have hd : decide ((first : Int) = (many : Int)) = true := by simp only [decide_eq_true_eq]; omega
      cases whole with
      | true => simp only [go_sem, Nat.reduceAdd, Nat.reduceSub, Nat.reduceMul, Nat.reduceDiv, Nat.reduceMod, Nat.reducePow, Nat.reduceLeDiff, Nat.reduceLT, Nat.reduceEqDiff, Nat.reduceBEq, Nat.reduceBNe, Int.reduceAdd, Int.reduceSub, Int.reduceMul, Int.reducePow, Int.reduceLE, Int.reduceLT, Int.reduceEq, Int.reduceToNat, Int.reduceNeg, reduceCtorEq, Nat.add_zero, Nat.zero_add, beq_self_eq_true, Try.f95, hd, d0, List.reverse_cons, List.length_append, List.length_map, List.length_reverse, wrap_pred (show r.length < 2 ^ 63 by omega), unwind, modeEx, resultsOf, one, growR, hm]
      | false =>
        cases hz : decide ((r.length : Int) = 0) with
        | true =>
          have hr0 : r.length = 0 := by simp only [decide_eq_true_eq] at hz; omega
          obtain rfl : r = [] := List.eq_nil_of_length_eq_zero hr0
          have w1 : IntKind.i64.wrap (((0 + 1 : Nat) : Int) - 1) = 0 := by decide
          have h00 : (0 : Int) ≤ 0 := by omega
          simp only [go_sem, Nat.reduceAdd, Nat.reduceSub, Nat.reduceMul, Nat.reduceDiv, Nat.reduceMod, Nat.reducePow, Nat.reduceLeDiff, Nat.reduceLT, Nat.reduceEqDiff, Nat.reduceBEq, Nat.reduceBNe, Int.reduceAdd, Int.reduceSub, Int.reduceMul, Int.reducePow, Int.reduceLE, Int.reduceLT, Int.reduceEq, Int.reduceToNat, Int.reduceNeg, reduceCtorEq, Nat.add_zero, Nat.zero_add, beq_self_eq_true, Try.f95, hd, hz, w1, h00, List.reverse_cons, List.reverse_nil, List.nil_append, List.length_map, unwind, modeEx, resultsOf, one, growR, hm]
        | false =>
          have hr0 : ¬ r.length = 0 := by simp only [decide_eq_false_iff_not] at hz; omega
          simp only [go_sem, Nat.reduceAdd, Nat.reduceSub, Nat.reduceMul, Nat.reduceDiv, Nat.reduceMod, Nat.reducePow, Nat.reduceLeDiff, Nat.reduceLT, Nat.reduceEqDiff, Nat.reduceBEq, Nat.reduceBNe, Int.reduceAdd, Int.reduceSub, Int.reduceMul, Int.reducePow, Int.reduceLE, Int.reduceLT, Int.reduceEq, Int.reduceToNat, Int.reduceNeg, reduceCtorEq, Nat.add_zero, Nat.zero_add, beq_self_eq_true, Try.f95, hd, d0, hz, List.reverse_cons, List.length_append, List.length_map, List.length_reverse, wrap_pred (show r.length < 2 ^ 63 by omega), unwind, modeEx, resultsOf, one, growR, hm, hr0]
    · have hd : decide ((first : Int) = (many : Int)) = false := by simp only [decide_eq_false_iff_not]; omega
      have hs := splitS_lt (n := many) (by omega)
      by_cases hp : first ≤ splitS many
      · have d2 : decide ((first : Int) ≤ (splitS many : Int)) = true := by simp only [decide_eq_true_eq]; omega
        have hrec := fun cl ro H nx => ih hu' hl' first (splitS many) whole cl 1 h1 (by omega) hp (.inr rfl) ro H nx
        have hn := fun ro H nx => node_call1 (growR_range ho r first (splitS many) whole hu').2 hh ro H nx
        simp only [go_sem, Nat.reduceAdd, Nat.reduceSub, Nat.reduceMul, Nat.reduceDiv, Nat.reduceMod, Nat.reducePow, Nat.reduceLeDiff, Nat.reduceLT, Nat.reduceEqDiff, Nat.reduceBEq, Nat.reduceBNe, Int.reduceAdd, Int.reduceSub, Int.reduceMul, Int.reducePow, Int.reduceLE, Int.reduceLT, Int.reduceEq, Int.reduceToNat, Int.reduceNeg, reduceCtorEq, Nat.add_zero, Nat.zero_add, beq_self_eq_true, Try.f95, hd, d0, d2, List.reverse_cons, List.length_map, List.length_append, List.length_reverse, wrap_pred (show r.length < 2 ^ 63 by omega), split_call (n := many) (by omega) (by omega), sl35_to _ _ _ (show r.length ≤ (r.reverse ++ [h]).length by simp), ht, hrec, e0, hg, hn, unwind, modeEx, resultsOf, one, growR, hm, hp]
      · have d2 : decide ((first : Int) ≤ (splitS many : Int)) = false := by simp only [decide_eq_false_iff_not]; omega
        have hrec := fun cl ro H nx => ih hu' hl' (first - splitS many) (many - splitS many) false cl 1 (by omega) (by omega) (by omega) (.inr rfl) ro H nx
        have hn := fun ro H nx => node_call1 hh (growR_range ho r (first - splitS many) (many - splitS many) false hu').1 ro H nx
        have hn2 := fun ro H nx => node_call1 hh (growR_range ho r (first - splitS many) (many - splitS many) false hu').2 ro H nx
        simp only [go_sem, Nat.reduceAdd, Nat.reduceSub, Nat.reduceMul, Nat.reduceDiv, Nat.reduceMod, Nat.reducePow, Nat.reduceLeDiff, Nat.reduceLT, Nat.reduceEqDiff, Nat.reduceBEq, Nat.reduceBNe, Int.reduceAdd, Int.reduceSub, Int.reduceMul, Int.reducePow, Int.reduceLE, Int.reduceLT, Int.reduceEq, Int.reduceToNat, Int.reduceNeg, reduceCtorEq, Nat.add_zero, Nat.zero_add, beq_self_eq_true, Try.f95, hd, d0, d2, List.reverse_cons, List.length_map, List.length_append, List.length_reverse, wrap_pred (show r.length < 2 ^ 63 by omega), wrap_sub (show splitS many ≤ many by omega) (by omega), wrap_sub (show splitS many ≤ first by omega) (by omega), split_call (n := many) (by omega) (by omega), sl35_to _ _ _ (show r.length ≤ (r.reverse ++ [h]).length by simp), ht, hrec, e0, hg, hn, hn2, unwind, modeEx, resultsOf, one, growR, hm, hp]

theorem grows_call (old : Int) (ho : 0 ≤ old ∧ old ≤ 18446744073709551615) : ∀ (r : List Int), u64s r → r.length < 2 ^ 63 → ∀ (first many : Nat) (whole : Bool) (cl : Bool) (sz : Nat), 1 ≤ first → many ≤ 512 → first ≤ many → (r = [] ∨ sz = 1) → ∀ ro H nx,
    callT env 96 [.int .u64 old, .int .i64 first, .int .i64 many, .bool whole, .lit cl sz (r.reverse.map (.int .u64))] ro H nx = some (.ret (.tuple [.int .u64 (growR old r first many whole).1, .int .u64 (growR old r first many whole).2.1, .bool (growR old r first many whole).2.2]), .ups []) := by
  intro r
  induction r with
  | nil =>
    intro _ _ first many whole cl sz h1 h2 h3 _ ro H nx
    refine call_pure (H' := []) rfl rfl rfl rfl ?_ rfl ro H nx
    rw [run_unfold fn96 rfl]
    have w0 : decide (((0 : Nat) : Int) = 0) = true := by decide
    have w2 : decide (((0 : Nat) : Int) = 1) = false := by decide
    cases hd : decide ((first : Int) = (many : Int)) with
    | true =>
      have hm : first = many := by simp only [decide_eq_true_eq] at hd; omega
      cases whole with
      | true => simp only [go_sem, Nat.reduceAdd, Nat.reduceSub, Nat.reduceMul, Nat.reduceDiv, Nat.reduceMod, Nat.reducePow, Nat.reduceLeDiff, Nat.reduceLT, Nat.reduceEqDiff, Nat.reduceBEq, Nat.reduceBNe, Int.reduceAdd, Int.reduceSub, Int.reduceMul, Int.reducePow, Int.reduceLE, Int.reduceLT, Int.reduceEq, Int.reduceToNat, Int.reduceNeg, reduceCtorEq, Nat.add_zero, Nat.zero_add, beq_self_eq_true, Try.f96, hd, w0, w2, List.reverse_nil, unwind, modeEx, resultsOf, one, growR, hm]
      | false => simp only [go_sem, Nat.reduceAdd, Nat.reduceSub, Nat.reduceMul, Nat.reduceDiv, Nat.reduceMod, Nat.reducePow, Nat.reduceLeDiff, Nat.reduceLT, Nat.reduceEqDiff, Nat.reduceBEq, Nat.reduceBNe, Int.reduceAdd, Int.reduceSub, Int.reduceMul, Int.reducePow, Int.reduceLE, Int.reduceLT, Int.reduceEq, Int.reduceToNat, Int.reduceNeg, reduceCtorEq, Nat.add_zero, Nat.zero_add, beq_self_eq_true, Try.f96, hd, w0, w2, List.reverse_nil, unwind, modeEx, resultsOf, one, growR, hm]
    | false =>
      have hm : ¬ first = many := by simp only [decide_eq_false_iff_not] at hd; omega
      simp only [go_sem, Nat.reduceAdd, Nat.reduceSub, Nat.reduceMul, Nat.reduceDiv, Nat.reduceMod, Nat.reducePow, Nat.reduceLeDiff, Nat.reduceLT, Nat.reduceEqDiff, Nat.reduceBEq, Nat.reduceBNe, Int.reduceAdd, Int.reduceSub, Int.reduceMul, Int.reducePow, Int.reduceLE, Int.reduceLT, Int.reduceEq, Int.reduceToNat, Int.reduceNeg, reduceCtorEq, Nat.add_zero, Nat.zero_add, beq_self_eq_true, Try.f96, hd, w0, w2, List.reverse_nil, unwind, modeEx, resultsOf, one, growR, hm]
  | cons h r ih =>
    intro hu hl first many whole cl sz h1 h2 h3 hsz ro H nx
    obtain rfl : sz = 1 := by rcases hsz with h | h; · cases h
                              · exact h
    have hh := hu h (by simp)
    have hu' : u64s r := fun x hx => hu x (by simp [hx])
    have hl' : r.length < 2 ^ 63 := by simp only [List.length_cons] at hl; omega
    refine call_pure (H' := []) rfl rfl rfl (by simp [underL, AVal.under]) ?_ rfl ro H nx
    rw [run_unfold fn96 rfl]
    have d0 : decide (((r.length + 1 : Nat) : Int) = 0) = false := by simp only [decide_eq_false_iff_not]; omega
    have e0 : (0 : Int) ≤ (r.length : Int) := by omega
    have hg : ((r.reverse ++ [h]).map (AVal.int .u64))[((r.length : Nat) : Int).toNat]? = some (.int .u64 h) := get_map (by simp)
    have ht : (r.reverse ++ [h]).take r.length = r.reverse := by
      rw [show r.length = r.reverse.length from by simp]; exact List.take_left' rfl
    by_cases hm : first = many
    · have hd : decide ((first : Int) = (many : Int)) = true := by simp only [decide_eq_true_eq]; omega
      cases whole with
      | true => simp only [go_sem, Nat.reduceAdd, Nat.reduceSub, Nat.reduceMul, Nat.reduceDiv, Nat.reduceMod, Nat.reducePow, Nat.reduceLeDiff, Nat.reduceLT, Nat.reduceEqDiff, Nat.reduceBEq, Nat.reduceBNe, Int.reduceAdd, Int.reduceSub, Int.reduceMul, Int.reducePow, Int.reduceLE, Int.reduceLT, Int.reduceEq, Int.reduceToNat, Int.reduceNeg, reduceCtorEq, Nat.add_zero, Nat.zero_add, beq_self_eq_true, Try.f96, hd, d0, List.reverse_cons, List.length_append, List.length_map, List.length_reverse, wrap_pred (show r.length < 2 ^ 63 by omega), unwind, modeEx, resultsOf, one, growR, hm]
      | false =>
        cases hz : decide (((r.length + 1 : Nat) : Int) = 1) with
        | true =>
          have hr0 : r.length = 0 := by simp only [decide_eq_true_eq] at hz; omega
          obtain rfl : r = [] := List.eq_nil_of_length_eq_zero hr0
          have w1 : decide (((0 + 1 : Nat) : Int) = 1) = true := by decide
          have h00 : (0 : Int) ≤ 0 := by omega
          simp only [go_sem, Nat.reduceAdd, Nat.reduceSub, Nat.reduceMul, Nat.reduceDiv, Nat.reduceMod, Nat.reducePow, Nat.reduceLeDiff, Nat.reduceLT, Nat.reduceEqDiff, Nat.reduceBEq, Nat.reduceBNe, Int.reduceAdd, Int.reduceSub, Int.reduceMul, Int.reducePow, Int.reduceLE, Int.reduceLT, Int.reduceEq, Int.reduceToNat, Int.reduceNeg, reduceCtorEq, Nat.add_zero, Nat.zero_add, beq_self_eq_true, Try.f96, hd, hz, w1, h00, List.reverse_cons, List.reverse_nil, List.nil_append, List.length_map, unwind, modeEx, resultsOf, one, growR, hm]
        | false =>
          have hr0 : ¬ r.length = 0 := by simp only [decide_eq_false_iff_not] at hz; omega
          simp only [go_sem, Nat.reduceAdd, Nat.reduceSub, Nat.reduceMul, Nat.reduceDiv, Nat.reduceMod, Nat.reducePow, Nat.reduceLeDiff, Nat.reduceLT, Nat.reduceEqDiff, Nat.reduceBEq, Nat.reduceBNe, Int.reduceAdd, Int.reduceSub, Int.reduceMul, Int.reducePow, Int.reduceLE, Int.reduceLT, Int.reduceEq, Int.reduceToNat, Int.reduceNeg, reduceCtorEq, Nat.add_zero, Nat.zero_add, beq_self_eq_true, Try.f96, hd, d0, hz, List.reverse_cons, List.length_append, List.length_map, List.length_reverse, wrap_pred (show r.length < 2 ^ 63 by omega), unwind, modeEx, resultsOf, one, growR, hm, hr0]
    · have hd : decide ((first : Int) = (many : Int)) = false := by simp only [decide_eq_false_iff_not]; omega
      have hs := splitS_lt (n := many) (by omega)
      by_cases hp : first ≤ splitS many
      · have d2 : decide ((first : Int) ≤ (splitS many : Int)) = true := by simp only [decide_eq_true_eq]; omega
        have hrec := fun cl ro H nx => ih hu' hl' first (splitS many) whole cl 1 h1 (by omega) hp (.inr rfl) ro H nx
        have hn := fun ro H nx => rnode_call1 (growR_range ho r first (splitS many) whole hu').2 hh ro H nx
        simp only [go_sem, Nat.reduceAdd, Nat.reduceSub, Nat.reduceMul, Nat.reduceDiv, Nat.reduceMod, Nat.reducePow, Nat.reduceLeDiff, Nat.reduceLT, Nat.reduceEqDiff, Nat.reduceBEq, Nat.reduceBNe, Int.reduceAdd, Int.reduceSub, Int.reduceMul, Int.reducePow, Int.reduceLE, Int.reduceLT, Int.reduceEq, Int.reduceToNat, Int.reduceNeg, reduceCtorEq, Nat.add_zero, Nat.zero_add, beq_self_eq_true, Try.f96, hd, d0, d2, List.reverse_cons, List.length_map, List.length_append, List.length_reverse, wrap_pred (show r.length < 2 ^ 63 by omega), rsplit_call (n := many) (by omega) (by omega), sl35_to3 _ _ _ (show r.length ≤ (r.reverse ++ [h]).length by simp), ht, hrec, e0, hg, hn, unwind, modeEx, resultsOf, one, growR, hm, hp]
      · have d2 : decide ((first : Int) ≤ (splitS many : Int)) = false := by simp only [decide_eq_false_iff_not]; omega
        have hrec := fun cl ro H nx => ih hu' hl' (first - splitS many) (many - splitS many) false cl 1 (by omega) (by omega) (by omega) (.inr rfl) ro H nx
        have hn := fun ro H nx => rnode_call1 hh (growR_range ho r (first - splitS many) (many - splitS many) false hu').1 ro H nx
        have hn2 := fun ro H nx => rnode_call1 hh (growR_range ho r (first - splitS many) (many - splitS many) false hu').2 ro H nx
        simp only [go_sem, Nat.reduceAdd, Nat.reduceSub, Nat.reduceMul, Nat.reduceDiv, Nat.reduceMod, Nat.reducePow, Nat.reduceLeDiff, Nat.reduceLT, Nat.reduceEqDiff, Nat.reduceBEq, Nat.reduceBNe, Int.reduceAdd, Int.reduceSub, Int.reduceMul, Int.reducePow, Int.reduceLE, Int.reduceLT, Int.reduceEq, Int.reduceToNat, Int.reduceNeg, reduceCtorEq, Nat.add_zero, Nat.zero_add, beq_self_eq_true, Try.f96, hd, d0, d2, List.reverse_cons, List.length_map, List.length_append, List.length_reverse, wrap_pred (show r.length < 2 ^ 63 by omega), wrap_sub (show splitS many ≤ many by omega) (by omega), wrap_sub (show splitS many ≤ first by omega) (by omega), rsplit_call (n := many) (by omega) (by omega), sl35_to3 _ _ _ (show r.length ≤ (r.reverse ++ [h]).length by simp), ht, hrec, e0, hg, hn, hn2, unwind, modeEx, resultsOf, one, growR, hm, hp]

/-- what CheckGrown tells -/
def chkGrownS (old first root many : Int) (p : List Int) : Int :=
  if decide (many < 1) || decide (512 < many) || decide (first < 1) || decide (many < first) then 1 else
    if (growR old p.reverse first.toNat many.toNat true).2.2 && decide ((growR old p.reverse first.toNat many.toNat true).1 = old) && decide ((growR old p.reverse first.toNat many.toNat true).2.1 = root) then 0 else 94

theorem CheckGrown_call (old first root many : Int) (cl : Bool) (sz : Nat) (p : List Int) (ho : 0 ≤ old ∧ old ≤ 18446744073709551615) (hp : u64s p) (hlen : p.length < 2 ^ 63) (hsz : p = [] ∨ sz = 1) (ro : Nat) (H : Heap) (nx : Nat) :
    callT env 31 [.int .u64 old, .int .i64 first, .int .u64 root, .int .i64 many, .lit cl sz (p.map (.int .u64))] ro H nx = some (.ret (.int .i64 (chkGrownS old first root many p)), .ups []) := by
  have : ∃ H', runT env 31 [.int .u64 old, .int .i64 first, .int .u64 root, .int .i64 many, .lit cl sz (p.map (.int .u64))] [] 0 = some (.ret (.int .i64 (chkGrownS old first root many p)), H') := by
    rw [run_unfold fn31 rfl]
    unfold chkGrownS
    cases h1 : decide (many < 1) with
    | true => simp only [go_sem, Nat.reduceAdd, Nat.reduceSub, Nat.reduceMul, Nat.reduceDiv, Nat.reduceMod, Nat.reducePow, Nat.reduceLeDiff, Nat.reduceLT, Nat.reduceEqDiff, Nat.reduceBEq, Nat.reduceBNe, Int.reduceAdd, Int.reduceSub, Int.reduceMul, Int.reducePow, Int.reduceLE, Int.reduceLT, Int.reduceEq, Int.reduceToNat, Int.reduceNeg, reduceCtorEq, Nat.add_zero, Nat.zero_add, beq_self_eq_true, Try.f31, h1, unwind, modeEx, resultsOf, one]; exact ⟨_, rfl⟩
    | false =>
      cases h2 : decide (512 < many) with
      | true => simp only [go_sem, Nat.reduceAdd, Nat.reduceSub, Nat.reduceMul, Nat.reduceDiv, Nat.reduceMod, Nat.reducePow, Nat.reduceLeDiff, Nat.reduceLT, Nat.reduceEqDiff, Nat.reduceBEq, Nat.reduceBNe, Int.reduceAdd, Int.reduceSub, Int.reduceMul, Int.reducePow, Int.reduceLE, Int.reduceLT, Int.reduceEq, Int.reduceToNat, Int.reduceNeg, reduceCtorEq, Nat.add_zero, Nat.zero_add, beq_self_eq_true, Try.f31, h1, h2, unwind, modeEx, resultsOf, one]; exact ⟨_, rfl⟩
      | false =>
        cases h3 : decide (first < 1) with
        | true => simp only [go_sem, Nat.reduceAdd, Nat.reduceSub, Nat.reduceMul, Nat.reduceDiv, Nat.reduceMod, Nat.reducePow, Nat.reduceLeDiff, Nat.reduceLT, Nat.reduceEqDiff, Nat.reduceBEq, Nat.reduceBNe, Int.reduceAdd, Int.reduceSub, Int.reduceMul, Int.reducePow, Int.reduceLE, Int.reduceLT, Int.reduceEq, Int.reduceToNat, Int.reduceNeg, reduceCtorEq, Nat.add_zero, Nat.zero_add, beq_self_eq_true, Try.f31, h1, h2, h3, unwind, modeEx, resultsOf, one]; exact ⟨_, rfl⟩
        | false =>
          cases h4 : decide (many < first) with
          | true => simp only [go_sem, Nat.reduceAdd, Nat.reduceSub, Nat.reduceMul, Nat.reduceDiv, Nat.reduceMod, Nat.reducePow, Nat.reduceLeDiff, Nat.reduceLT, Nat.reduceEqDiff, Nat.reduceBEq, Nat.reduceBNe, Int.reduceAdd, Int.reduceSub, Int.reduceMul, Int.reducePow, Int.reduceLE, Int.reduceLT, Int.reduceEq, Int.reduceToNat, Int.reduceNeg, reduceCtorEq, Nat.add_zero, Nat.zero_add, beq_self_eq_true, Try.f31, h1, h2, h3, h4, unwind, modeEx, resultsOf, one]; exact ⟨_, rfl⟩
          | false =>
            simp only [decide_eq_false_iff_not] at h1 h2 h3 h4
            obtain ⟨m, rfl⟩ : ∃ m : Nat, many = m := ⟨many.toNat, by omega⟩
            obtain ⟨q, rfl⟩ : ∃ q : Nat, first = q := ⟨first.toNat, by omega⟩
            have hc := grow_call old ho p.reverse (fun x hx => hp x (by simpa using hx)) (by simpa using hlen) q m true cl sz (by omega) (by omega) (by omega) (by simpa using hsz)
            rw [List.reverse_reverse] at hc
            have d1 : decide ((m : Int) < 1) = false := by simpa using h1
            have d2 : decide (512 < (m : Int)) = false := by simpa using h2
            have d3 : decide ((q : Int) < 1) = false := by simpa using h3
            have d4 : decide ((m : Int) < (q : Int)) = false := by simpa using h4
            simp only [Int.toNat_natCast]
            obtain ⟨x, y, ok, hq⟩ : ∃ x y ok, growR old p.reverse q m true = (x, y, ok) := ⟨_, _, _, rfl⟩
            simp only [hq] at hc ⊢
            cases ok with
            | false =>
              simp only [go_sem, Nat.reduceAdd, Nat.reduceSub, Nat.reduceMul, Nat.reduceDiv, Nat.reduceMod, Nat.reducePow, Nat.reduceLeDiff, Nat.reduceLT, Nat.reduceEqDiff, Nat.reduceBEq, Nat.reduceBNe, Int.reduceAdd, Int.reduceSub, Int.reduceMul, Int.reducePow, Int.reduceLE, Int.reduceLT, Int.reduceEq, Int.reduceToNat, Int.reduceNeg, reduceCtorEq, Nat.add_zero, Nat.zero_add, beq_self_eq_true, Try.f31, d1, d2, d3, d4, hc, unwind, modeEx, resultsOf, one]
              exact ⟨_, rfl⟩
            | true =>
              cases h5 : decide (x = old) with
              | false => simp only [go_sem, Nat.reduceAdd, Nat.reduceSub, Nat.reduceMul, Nat.reduceDiv, Nat.reduceMod, Nat.reducePow, Nat.reduceLeDiff, Nat.reduceLT, Nat.reduceEqDiff, Nat.reduceBEq, Nat.reduceBNe, Int.reduceAdd, Int.reduceSub, Int.reduceMul, Int.reducePow, Int.reduceLE, Int.reduceLT, Int.reduceEq, Int.reduceToNat, Int.reduceNeg, reduceCtorEq, Nat.add_zero, Nat.zero_add, beq_self_eq_true, Try.f31, d1, d2, d3, d4, h5, hc, unwind, modeEx, resultsOf, one]; exact ⟨_, rfl⟩
              | true =>
                cases h6 : decide (y = root) with
                | false => simp only [go_sem, Nat.reduceAdd, Nat.reduceSub, Nat.reduceMul, Nat.reduceDiv, Nat.reduceMod, Nat.reducePow, Nat.reduceLeDiff, Nat.reduceLT, Nat.reduceEqDiff, Nat.reduceBEq, Nat.reduceBNe, Int.reduceAdd, Int.reduceSub, Int.reduceMul, Int.reducePow, Int.reduceLE, Int.reduceLT, Int.reduceEq, Int.reduceToNat, Int.reduceNeg, reduceCtorEq, Nat.add_zero, Nat.zero_add, beq_self_eq_true, Try.f31, d1, d2, d3, d4, h5, h6, hc, unwind, modeEx, resultsOf, one]; exact ⟨_, rfl⟩
                | true => simp only [go_sem, Nat.reduceAdd, Nat.reduceSub, Nat.reduceMul, Nat.reduceDiv, Nat.reduceMod, Nat.reducePow, Nat.reduceLeDiff, Nat.reduceLT, Nat.reduceEqDiff, Nat.reduceBEq, Nat.reduceBNe, Int.reduceAdd, Int.reduceSub, Int.reduceMul, Int.reducePow, Int.reduceLE, Int.reduceLT, Int.reduceEq, Int.reduceToNat, Int.reduceNeg, reduceCtorEq, Nat.add_zero, Nat.zero_add, beq_self_eq_true, Try.f31, d1, d2, d3, d4, h5, h6, hc, unwind, modeEx, resultsOf, one]; exact ⟨_, rfl⟩
  obtain ⟨H', h⟩ := this
  exact call_pure rfl rfl rfl (by simp [underL, AVal.under]) h rfl ro H nx

theorem rCheckGrown_call (old first root many : Int) (cl : Bool) (sz : Nat) (p : List Int) (ho : 0 ≤ old ∧ old ≤ 18446744073709551615) (hp : u64s p) (hlen : p.length < 2 ^ 63) (hsz : p = [] ∨ sz = 1) (ro : Nat) (H : Heap) (nx : Nat) :
    callT env 32 [.int .u64 old, .int .i64 first, .int .u64 root, .int .i64 many, .lit cl sz (p.map (.int .u64))] ro H nx = some (.ret (.int .i64 (chkGrownS old first root many p)), .ups []) := by
  have : ∃ H', runT env 32 [.int .u64 old, .int .i64 first, .int .u64 root, .int .i64 many, .lit cl sz (p.map (.int .u64))] [] 0 = some (.ret (.int .i64 (chkGrownS old first root many p)), H') := by
    rw [run_unfold fn32 rfl]
    unfold chkGrownS
    cases h1 : decide (many < 1) with
    | true => simp only [go_sem, Nat.reduceAdd, Nat.reduceSub, Nat.reduceMul, Nat.reduceDiv, Nat.reduceMod, Nat.reducePow, Nat.reduceLeDiff, Nat.reduceLT, Nat.reduceEqDiff, Nat.reduceBEq, Nat.reduceBNe, Int.reduceAdd, Int.reduceSub, Int.reduceMul, Int.reducePow, Int.reduceLE, Int.reduceLT, Int.reduceEq, Int.reduceToNat, Int.reduceNeg, reduceCtorEq, Nat.add_zero, Nat.zero_add, beq_self_eq_true, Try.f32, h1, unwind, modeEx, resultsOf, one]; exact ⟨_, rfl⟩
    | false =>
      cases h2 : decide (512 < many) with
      | true => simp only [go_sem, Nat.reduceAdd, Nat.reduceSub, Nat.reduceMul, Nat.reduceDiv, Nat.reduceMod, Nat.reducePow, Nat.reduceLeDiff, Nat.reduceLT, Nat.reduceEqDiff, Nat.reduceBEq, Nat.reduceBNe, Int.reduceAdd, Int.reduceSub, Int.reduceMul, Int.reducePow, Int.reduceLE, Int.reduceLT, Int.reduceEq, Int.reduceToNat, Int.reduceNeg, reduceCtorEq, Nat.add_zero, Nat.zero_add, beq_self_eq_true, Try.f32, h1, h2, unwind, modeEx, resultsOf, one]; exact ⟨_, rfl⟩
      | false =>
        cases h3 : decide (first < 1) with
        | true => simp only [go_sem, Nat.reduceAdd, Nat.reduceSub, Nat.reduceMul, Nat.reduceDiv, Nat.reduceMod, Nat.reducePow, Nat.reduceLeDiff, Nat.reduceLT, Nat.reduceEqDiff, Nat.reduceBEq, Nat.reduceBNe, Int.reduceAdd, Int.reduceSub, Int.reduceMul, Int.reducePow, Int.reduceLE, Int.reduceLT, Int.reduceEq, Int.reduceToNat, Int.reduceNeg, reduceCtorEq, Nat.add_zero, Nat.zero_add, beq_self_eq_true, Try.f32, h1, h2, h3, unwind, modeEx, resultsOf, one]; exact ⟨_, rfl⟩
        | false =>
          cases h4 : decide (many < first) with
          | true => simp only [go_sem, Nat.reduceAdd, Nat.reduceSub, Nat.reduceMul, Nat.reduceDiv, Nat.reduceMod, Nat.reducePow, Nat.reduceLeDiff, Nat.reduceLT, Nat.reduceEqDiff, Nat.reduceBEq, Nat.reduceBNe, Int.reduceAdd, Int.reduceSub, Int.reduceMul, Int.reducePow, Int.reduceLE, Int.reduceLT, Int.reduceEq, Int.reduceToNat, Int.reduceNeg, reduceCtorEq, Nat.add_zero, Nat.zero_add, beq_self_eq_true, Try.f32, h1, h2, h3, h4, unwind, modeEx, resultsOf, one]; exact ⟨_, rfl⟩
          | false =>
            simp only [decide_eq_false_iff_not] at h1 h2 h3 h4
            obtain ⟨m, rfl⟩ : ∃ m : Nat, many = m := ⟨many.toNat, by omega⟩
            obtain ⟨q, rfl⟩ : ∃ q : Nat, first = q := ⟨first.toNat, by omega⟩
            have hc := grows_call old ho p.reverse (fun x hx => hp x (by simpa using hx)) (by simpa using hlen) q m true cl sz (by omega) (by omega) (by omega) (by simpa using hsz)
            rw [List.reverse_reverse] at hc
            have d1 : decide ((m : Int) < 1) = false := by simpa using h1
            have d2 : decide (512 < (m : Int)) = false := by simpa using h2
            have d3 : decide ((q : Int) < 1) = false := by simpa using h3
            have d4 : decide ((m : Int) < (q : Int)) = false := by simpa using h4
            simp only [Int.toNat_natCast]
            obtain ⟨x, y, ok, hq⟩ : ∃ x y ok, growR old p.reverse q m true = (x, y, ok) := ⟨_, _, _, rfl⟩
            simp only [hq] at hc ⊢
            cases ok with
            | false =>
              simp only [go_sem, Nat.reduceAdd, Nat.reduceSub, Nat.reduceMul, Nat.reduceDiv, Nat.reduceMod, Nat.reducePow, Nat.reduceLeDiff, Nat.reduceLT, Nat.reduceEqDiff, Nat.reduceBEq, Nat.reduceBNe, Int.reduceAdd, Int.reduceSub, Int.reduceMul, Int.reducePow, Int.reduceLE, Int.reduceLT, Int.reduceEq, Int.reduceToNat, Int.reduceNeg, reduceCtorEq, Nat.add_zero, Nat.zero_add, beq_self_eq_true, Try.f32, d1, d2, d3, d4, hc, unwind, modeEx, resultsOf, one]
              exact ⟨_, rfl⟩
            | true =>
              cases h5 : decide (x = old) with
              | false => simp only [go_sem, Nat.reduceAdd, Nat.reduceSub, Nat.reduceMul, Nat.reduceDiv, Nat.reduceMod, Nat.reducePow, Nat.reduceLeDiff, Nat.reduceLT, Nat.reduceEqDiff, Nat.reduceBEq, Nat.reduceBNe, Int.reduceAdd, Int.reduceSub, Int.reduceMul, Int.reducePow, Int.reduceLE, Int.reduceLT, Int.reduceEq, Int.reduceToNat, Int.reduceNeg, reduceCtorEq, Nat.add_zero, Nat.zero_add, beq_self_eq_true, Try.f32, d1, d2, d3, d4, h5, hc, unwind, modeEx, resultsOf, one]; exact ⟨_, rfl⟩
              | true =>
                cases h6 : decide (y = root) with
                | false => simp only [go_sem, Nat.reduceAdd, Nat.reduceSub, Nat.reduceMul, Nat.reduceDiv, Nat.reduceMod, Nat.reducePow, Nat.reduceLeDiff, Nat.reduceLT, Nat.reduceEqDiff, Nat.reduceBEq, Nat.reduceBNe, Int.reduceAdd, Int.reduceSub, Int.reduceMul, Int.reducePow, Int.reduceLE, Int.reduceLT, Int.reduceEq, Int.reduceToNat, Int.reduceNeg, reduceCtorEq, Nat.add_zero, Nat.zero_add, beq_self_eq_true, Try.f32, d1, d2, d3, d4, h5, h6, hc, unwind, modeEx, resultsOf, one]; exact ⟨_, rfl⟩
                | true => simp only [go_sem, Nat.reduceAdd, Nat.reduceSub, Nat.reduceMul, Nat.reduceDiv, Nat.reduceMod, Nat.reducePow, Nat.reduceLeDiff, Nat.reduceLT, Nat.reduceEqDiff, Nat.reduceBEq, Nat.reduceBNe, Int.reduceAdd, Int.reduceSub, Int.reduceMul, Int.reducePow, Int.reduceLE, Int.reduceLT, Int.reduceEq, Int.reduceToNat, Int.reduceNeg, reduceCtorEq, Nat.add_zero, Nat.zero_add, beq_self_eq_true, Try.f32, d1, d2, d3, d4, h5, h6, hc, unwind, modeEx, resultsOf, one]; exact ⟨_, rfl⟩
  obtain ⟨H', h⟩ := this
  exact call_pure rfl rfl rfl (by simp [underL, AVal.under]) h rfl ro H nx

end Go.Proofs.Ytamcncpgfhfheaa.Tidy

/-
  Growths: what is hashed; lists of entries compared.
-/
namespace Go.Proofs.Ytamcncpgfhfheaa.Tidy
open Go Go.IntWalk
set_option maxRecDepth 10000
set_option linter.unusedSimpArgs false

@[go_sem] theorem bin_entryne (e x : Entry) {fs : List (Nat × Nat)} {n m : Nat} {z : AVal} : binOp env .neq 23 ⟨.struct fs, n, m, z⟩ e.enc x.enc = some (.bool !(entryEq e x)) := by
  have h : env.keyOk 23 e.enc = true := rfl
  unfold Entry.enc at h ⊢
  simp only [binOp, eqOp, h, if_true, eqvL, eqv, Option.map_some, entryEq, Bool.and_true]

theorem equalE_loop {c1 c2 : Bool} (xs ys : List Entry) (hl : xs.length = ys.length) (hlen : xs.length < 2 ^ 63) (H : Heap) (ro : Nat) : ∀ (n i : Nat) (j2 j3 j5 j6 j7 j8 j9 j10 j11 j14 j15 j16 j17 j18 j19 j20 j21 j22 j23 j24 j25 : AVal), i + n = xs.length →
    Goes (execT env (Try.f56.at [1, 1, 0, 1, 0]) ⟨[.lit c1 3 (xs.map Entry.enc), .lit c2 3 (ys.map Entry.enc), j2, j3, .bool false, j5, j6, j7, j8, j9, j10, j11, .int .i64 xs.length, .int .i64 i, j14, j15, j16, j17, j18, j19, j20, j21, j22, j23, j24, j25], H, [], ro, []⟩) fun e s =>
      if xs.drop i = ys.drop i then e = .exit 0 ∧ ∃ j0 j1 j2 j3 j4 j5 j6 j7 j8 j9 j10 j11 j12 j13 j14 j15 j16 j17 j18 j19 j20 j21 j22 j23 j24 j25, s = ⟨[j0, j1, j2, j3, j4, j5, j6, j7, j8, j9, j10, j11, j12, j13, j14, j15, j16, j17, j18, j19, j20, j21, j22, j23, j24, j25], H, [], ro, []⟩ else e = .ret ∧ ∃ j0 j1 j2 j3 j5 j6 j7 j8 j9 j10 j11 j12 j13 j14 j15 j16 j17 j18 j19 j20 j21 j22 j23 j24 j25, s = ⟨[j0, j1, j2, j3, .bool false, j5, j6, j7, j8, j9, j10, j11, j12, j13, j14, j15, j16, j17, j18, j19, j20, j21, j22, j23, j24, j25], H, [], ro, []⟩ := by
  intro n
  induction n with
  | zero =>
    intro i j2 j3 j5 j6 j7 j8 j9 j10 j11 j14 j15 j16 j17 j18 j19 j20 j21 j22 j23 j24 j25 hi
    have hd : decide ((i : Int) < (xs.length : Int)) = false := by simp; omega
    have hq1 : xs.drop i = [] := List.drop_eq_nil_of_le (by omega)
    have hq2 : ys.drop i = [] := List.drop_eq_nil_of_le (by omega)
    simp only [go_sem, Nat.reduceAdd, Nat.reduceSub, Nat.reduceMul, Nat.reduceDiv, Nat.reduceMod, Nat.reducePow, Nat.reduceLeDiff, Nat.reduceLT, Nat.reduceEqDiff, Nat.reduceBEq, Nat.reduceBNe, Int.reduceAdd, Int.reduceSub, Int.reduceMul, Int.reducePow, Int.reduceLE, Int.reduceLT, Int.reduceEq, Int.reduceToNat, Int.reduceNeg, reduceCtorEq, Nat.add_zero, Nat.zero_add, beq_self_eq_true, Try.f56]
    rw [execT_loop]
    simp only [go_sem, Nat.reduceAdd, Nat.reduceSub, Nat.reduceMul, Nat.reduceDiv, Nat.reduceMod, Nat.reducePow, Nat.reduceLeDiff, Nat.reduceLT, Nat.reduceEqDiff, Nat.reduceBEq, Nat.reduceBNe, Int.reduceAdd, Int.reduceSub, Int.reduceMul, Int.reducePow, Int.reduceLE, Int.reduceLT, Int.reduceEq, Int.reduceToNat, Int.reduceNeg, reduceCtorEq, Nat.add_zero, Nat.zero_add, beq_self_eq_true, hd, hq1, hq2]
    exact ⟨_, _, _, _, _, _, _, _, _, _, _, _, _, _, _, _, _, _, _, _, _, _, _, _, _, _, rfl⟩
  | succ n ih =>
    intro i j2 j3 j5 j6 j7 j8 j9 j10 j11 j14 j15 j16 j17 j18 j19 j20 j21 j22 j23 j24 j25 hi
    have hd : decide ((i : Int) < (xs.length : Int)) = true := by simp; omega
    have h0 : (0 : Int) ≤ (i : Int) := by omega
    obtain ⟨x, hx, hxd⟩ := get_drop (show i < xs.length by omega)
    obtain ⟨y, hy, hyd⟩ := get_drop (show i < ys.length by omega)
    have hx' : (xs.map Entry.enc)[(i : Int).toNat]? = some x.enc := get_map hx
    have hy' : (ys.map Entry.enc)[(i : Int).toNat]? = some y.enc := get_map hy
    have ih' := ih (i + 1)
    simp only [go_sem, Nat.reduceAdd, Nat.reduceSub, Nat.reduceMul, Nat.reduceDiv, Nat.reduceMod, Nat.reducePow, Nat.reduceLeDiff, Nat.reduceLT, Nat.reduceEqDiff, Nat.reduceBEq, Nat.reduceBNe, Int.reduceAdd, Int.reduceSub, Int.reduceMul, Int.reducePow, Int.reduceLE, Int.reduceLT, Int.reduceEq, Int.reduceToNat, Int.reduceNeg, reduceCtorEq, Nat.add_zero, Nat.zero_add, beq_self_eq_true, Try.f56] at ih' ⊢
    rw [execT_loop, hxd, hyd]
    cases hxy : entryEq x y with
    | true =>
      obtain rfl := (entryEq_iff x y).1 hxy
      simp only [go_sem, Nat.reduceAdd, Nat.reduceSub, Nat.reduceMul, Nat.reduceDiv, Nat.reduceMod, Nat.reducePow, Nat.reduceLeDiff, Nat.reduceLT, Nat.reduceEqDiff, Nat.reduceBEq, Nat.reduceBNe, Int.reduceAdd, Int.reduceSub, Int.reduceMul, Int.reducePow, Int.reduceLE, Int.reduceLT, Int.reduceEq, Int.reduceToNat, Int.reduceNeg, reduceCtorEq, Nat.add_zero, Nat.zero_add, beq_self_eq_true, hd, h0, hx', hy', hxy, wrap_succ (show i < 2 ^ 63 - 1 by omega), List.cons.injEq]
      exact ih' _ _ _ _ _ _ _ _ _ _ _ _ _ _ _ _ _ _ _ _ _ (by omega)
    | false =>
      have hne : x ≠ y := fun h => by rw [(entryEq_iff x y).2 h] at hxy; cases hxy
      have hcc : ∀ a b : List Entry, (x :: a = y :: b) = False := by intro a b; simp [hne]
      simp only [go_sem, Nat.reduceAdd, Nat.reduceSub, Nat.reduceMul, Nat.reduceDiv, Nat.reduceMod, Nat.reducePow, Nat.reduceLeDiff, Nat.reduceLT, Nat.reduceEqDiff, Nat.reduceBEq, Nat.reduceBNe, Int.reduceAdd, Int.reduceSub, Int.reduceMul, Int.reducePow, Int.reduceLE, Int.reduceLT, Int.reduceEq, Int.reduceToNat, Int.reduceNeg, reduceCtorEq, Nat.add_zero, Nat.zero_add, beq_self_eq_true, hd, h0, hx', hy', hxy, hcc]
      exact ⟨_, _, _, _, _, _, _, _, _, _, _, _, _, _, _, _, _, _, _, _, _, _, _, _, _, rfl⟩

theorem equalE_call (c1 c2 : Bool) (xs ys : List Entry) (hlen : xs.length < 2 ^ 63) : ∃ b, (b = true ↔ xs = ys) ∧ ∀ ro H nx,
    callT env 56 [.lit c1 3 (xs.map Entry.enc), .lit c2 3 (ys.map Entry.enc)] ro H nx = some (.ret (.bool b), .ups []) := by
  suffices h : ∃ b, (b = true ↔ xs = ys) ∧ runT env 56 [.lit c1 3 (xs.map Entry.enc), .lit c2 3 (ys.map Entry.enc)] [] 0 = some (.ret (.bool b), []) by
    obtain ⟨b, h1, h2⟩ := h
    exact ⟨b, h1, fun ro H nx => call_pure rfl rfl rfl rfl h2 rfl ro H nx⟩
  rw [run_unfold fn56 rfl]
  by_cases hl : xs.length = ys.length
  · have d1 : decide ((xs.length : Int) = (ys.length : Int)) = true := by simp only [decide_eq_true_eq]; omega
    obtain ⟨e, s, hx, hp⟩ := equalE_loop (c1 := c1) (c2 := c2) xs ys hl hlen [] 0 xs.length 0 _ _ _ _ _ _ _ _ _ _ _ _ _ _ _ _ _ _ _ _ _ (by omega)
    simp only [List.drop_zero] at hp
    simp only [go_sem, Nat.reduceAdd, Nat.reduceSub, Nat.reduceMul, Nat.reduceDiv, Nat.reduceMod, Nat.reducePow, Nat.reduceLeDiff, Nat.reduceLT, Nat.reduceEqDiff, Nat.reduceBEq, Nat.reduceBNe, Int.reduceAdd, Int.reduceSub, Int.reduceMul, Int.reducePow, Int.reduceLE, Int.reduceLT, Int.reduceEq, Int.reduceToNat, Int.reduceNeg, reduceCtorEq, Nat.add_zero, Nat.zero_add, beq_self_eq_true, Try.f56, Int.ofNat_zero, Int.natCast_zero] at hx
    simp only [go_sem, Nat.reduceAdd, Nat.reduceSub, Nat.reduceMul, Nat.reduceDiv, Nat.reduceMod, Nat.reducePow, Nat.reduceLeDiff, Nat.reduceLT, Nat.reduceEqDiff, Nat.reduceBEq, Nat.reduceBNe, Int.reduceAdd, Int.reduceSub, Int.reduceMul, Int.reducePow, Int.reduceLE, Int.reduceLT, Int.reduceEq, Int.reduceToNat, Int.reduceNeg, reduceCtorEq, Nat.add_zero, Nat.zero_add, beq_self_eq_true, Try.f56, List.length_map, d1]
    rw [hx]
    by_cases hxy : xs = ys
    · rw [if_pos hxy] at hp
      obtain ⟨rfl, j0, j1, j2, j3, j4, j5, j6, j7, j8, j9, j10, j11, j12, j13, j14, j15, j16, j17, j18, j19, j20, j21, j22, j23, j24, j25, rfl⟩ := hp
      refine ⟨true, by simp [hxy], ?_⟩
      simp only [go_sem, Nat.reduceAdd, Nat.reduceSub, Nat.reduceMul, Nat.reduceDiv, Nat.reduceMod, Nat.reducePow, Nat.reduceLeDiff, Nat.reduceLT, Nat.reduceEqDiff, Nat.reduceBEq, Nat.reduceBNe, Int.reduceAdd, Int.reduceSub, Int.reduceMul, Int.reducePow, Int.reduceLE, Int.reduceLT, Int.reduceEq, Int.reduceToNat, Int.reduceNeg, reduceCtorEq, Nat.add_zero, Nat.zero_add, beq_self_eq_true, unwind, modeEx, resultsOf, one]
    · rw [if_neg hxy] at hp
      obtain ⟨rfl, j0, j1, j2, j3, j5, j6, j7, j8, j9, j10, j11, j12, j13, j14, j15, j16, j17, j18, j19, j20, j21, j22, j23, j24, j25, rfl⟩ := hp
      refine ⟨false, by simp [hxy], ?_⟩
      simp only [go_sem, Nat.reduceAdd, Nat.reduceSub, Nat.reduceMul, Nat.reduceDiv, Nat.reduceMod, Nat.reducePow, Nat.reduceLeDiff, Nat.reduceLT, Nat.reduceEqDiff, Nat.reduceBEq, Nat.reduceBNe, Int.reduceAdd, Int.reduceSub, Int.reduceMul, Int.reducePow, Int.reduceLE, Int.reduceLT, Int.reduceEq, Int.reduceToNat, Int.reduceNeg, reduceCtorEq, Nat.add_zero, Nat.zero_add, beq_self_eq_true, unwind, modeEx, resultsOf, one]
  · have d1 : decide ((xs.length : Int) = (ys.length : Int)) = false := by simp only [decide_eq_false_iff_not]; omega
    have hxy : xs ≠ ys := by rintro rfl; exact hl rfl
    refine ⟨false, by simp [hxy], ?_⟩
    simp only [go_sem, Nat.reduceAdd, Nat.reduceSub, Nat.reduceMul, Nat.reduceDiv, Nat.reduceMod, Nat.reducePow, Nat.reduceLeDiff, Nat.reduceLT, Nat.reduceEqDiff, Nat.reduceBEq, Nat.reduceBNe, Int.reduceAdd, Int.reduceSub, Int.reduceMul, Int.reducePow, Int.reduceLE, Int.reduceLT, Int.reduceEq, Int.reduceToNat, Int.reduceNeg, reduceCtorEq, Nat.add_zero, Nat.zero_add, beq_self_eq_true, Try.f56, List.length_map, d1, unwind, modeEx, resultsOf, one]

/-- strings more, in a list of strings -/
theorem append64L {v : AVal} {us : Ups} {xs : List (List UInt8)} (hv : VecB 1 0 v us (xs.map .str)) (hx : xs.length ≤ 2000) (ys : List (List UInt8)) (hy : ys ≠ []) (hyl : ys.length ≤ 10) :
    ∃ u us', appendOp env 0 (putU [] us).length 64 v (.lit true 1 (ys.map .str)) (putU [] us) = some (u, us') ∧ VecA 1 u (putU (putU [] us) us') ((xs ++ ys).map .str) := by
  have hb : (xs.length + ys.length) * (16 + 1) ≤ maxBytes := by unfold maxBytes; omega
  have hn : ys.map AVal.str ≠ [] := by simpa using hy
  have hnr : (ys.map AVal.str).all noRef = true := by simp [noRef, AVal.under]
  rcases hv with ⟨sz, rfl, rfl, hsz⟩ | ⟨g, rfl, rfl, h0⟩
  · refine ⟨.ref 0 0 0 (xs.length + ys.length) false, [(0, .cells 0 1 true ((xs ++ ys).map .str))], ?_, .inr ⟨0, by simp, by simp [putU], by simp [hy]⟩⟩
    have := append_lit (E := env) (nx := 0) (ro := 0) (H := []) (x := .lit true 1 (ys.map .str)) (sz := sz) (es := xs.map .str) ti64 ti9 rfl ⟨by decide, rfl, rfl⟩ rfl hn hsz (by simpa using hb) (fun _ => hnr)
    simpa [putU, newBlk, show flatTy env 8 9 = true from rfl] using this
  · have hl : 0 < xs.length := List.length_pos_iff.2 (by simpa using h0)
    refine ⟨.ref 0 (g + 1) 0 (xs.length + ys.length) false, [(0, .cells (g + 1) 1 true ((xs ++ ys).map .str))], ?_, .inr ⟨g + 1, by simp, by simp [putU], by simp [hy]⟩⟩
    have := append_ref (E := env) (nx := 1) (ro := 0) (id := 0) (g := g) (fl := true) (H := [.cells g 1 true (xs.map .str)]) (x := .lit true 1 (ys.map .str)) (bs := xs.map .str) (len := xs.length) ti64 ti9 rfl ⟨by decide, rfl, rfl⟩ rfl hn rfl (by simp) hl (by omega) (by simpa using hb) (fun _ => hnr)
    simpa [putU] using this

/-- all that is hashed when a growth makes roots; the growth from its end -/
def growStr (old : Int) : List Int → Nat → Nat → Bool → List (List UInt8)
  | [], _, _, _ => []
  | h :: r, first, many, whole => if first = many then [] else
      if first ≤ splitS many then growStr old r first (splitS many) whole ++ [nodeB (growR old r first (splitS many) whole).2.1 h]
      else growStr old r (first - splitS many) (many - splitS many) false ++ [nodeB h (growR old r (first - splitS many) (many - splitS many) false).1, nodeB h (growR old r (first - splitS many) (many - splitS many) false).2.1]

theorem growStr_length (old : Int) : ∀ (r : List Int) (first many : Nat) (whole : Bool), (growStr old r first many whole).length ≤ 2 * r.length
  | [], _, _, _ => by simp [growStr]
  | h :: r, first, many, whole => by
    simp only [growStr]
    split
    · simp
    · split
      · have := growStr_length old r first (splitS many) whole
        simp only [List.length_append, List.length_cons, List.length_nil]; omega
      · have := growStr_length old r (first - splitS many) (many - splitS many) false
        simp only [List.length_append, List.length_cons, List.length_nil]; omega

theorem growStr_small (old : Int) : ∀ (r : List Int) (first many : Nat) (whole : Bool), ∀ s ∈ growStr old r first many whole, s.length < 2 ^ 63
  | [], _, _, _, s, hs => by simp [growStr] at hs
  | h :: r, first, many, whole, s, hs => by
    simp only [growStr] at hs
    split at hs
    · cases hs
    · split at hs
      · rcases List.mem_append.1 hs with hs | hs
        · exact growStr_small old r _ _ _ s hs
        · simp only [List.mem_cons, List.not_mem_nil, or_false] at hs
          subst hs; rw [nodeB_length]; decide
      · rcases List.mem_append.1 hs with hs | hs
        · exact growStr_small old r _ _ _ s hs
        · simp only [List.mem_cons, List.not_mem_nil, or_false] at hs
          rcases hs with rfl | rfl <;> (rw [nodeB_length]; decide)

/-- a call that hands back two numbers and a list -/
theorem call_vecT {E : Env} {f : Nat} {args : List AVal} {sz : Nat} {x y v : AVal} {H' : Heap} {es : List AVal} (hw : (E.hint f).whole = false) (hk : (E.hint f).keepAll = false) (hr0 : (E.hint f).ro = false) (hkeep : (E.hint f).keep = [0]) (ha : underL 0 args = true) (hr : runT E f args [] 0 = some (.ret (.tuple [x, y, v]), H')) (hx : noRef x = true) (hy : noRef y = true) (hv : VecA sz v H' es) (ro : Nat) (H : Heap) (nx : Nat) :
    ∃ u us, callT E f args ro H nx = some (.ret (.tuple [x, y, u]), .ups us) ∧ VecB sz nx u us es := by
  rw [call_of_run hw ha hr]
  have h2 : ∀ keep, handBack H' 0 keep 3 x = some x := fun keep => handBack_noRef _ _ _ _ _ hx
  have h3 : ∀ keep, handBack H' 0 keep 3 y = some y := fun keep => handBack_noRef _ _ _ _ _ hy
  rcases hv with ⟨s, rfl, rfl, hsz⟩ | ⟨g, rfl, rfl, hne⟩
  · refine ⟨.lit true s es, [], ?_, .inl ⟨s, rfl, rfl, hsz⟩⟩
    simp only [callBack, keepOf, hk, hkeep, Bool.false_eq_true, if_false]
    rw [show uniq (List.filter (fun j => decide (List.length ([] : List Nat) ≤ j) && decide (j < List.length ([] : Heap))) [0]) = [] from rfl]
    simp only [getAll, List.length_nil, handBack_tuple, mapO, h2, h3]
    simp only [handBack, Option.map_some]
    simp only [List.isEmpty_nil, Bool.true_or, if_true, AVal.ren, renL, (ren_noRef _).1 x hx, (ren_noRef _).1 y hy, callUpd, hr0, Bool.false_eq_true, if_false, List.map_nil, numbered, List.append_nil]
    rfl
  · refine ⟨.ref nx g 0 es.length false, [(nx, .cells g sz true es)], ?_, .inr ⟨g, rfl, rfl, hne⟩⟩
    simp only [callBack, keepOf, hk, hkeep, Bool.false_eq_true, if_false]
    rw [show uniq (List.filter (fun j => decide (List.length ([] : List Nat) ≤ j) && decide (j < List.length [Blk.cells g sz true es])) [0]) = [0] from rfl]
    simp only [List.length_nil, handBack_tuple, mapO, h2, h3]
    simp [getAll, handBack, callUpd, hr0, backF, idx, renB, numbered, AVal.ren, renL, (ren_noRef _).1 x hx, (ren_noRef _).1 y hy]
end Go.Proofs.Ytamcncpgfhfheaa.Tidy

/-
  Growths: the strings that are hashed, run.
-/
namespace Go.Proofs.Ytamcncpgfhfheaa.Tidy
open Go Go.IntWalk
set_option maxRecDepth 10000
set_option linter.unusedSimpArgs false

theorem growR_cons (old h : Int) (r : List Int) (first many : Nat) (whole : Bool) : growR old (h :: r) first many whole = if first = many then (if whole then (old, old, false) else if r.length = 0 then (h, h, true) else (0, 0, false)) else
      if first ≤ splitS many then ((growR old r first (splitS many) whole).1, nodeI (growR old r first (splitS many) whole).2.1 h, (growR old r first (splitS many) whole).2.2)
      else (nodeI h (growR old r (first - splitS many) (many - splitS many) false).1, nodeI h (growR old r (first - splitS many) (many - splitS many) false).2.1, (growR old r (first - splitS many) (many - splitS many) false).2.2) := by
  rw [growR]

theorem nodeHash_call {a b : Int} (ha : u64 a) (hb : u64 b) (ro : Nat) (H : Heap) (nx : Nat) : callT env 87 [.str (nodeB a b)] ro H nx = some (.ret (.int .u64 (nodeI a b)), .ups []) := by
  rw [hash_call _ (by rw [nodeB_length]; decide), node_eq ha.1 ha.2 hb.1 hb.2]

theorem grows_run (old : Int) (ho : u64 old) : ∀ (r : List Int), u64s r → r.length ≤ 512 → ∀ (first many : Nat) (whole : Bool) (cl : Bool) (sz : Nat), 1 ≤ first → many ≤ 512 → first ≤ many → (r = [] ∨ sz = 1) → (growR old r first many whole).2.2 = true → ∃ v H',
    runT env 57 [.int .u64 old, .int .i64 first, .int .i64 many, .bool whole, .lit cl sz (r.reverse.map (.int .u64))] [] 0 = some (.ret (.tuple [.int .u64 (growR old r first many whole).1, .int .u64 (growR old r first many whole).2.1, v]), H') ∧ VecA 1 v H' ((growStr old r first many whole).map .str) := by
  intro r
  induction r with
  | nil =>
    intro _ _ first many whole cl sz h1 h2 h3 _ hok
    simp only [growR] at hok
    split at hok
    · rename_i hm
      cases whole with
      | false => cases hok
      | true =>
        have hd : decide ((first : Int) = (many : Int)) = true := by simp only [decide_eq_true_eq]; omega
        rw [run_unfold fn57 rfl]
        simp only [go_sem, Nat.reduceAdd, Nat.reduceSub, Nat.reduceMul, Nat.reduceDiv, Nat.reduceMod, Nat.reducePow, Nat.reduceLeDiff, Nat.reduceLT, Nat.reduceEqDiff, Nat.reduceBEq, Nat.reduceBNe, Int.reduceAdd, Int.reduceSub, Int.reduceMul, Int.reducePow, Int.reduceLE, Int.reduceLT, Int.reduceEq, Int.reduceToNat, Int.reduceNeg, reduceCtorEq, Nat.add_zero, Nat.zero_add, beq_self_eq_true, Try.f57, hd, List.reverse_nil, unwind, modeEx, resultsOf, one, growR, growStr, hm]
        exact ⟨_, _, rfl, .inl ⟨0, rfl, rfl, .inl rfl⟩⟩
    · cases hok
  | cons h r ih =>
    intro hu hl first many whole cl sz h1 h2 h3 hsz hok
    obtain rfl : sz = 1 := by rcases hsz with h | h; · cases h
                              · exact h
    have hh : u64 h := hu h (by simp)
    have hu' : u64s r := fun x hx => hu x (by simp [hx])
    have hl' : r.length + 1 ≤ 512 := by simpa using hl
    rw [growR_cons] at hok
    by_cases hm : first = many
    · rw [if_pos hm] at hok
      cases whole with
      | true => cases hok
      | false =>
        simp only [Bool.false_eq_true, if_false] at hok
        split at hok
        · rename_i hr0
          obtain rfl : r = [] := List.eq_nil_of_length_eq_zero hr0
          have hd : decide ((first : Int) = (many : Int)) = true := by simp only [decide_eq_true_eq]; omega
          have h00 : (0 : Int) ≤ 0 := by omega
          have d0 : decide ((0 : Int) < ((0 + 1 : Nat) : Int)) = true := by decide
          rw [run_unfold fn57 rfl]
          simp only [go_sem, Nat.reduceAdd, Nat.reduceSub, Nat.reduceMul, Nat.reduceDiv, Nat.reduceMod, Nat.reducePow, Nat.reduceLeDiff, Nat.reduceLT, Nat.reduceEqDiff, Nat.reduceBEq, Nat.reduceBNe, Int.reduceAdd, Int.reduceSub, Int.reduceMul, Int.reducePow, Int.reduceLE, Int.reduceLT, Int.reduceEq, Int.reduceToNat, Int.reduceNeg, reduceCtorEq, Nat.add_zero, Nat.zero_add, beq_self_eq_true, Try.f57, hd, d0, h00, List.reverse_cons, List.reverse_nil, List.nil_append, List.length_map, unwind, modeEx, resultsOf, one, growR, growStr, hm]
          exact ⟨_, _, rfl, .inl ⟨0, rfl, rfl, .inl rfl⟩⟩
        · cases hok
    · rw [if_neg hm] at hok
      have hd : decide ((first : Int) = (many : Int)) = false := by simp only [decide_eq_false_iff_not]; omega
      have d0 : decide (((r.length + 1 : Nat) : Int) = 0) = false := by simp only [decide_eq_false_iff_not]; omega
      have hs := splitS_lt (n := many) (by omega)
      have e0 : (0 : Int) ≤ (r.length : Int) := by omega
      have hg : ((r.reverse ++ [h]).map (AVal.int .u64))[r.length]? = some (.int .u64 h) := get_map (by simp)
      have ht : (r.reverse ++ [h]).take r.length = r.reverse := by
        rw [show r.length = r.reverse.length from by simp]; exact List.take_left' rfl
      by_cases hp : first ≤ splitS many
      · rw [if_pos hp] at hok
        have d2 : decide ((first : Int) ≤ (splitS many : Int)) = true := by simp only [decide_eq_true_eq]; omega
        obtain ⟨v, H', hr, hv⟩ := ih hu' (by omega) first (splitS many) whole true 1 h1 (by omega) hp (.inr rfl) hok
        obtain ⟨u, us, hc, huv⟩ := call_vecT (E := env) (f := 57) rfl rfl rfl rfl (by simp [underL, AVal.under]) hr rfl rfl hv 0 [] 0
        have hrg := growR_range ho r first (splitS many) whole hu'
        have hnh := fun ro H nx => nodeHash_call hrg.2 hh ro H nx
        have hlen := growStr_length old r first (splitS many) whole
        obtain ⟨w, us', ha, hw⟩ := append64L huv (by omega) [nodeB (growR old r first (splitS many) whole).2.1 h] (by simp) (by simp)
        simp only [List.map_cons, List.map_nil] at ha
        rw [run_unfold fn57 rfl]
        simp only [go_sem, Nat.reduceAdd, Nat.reduceSub, Nat.reduceMul, Nat.reduceDiv, Nat.reduceMod, Nat.reducePow, Nat.reduceLeDiff, Nat.reduceLT, Nat.reduceEqDiff, Nat.reduceBEq, Nat.reduceBNe, Int.reduceAdd, Int.reduceSub, Int.reduceMul, Int.reducePow, Int.reduceLE, Int.reduceLT, Int.reduceEq, Int.reduceToNat, Int.reduceNeg, reduceCtorEq, Nat.add_zero, Nat.zero_add, beq_self_eq_true, Try.f57, hd, d0, d2, List.reverse_cons, List.length_map, List.length_append, List.length_reverse, wrap_pred (show r.length < 2 ^ 63 by omega), rsplit_call (n := many) (by omega) (by omega), sl35_to3 _ _ _ (show r.length ≤ (r.reverse ++ [h]).length by simp), ht, hc, e0, Int.toNat_natCast, hg, hnh, ha, unwind, modeEx, resultsOf, one, growR_cons, growStr, hm, hp]
        exact ⟨_, _, rfl, hw⟩
      · rw [if_neg hp] at hok
        have d2 : decide ((first : Int) ≤ (splitS many : Int)) = false := by simp only [decide_eq_false_iff_not]; omega
        obtain ⟨v, H', hr, hv⟩ := ih hu' (by omega) (first - splitS many) (many - splitS many) false true 1 (by omega) (by omega) (by omega) (.inr rfl) hok
        obtain ⟨u, us, hc, huv⟩ := call_vecT (E := env) (f := 57) rfl rfl rfl rfl (by simp [underL, AVal.under]) hr rfl rfl hv 0 [] 0
        have hrg := growR_range ho r (first - splitS many) (many - splitS many) false hu'
        have hn1 := fun ro H nx => nodeHash_call hh hrg.1 ro H nx
        have hn2 := fun ro H nx => nodeHash_call hh hrg.2 ro H nx
        have hlen := growStr_length old r (first - splitS many) (many - splitS many) false
        obtain ⟨w, us', ha, hw⟩ := append64L huv (by omega) [nodeB h (growR old r (first - splitS many) (many - splitS many) false).1, nodeB h (growR old r (first - splitS many) (many - splitS many) false).2.1] (by simp) (by simp)
        simp only [List.map_cons, List.map_nil] at ha
        rw [run_unfold fn57 rfl]
        simp only [go_sem, Nat.reduceAdd, Nat.reduceSub, Nat.reduceMul, Nat.reduceDiv, Nat.reduceMod, Nat.reducePow, Nat.reduceLeDiff, Nat.reduceLT, Nat.reduceEqDiff, Nat.reduceBEq, Nat.reduceBNe, Int.reduceAdd, Int.reduceSub, Int.reduceMul, Int.reducePow, Int.reduceLE, Int.reduceLT, Int.reduceEq, Int.reduceToNat, Int.reduceNeg, reduceCtorEq, Nat.add_zero, Nat.zero_add, beq_self_eq_true, Try.f57, hd, d0, d2, List.reverse_cons, List.length_map, List.length_append, List.length_reverse, wrap_pred (show r.length < 2 ^ 63 by omega), wrap_sub (show splitS many ≤ many by omega) (by omega), wrap_sub (show splitS many ≤ first by omega) (by omega), rsplit_call (n := many) (by omega) (by omega), sl35_to3 _ _ _ (show r.length ≤ (r.reverse ++ [h]).length by simp), ht, hc, e0, Int.toNat_natCast, hg, hn1, hn2, ha, unwind, modeEx, resultsOf, one, growR_cons, growStr, hm, hp]
        exact ⟨_, _, rfl, hw⟩

theorem growsT_call (old : Int) (ho : u64 old) (r : List Int) (hu : u64s r) (hl : r.length ≤ 512) (first many : Nat) (whole : Bool) (cl : Bool) (sz : Nat) (h1 : 1 ≤ first) (h2 : many ≤ 512) (h3 : first ≤ many) (hsz : r = [] ∨ sz = 1) (hok : (growR old r first many whole).2.2 = true) (ro : Nat) (H : Heap) (nx : Nat) :
    ∃ u us, callT env 57 [.int .u64 old, .int .i64 first, .int .i64 many, .bool whole, .lit cl sz (r.reverse.map (.int .u64))] ro H nx = some (.ret (.tuple [.int .u64 (growR old r first many whole).1, .int .u64 (growR old r first many whole).2.1, u]), .ups us) ∧ VecB 1 nx u us ((growStr old r first many whole).map .str) := by
  obtain ⟨v, H', hr, hv⟩ := grows_run old ho r hu hl first many whole cl sz h1 h2 h3 hsz hok
  exact call_vecT rfl rfl rfl rfl (by simp [underL, AVal.under]) hr rfl rfl hv ro H nx
end Go.Proofs.Ytamcncpgfhfheaa.Tidy

/-
  What a growth proves, in plain terms.
-/
namespace Go.Proofs.Ytamcncpgfhfheaa.Tidy
open Go Go.IntWalk
set_option linter.unusedSimpArgs false

theorem split_same {n m : Nat} (h : 2 ≤ n) (h1 : splitS n < m) (h2 : m ≤ n) : splitS m = splitS n := by
  have hs := splitS_lt h
  have : Nat.log2 (m - 1) = Nat.log2 (n - 1) := by
    refine (Nat.log2_eq_iff (by omega)).2 ⟨?_, ?_⟩
    · unfold splitS at h1; omega
    · have := Nat.lt_log2_self (n := n - 1); omega
  unfold splitS
  rw [this]

/-- without a collision lists of one length have different roots -/
theorem root_only {S : List (List UInt8)} (hS : NoColl S) : ∀ (n : Nat) (f l : List Entry), l.length ≤ n → f.length = l.length → f.all Entry.ok = true → l.all Entry.ok = true → (∀ s ∈ hashedS f, s ∈ S) → (∀ s ∈ hashedS l, s ∈ S) → rootI f = rootI l → f = l
  | n, f, l, hn, hfl, hf, hl, h1, h2, h => by
    have hsf := all_small hf
    have hsl := all_small hl
    have htop := hS _ (h1 _ (top_mem f)) _ (h2 _ (top_mem l)) (by rw [top_hash hsf, top_hash hsl, h])
    by_cases h0 : l.length = 0
    · rw [List.eq_nil_of_length_eq_zero h0, List.eq_nil_of_length_eq_zero (hfl.trans h0)]
    · by_cases h1' : l.length = 1
      · obtain ⟨x, rfl⟩ := List.length_eq_one_iff.1 h1'
        obtain ⟨y, rfl⟩ := List.length_eq_one_iff.1 (hfl.trans h1')
        rw [topB_one, topB_one] at htop
        rw [leafB_inj (by simpa using hf) (by simpa using hl) htop]
      · obtain ⟨m, rfl⟩ : ∃ m, n = m + 1 := ⟨n - 1, by omega⟩
        have hs := splitS_lt (n := l.length) (by omega)
        rw [topB_two (l := f) (by omega), topB_two (l := l) (by omega)] at htop
        obtain ⟨e1, e2⟩ := nodeB_inj (root_range _) (root_range _) (root_range _) (root_range _) htop
        rw [hfl] at e1 e2
        rw [hashedS_two (l := f) (by omega), hfl] at h1
        rw [hashedS_two (l := l) (by omega)] at h2
        have k1 := root_only hS m (f.take (splitS l.length)) (l.take (splitS l.length)) (by rw [List.length_take]; omega) (by rw [List.length_take, List.length_take, hfl]) (all_take hf _) (all_take hl _)
          (fun s hs => h1 s (List.mem_append_left _ hs)) (fun s hs => h2 s (List.mem_append_left _ hs)) e1
        have k2 := root_only hS m (f.drop (splitS l.length)) (l.drop (splitS l.length)) (by rw [List.length_drop]; omega) (by rw [List.length_drop, List.length_drop, hfl]) (all_drop hf _) (all_drop hl _)
          (fun s hs => h1 s (List.mem_append_right _ (List.mem_append_left _ hs))) (fun s hs => h2 s (List.mem_append_right _ (List.mem_append_left _ hs))) e2
        rw [← List.take_append_drop (splitS l.length) f, k1, k2, List.take_append_drop]

/-- without a collision a growth proves that one list goes on from the other -/
theorem grow_only {S : List (List UInt8)} (hS : NoColl S) {old : Int} (ho : u64 old) : ∀ (r : List Int) (f l : List Entry) (whole : Bool), 1 ≤ f.length → f.length ≤ l.length → f.all Entry.ok = true → l.all Entry.ok = true → u64s r → (∀ s ∈ hashedS f, s ∈ S) → (∀ s ∈ hashedS l, s ∈ S) → (∀ s ∈ growStr old r f.length l.length whole, s ∈ S) →
    growR old r f.length l.length whole = (rootI f, rootI l, true) → f = l.take f.length
  | [], f, l, whole, h1, h2, hf, hl, _, m1, m2, _, h => by
    simp only [growR] at h
    split at h
    · rename_i hm
      cases whole with
      | false => simp at h
      | true =>
        simp only [if_true, Prod.mk.injEq] at h
        rw [List.take_of_length_le (by omega)]
        exact root_only hS _ f l (Nat.le_refl _) hm hf hl m1 m2 (h.1.symm.trans h.2.1)
    · simp at h
  | x :: r, f, l, whole, h1, h2, hf, hl, hu, m1, m2, m3, h => by
    have hh : u64 x := hu x (by simp)
    have hu' : u64s r := fun y hy => hu y (by simp [hy])
    rw [growR_cons] at h
    by_cases hm : f.length = l.length
    · rw [if_pos hm] at h
      rw [List.take_of_length_le (by omega)]
      cases whole with
      | true => simp at h
      | false =>
        simp only [Bool.false_eq_true, if_false] at h
        split at h
        · simp only [Prod.mk.injEq] at h
          exact root_only hS _ f l (Nat.le_refl _) hm hf hl m1 m2 (h.1.symm.trans h.2.1)
        · simp at h
    · rw [if_neg hm] at h
      have hs := splitS_lt (n := l.length) (by omega)
      simp only [growStr, hm, if_false] at m3
      have htop : topB l ∈ S := m2 _ (top_mem l)
      rw [topB_two (l := l) (by omega)] at htop
      have n1 : u64 (rootI (l.take (splitS l.length))) := root_range _
      have n2 : u64 (rootI (l.drop (splitS l.length))) := root_range _
      rw [rootI_two (l := l) (by omega)] at h
      rw [hashedS_two (l := l) (by omega)] at m2
      by_cases hp : f.length ≤ splitS l.length
      · rw [if_pos hp] at h m3
        simp only [Prod.mk.injEq] at h
        have hrg := growR_range ho r f.length (splitS l.length) whole hu'
        have hnode := m3 _ (List.mem_append_right _ (List.mem_singleton.2 rfl))
        have := hS _ hnode _ htop (by rw [node_eq hrg.2.1 hrg.2.2 hh.1 hh.2, node_eq n1.1 n1.2 n2.1 n2.2]; exact h.2.1)
        obtain ⟨e1, e2⟩ := nodeB_inj hrg.2 hh n1 n2 this
        have hk := grow_only hS ho r f (l.take (splitS l.length)) whole h1 (by rw [List.length_take]; omega) hf (all_take hl _) hu' m1 (fun s hs => m2 s (List.mem_append_left _ hs))
          (by rw [List.length_take, Nat.min_eq_left (by omega)]; exact fun s hs => m3 s (List.mem_append_left _ hs)) (by
            rw [List.length_take, Nat.min_eq_left (by omega)]
            exact Prod.ext h.1 (Prod.ext e1 h.2.2))
        rw [List.take_take, Nat.min_eq_left hp] at hk
        exact hk
      · rw [if_neg hp] at h m3
        simp only [Prod.mk.injEq] at h
        have hrg := growR_range ho r (f.length - splitS l.length) (l.length - splitS l.length) false hu'
        have hb := m3 _ (List.mem_append_right _ (List.mem_cons_of_mem _ (List.mem_singleton.2 rfl)))
        have ha := m3 _ (List.mem_append_right _ (List.mem_cons_self))
        have t1 := hS _ hb _ htop (by rw [node_eq hh.1 hh.2 hrg.2.1 hrg.2.2, node_eq n1.1 n1.2 n2.1 n2.2]; exact h.2.1)
        obtain ⟨e1, e2⟩ := nodeB_inj hh hrg.2 n1 n2 t1
        have hsp : splitS f.length = splitS l.length := split_same (by omega) (by omega) h2
        have htf : topB f ∈ S := m1 _ (top_mem f)
        rw [topB_two (l := f) (by omega), hsp] at htf
        rw [rootI_two (l := f) (by omega), hsp] at h
        rw [hashedS_two (l := f) (by omega), hsp] at m1
        have p1 : u64 (rootI (f.take (splitS l.length))) := root_range _
        have p2 : u64 (rootI (f.drop (splitS l.length))) := root_range _
        have t2 := hS _ ha _ htf (by rw [node_eq hh.1 hh.2 hrg.1.1 hrg.1.2, node_eq p1.1 p1.2 p2.1 p2.2]; exact h.1)
        obtain ⟨e3, e4⟩ := nodeB_inj hh hrg.1 p1 p2 t2
        have k1 := root_only hS _ (f.take (splitS l.length)) (l.take (splitS l.length)) (Nat.le_refl _) (by rw [List.length_take, List.length_take]; omega) (all_take hf _) (all_take hl _)
          (fun s hs => m1 s (List.mem_append_left _ hs)) (fun s hs => m2 s (List.mem_append_left _ hs)) (e3.symm.trans e1)
        have k2 := grow_only hS ho r (f.drop (splitS l.length)) (l.drop (splitS l.length)) false (by rw [List.length_drop]; omega) (by rw [List.length_drop, List.length_drop]; omega) (all_drop hf _) (all_drop hl _) hu'
          (fun s hs => m1 s (List.mem_append_right _ (List.mem_append_left _ hs))) (fun s hs => m2 s (List.mem_append_right _ (List.mem_append_left _ hs)))
          (by rw [List.length_drop, List.length_drop]; exact fun s hs => m3 s (List.mem_append_left _ hs)) (by
            rw [List.length_drop, List.length_drop]
            exact Prod.ext e4 (Prod.ext e2 h.2.2))
        rw [List.length_drop] at k2
        have h5 : f.length = splitS l.length + (f.length - splitS l.length) := by omega
        rw [← List.take_append_drop (splitS l.length) f, k1, k2]
        simp only [List.length_append, List.length_take, List.length_drop]
        rw [show min (splitS l.length) l.length + min (f.length - splitS l.length) (l.length - splitS l.length) = splitS l.length + (f.length - splitS l.length) by omega, List.take_add]

/-- a growth makes the roots -/
theorem grow_grown : ∀ (n : Nat) (l : List Entry) (first : Nat) (whole : Bool) (old : Int), l.length ≤ n → 1 ≤ first → first ≤ l.length → (whole = true → old = rootI (l.take first)) → growR old (grownR rootI l first whole) first l.length whole = (rootI (l.take first), rootI l, true)
  | n, l, first, whole, old, hn, h1, h2, ho => by
    by_cases hm : first = l.length
    · rw [grownR_all hm, List.take_of_length_le (by omega)]
      cases whole with
      | true =>
        have := ho rfl
        rw [List.take_of_length_le (by omega)] at this
        simp only [if_true, growR, hm, this]
      | false => simp only [Bool.false_eq_true, if_false, growR_cons, hm, if_true, List.length_nil]
    · obtain ⟨m, rfl⟩ : ∃ m, n = m + 1 := ⟨n - 1, by omega⟩
      have hs := splitS_lt (n := l.length) (by omega)
      by_cases hp : first ≤ splitS l.length
      · have ih := grow_grown m (l.take (splitS l.length)) first whole old (by rw [List.length_take]; omega) h1 (by rw [List.length_take]; omega) (by rw [List.take_take, Nat.min_eq_left hp]; exact ho)
        rw [List.length_take, Nat.min_eq_left (by omega), List.take_take, Nat.min_eq_left hp] at ih
        rw [grownR_left hm (by omega) hp, growR_cons, if_neg hm, if_pos hp, ih, rootI_two (l := l) (by omega)]
      · have ih := grow_grown m (l.drop (splitS l.length)) (first - splitS l.length) false old (by rw [List.length_drop]; omega) (by omega) (by rw [List.length_drop]; omega) (fun h => by cases h)
        rw [List.length_drop] at ih
        have hsp : splitS first = splitS l.length := split_same (by omega) (by omega) h2
        have hlt : (l.take first).length = first := by rw [List.length_take]; omega
        rw [grownR_right hm (by omega) hp, growR_cons, if_neg hm, if_neg hp, ih, rootI_two (l := l) (by omega), rootI_two (l := l.take first) (by omega), hlt, hsp, List.take_take, Nat.min_eq_left (by omega), List.drop_take]

theorem grownR_u64 : ∀ (n : Nat) (l : List Entry) (first : Nat) (whole : Bool), l.length ≤ n → u64s (grownR rootI l first whole)
  | n, l, first, whole, hn => by
    by_cases hm : first = l.length
    · rw [grownR_all hm]
      cases whole with
      | true => intro x hx; cases hx
      | false => intro x hx; obtain rfl : x = rootI l := by simpa using hx
                 exact root_range _
    · by_cases h1 : l.length ≤ 1
      · rw [grownR, if_neg hm, dif_pos h1]; intro x hx; cases hx
      · obtain ⟨m, rfl⟩ : ∃ m, n = m + 1 := ⟨n - 1, by omega⟩
        have hs := splitS_lt (n := l.length) (by omega)
        by_cases hp : first ≤ splitS l.length
        · rw [grownR_left hm (by omega) hp]
          intro x hx
          rcases List.mem_cons.1 hx with rfl | hx
          · exact root_range _
          · exact grownR_u64 m _ _ _ (by rw [List.length_take]; omega) x hx
        · rw [grownR_right hm (by omega) hp]
          intro x hx
          rcases List.mem_cons.1 hx with rfl | hx
          · exact root_range _
          · exact grownR_u64 m _ _ _ (by rw [List.length_drop]; omega) x hx

theorem chkGrown_zero {old first root many : Int} {p : List Int} (h : chkGrownS old first root many p = 0) : (1 ≤ first ∧ first ≤ many ∧ many ≤ 512) ∧ growR old p.reverse first.toNat many.toNat true = (old, root, true) := by
  unfold chkGrownS at h
  split at h
  · cases h
  · rename_i hc
    simp only [Bool.or_eq_true, decide_eq_true_eq, not_or] at hc
    split at h
    · rename_i hg
      simp only [Bool.and_eq_true, decide_eq_true_eq] at hg
      exact ⟨by omega, Prod.ext hg.1.2 (Prod.ext hg.2 hg.1.1)⟩
    · cases h
end Go.Proofs.Ytamcncpgfhfheaa.Tidy

/-
  The law of what growths prove, run.
-/
namespace Go.Proofs.Ytamcncpgfhfheaa.Tidy
open Go Go.IntWalk
set_option maxRecDepth 10000
set_option linter.unusedSimpArgs false

/-- three lists of strings in a block, joined: all by value, or the third one a block -/
theorem join3_call (ca cb : Bool) (A B C : List (List UInt8)) (hA : A ≠ []) (hl : A.length + B.length + C.length < 2 ^ 40) {u : AVal} {us : Ups} (hu : VecB 1 0 u us (C.map .str)) :
    ∃ c, ∃ ws : Ups, (∀ nx, callT env 52 [.ref (putU [] us).length 0 0 3 false] 0 (putU (putU [] us) [((putU [] us).length, .cells 0 1 false [.lit ca 1 (A.map .str), .lit cb 1 (B.map .str), u])]) nx = some (.ret (.lit c 1 ((A ++ (B ++ C)).map .str)), .ups ws)) ∧
      ((us = [] ∧ ws = [(0, .dead)]) ∨ (∃ b, us = [(0, b)] ∧ ws = [(1, .dead), (0, .dead)])) := by
  have hok : ∀ (c1 : Bool) (s : Nat), (C = [] ∨ s = 1) → ∀ p ∈ [Strs.mk ca 1 A, Strs.mk cb 1 B, Strs.mk c1 s C], p.ok := by
    intro c1 s hs p hp
    simp only [List.mem_cons, List.not_mem_nil, or_false] at hp
    rcases hp with rfl | rfl | rfl
    · exact .inr rfl
    · exact .inr rfl
    · exact hs
  have htot : ∀ (c1 : Bool) (s : Nat), total [Strs.mk ca 1 A, Strs.mk cb 1 B, Strs.mk c1 s C] = A.length + B.length + C.length := fun c1 s => by simp [total]; omega
  have hpos := List.length_pos_iff.2 hA
  have hrun := fun c1 s hs => concat_run false [Strs.mk ca 1 A, Strs.mk cb 1 B, Strs.mk c1 s C] (hok c1 s hs) (by simp) (by rw [htot]; omega) (by rw [htot]; exact hl)
  have hj : ∀ (c1 : Bool) (s : Nat), joined [Strs.mk ca 1 A, Strs.mk cb 1 B, Strs.mk c1 s C] = A ++ (B ++ C) := fun _ _ => by simp [joined]
  simp only [hj] at hrun
  simp only [List.map_cons, List.map_nil, Strs.enc] at hrun
  have hne : (A ++ (B ++ C)).map AVal.str ≠ [] := by simp [hA]
  have hback : ∀ (nx : Nat) (ids : List Nat), ids ≠ [] → callBack (env.hint 52) 0 nx [] ids (.ret (.ref 0 0 0 (A ++ (B ++ C)).length false), [.cells 0 1 true ((A ++ (B ++ C)).map .str)]) = some (.ret (.lit false 1 ((A ++ (B ++ C)).map .str)), .ups (ids.map (·, .dead))) := by
    intro nx ids hids
    generalize A ++ (B ++ C) = D at hne
    have h1 : ids.isEmpty = false := by cases ids <;> simp_all
    have h3 : (D.map AVal.str).isEmpty = false := by
      cases h : D.map AVal.str with
      | nil => exact absurd h hne
      | cons _ _ => rfl
    have h2 : handBack [.cells 0 1 true (D.map .str)] 0 [] 4 (.ref 0 0 0 D.length false) = some (.lit false 1 (D.map .str)) := by
      have h1 : List.take D.length (D.map AVal.str) = D.map AVal.str := List.take_of_length_le (by simp)
      simp only [handBack, Nat.not_lt_zero, decide_false, List.contains_nil, Bool.or_self, Bool.false_eq_true, if_false]
      simp only [toLit, noRef, AVal.under, Nat.not_lt_zero, decide_false, Bool.false_eq_true, if_false, List.getElem?_cons_zero, List.length_map, Nat.zero_add, Nat.le_refl, decide_true, List.contains_nil, Bool.not_false, Bool.and_true, if_true, List.drop_zero, h1, Nat.zero_le]
    simp only [callBack, hint52, keepOf, Bool.false_eq_true, if_false, List.filter_nil, uniq, getAll, List.length_nil, h2, h1, AVal.noLit, h3, Bool.false_and, Bool.or_false, Nat.zero_le, decide_true, List.all_eq_true, implies_true, if_true, AVal.ren, callUpd, List.map_nil, numbered]
    rfl
  rcases hu with ⟨s, rfl, rfl, hs⟩ | ⟨g, rfl, rfl, _⟩
  · refine ⟨false, [(0, .dead)], fun nx => ?_, .inl ⟨rfl, rfl⟩⟩
    rw [call_lent1 (E := env) (f := 52) (u := .lit false 1 [.lit ca 1 (A.map .str), .lit cb 1 (B.map .str), .lit true s (C.map .str)]) (ids := [0]) rfl rfl rfl ?_ rfl (hrun true s (by simpa using hs))]
    · exact hback nx [0] (by simp)
    · rfl
  · refine ⟨false, [(1, .dead), (0, .dead)], fun nx => ?_, .inr ⟨_, rfl, rfl⟩⟩
    rw [call_lent1 (E := env) (f := 52) (u := .lit false 1 [.lit ca 1 (A.map .str), .lit cb 1 (B.map .str), .lit false 1 (C.map .str)]) (ids := [1, 0]) rfl rfl rfl ?_ rfl (hrun false 1 (.inr rfl))]
    · exact hback nx [1, 0] (by simp)
    · have h1 : List.take (C.map AVal.str).length (C.map AVal.str) = C.map AVal.str := List.take_of_length_le (Nat.le_refl _)
      rw [List.length_map] at h1
      simp [putU, toLit, noRef, AVal.under, mapO, h1]
theorem hashedS_ne (l : List Entry) : hashedS l ≠ [] := List.ne_nil_of_mem (top_mem l)

theorem chk_take {l : List Entry} (h : chkS l = 0) (n : Nat) : chkS (l.take n) = 0 := by
  obtain ⟨h1, h2⟩ := chk_zero h
  unfold chkS
  rw [if_neg (by rw [List.length_take]; omega), if_pos (all_take h2 n)]

set_option maxHeartbeats 8000000 in
theorem goesOn_law (a0 a1 a2 a3 : List AVal) (h0 : FitT env 8 24 a0) (h1 : FitT env 8 24 a1) (h2 : FitT env 8 3 a2) (h3 : FitT env 8 35 a3) :
    ∃ H', runT env 9 [pack ⟨.slice 23, 1, 24, .lit true 0 []⟩ a0, pack ⟨.slice 23, 1, 24, .lit true 0 []⟩ a1, pack ⟨.int .i64, 1, 8, .int .i64 (0)⟩ a2, pack ⟨.slice 25, 1, 24, .lit true 0 []⟩ a3] [] 0 = some (.ret (.bool true), H') := by
  obtain ⟨cl, l, rfl, hl⟩ := fit_entries h0
  obtain ⟨cf, f, rfl, hfl⟩ := fit_entries h1
  obtain ⟨n, rfl, _⟩ := fit_int ti3 h2
  obtain ⟨cp, p, rfl, hp, hu⟩ := fit_u64s h3
  have hlen : l.length < 2 ^ 63 := by unfold maxLen at hl; omega
  have hflen : f.length < 2 ^ 63 := by unfold maxLen at hfl; omega
  have hpl : p.length < 2 ^ 63 := by unfold maxLen at hp; omega
  show ∃ H', runT env 9 [.lit cl 3 (l.map Entry.enc), .lit cf 3 (f.map Entry.enc), .int .i64 n, .lit cp 1 (p.map (.int .u64))] [] 0 = some (.ret (.bool true), H')
  rw [run_unfold fn9 rfl]
  cases b1 : decide (40 < (l.length : Int)) with
  | true =>
    simp only [go_sem, Nat.reduceAdd, Nat.reduceSub, Nat.reduceMul, Nat.reduceDiv, Nat.reduceMod, Nat.reducePow, Nat.reduceLeDiff, Nat.reduceLT, Nat.reduceEqDiff, Nat.reduceBEq, Nat.reduceBNe, Int.reduceAdd, Int.reduceSub, Int.reduceMul, Int.reducePow, Int.reduceLE, Int.reduceLT, Int.reduceEq, Int.reduceToNat, Int.reduceNeg, reduceCtorEq, Nat.add_zero, Nat.zero_add, beq_self_eq_true, Try.f9, b1, List.length_map, unwind, modeEx, resultsOf, one]
    exact ⟨_, rfl⟩
  | false =>
  cases b2 : fewS l with
  | false =>
    simp only [go_sem, Nat.reduceAdd, Nat.reduceSub, Nat.reduceMul, Nat.reduceDiv, Nat.reduceMod, Nat.reducePow, Nat.reduceLeDiff, Nat.reduceLT, Nat.reduceEqDiff, Nat.reduceBEq, Nat.reduceBNe, Int.reduceAdd, Int.reduceSub, Int.reduceMul, Int.reducePow, Int.reduceLE, Int.reduceLT, Int.reduceEq, Int.reduceToNat, Int.reduceNeg, reduceCtorEq, Nat.add_zero, Nat.zero_add, beq_self_eq_true, Try.f9, few_call cl l hlen, b1, b2, List.length_map, unwind, modeEx, resultsOf, one]
    exact ⟨_, rfl⟩
  | true =>
  cases b3 : decide (40 < (f.length : Int)) with
  | true =>
    simp only [go_sem, Nat.reduceAdd, Nat.reduceSub, Nat.reduceMul, Nat.reduceDiv, Nat.reduceMod, Nat.reducePow, Nat.reduceLeDiff, Nat.reduceLT, Nat.reduceEqDiff, Nat.reduceBEq, Nat.reduceBNe, Int.reduceAdd, Int.reduceSub, Int.reduceMul, Int.reducePow, Int.reduceLE, Int.reduceLT, Int.reduceEq, Int.reduceToNat, Int.reduceNeg, reduceCtorEq, Nat.add_zero, Nat.zero_add, beq_self_eq_true, Try.f9, few_call cl l hlen, b1, b2, b3, List.length_map, unwind, modeEx, resultsOf, one]
    exact ⟨_, rfl⟩
  | false =>
  cases b4 : fewS f with
  | false =>
    simp only [go_sem, Nat.reduceAdd, Nat.reduceSub, Nat.reduceMul, Nat.reduceDiv, Nat.reduceMod, Nat.reducePow, Nat.reduceLeDiff, Nat.reduceLT, Nat.reduceEqDiff, Nat.reduceBEq, Nat.reduceBNe, Int.reduceAdd, Int.reduceSub, Int.reduceMul, Int.reducePow, Int.reduceLE, Int.reduceLT, Int.reduceEq, Int.reduceToNat, Int.reduceNeg, reduceCtorEq, Nat.add_zero, Nat.zero_add, beq_self_eq_true, Try.f9, few_call cl l hlen, few_call cf f hflen, b1, b2, b3, b4, List.length_map, unwind, modeEx, resultsOf, one]
    exact ⟨_, rfl⟩
  | true =>
  cases b5 : decide (40 < (p.length : Int)) with
  | true =>
    simp only [go_sem, Nat.reduceAdd, Nat.reduceSub, Nat.reduceMul, Nat.reduceDiv, Nat.reduceMod, Nat.reducePow, Nat.reduceLeDiff, Nat.reduceLT, Nat.reduceEqDiff, Nat.reduceBEq, Nat.reduceBNe, Int.reduceAdd, Int.reduceSub, Int.reduceMul, Int.reducePow, Int.reduceLE, Int.reduceLT, Int.reduceEq, Int.reduceToNat, Int.reduceNeg, reduceCtorEq, Nat.add_zero, Nat.zero_add, beq_self_eq_true, Try.f9, few_call cl l hlen, few_call cf f hflen, b1, b2, b3, b4, b5, List.length_map, unwind, modeEx, resultsOf, one]
    exact ⟨_, rfl⟩
  | false =>
  cases b6 : decide ((l.length : Int) = 0) with
  | true =>
    simp only [go_sem, Nat.reduceAdd, Nat.reduceSub, Nat.reduceMul, Nat.reduceDiv, Nat.reduceMod, Nat.reducePow, Nat.reduceLeDiff, Nat.reduceLT, Nat.reduceEqDiff, Nat.reduceBEq, Nat.reduceBNe, Int.reduceAdd, Int.reduceSub, Int.reduceMul, Int.reducePow, Int.reduceLE, Int.reduceLT, Int.reduceEq, Int.reduceToNat, Int.reduceNeg, reduceCtorEq, Nat.add_zero, Nat.zero_add, beq_self_eq_true, Try.f9, few_call cl l hlen, few_call cf f hflen, b1, b2, b3, b4, b5, b6, List.length_map, unwind, modeEx, resultsOf, one]
    exact ⟨_, rfl⟩
  | false =>
  have b1' : ¬ (40 < (l.length : Int)) := by simpa using b1
  have b3' : ¬ (40 < (f.length : Int)) := by simpa using b3
  have b5' : ¬ (40 < (p.length : Int)) := by simpa using b5
  have b6' : ¬ ((l.length : Int) = 0) := by simpa using b6
  have c18 := fun cl => rootT_call cl l hlen
  have c18f := rootT_call cf f hflen
  by_cases hcl : chkS l = 0
  rotate_left
  · have hd : decide (chkS l = 0) = false := by simpa using hcl
    simp only [rootT, hcl, if_false] at c18
    simp only [rootT] at c18f
    simp only [go_sem, Nat.reduceAdd, Nat.reduceSub, Nat.reduceMul, Nat.reduceDiv, Nat.reduceMod, Nat.reducePow, Nat.reduceLeDiff, Nat.reduceLT, Nat.reduceEqDiff, Nat.reduceBEq, Nat.reduceBNe, Int.reduceAdd, Int.reduceSub, Int.reduceMul, Int.reducePow, Int.reduceLE, Int.reduceLT, Int.reduceEq, Int.reduceToNat, Int.reduceNeg, reduceCtorEq, Nat.add_zero, Nat.zero_add, beq_self_eq_true, Try.f9, few_call cl l hlen, few_call cf f hflen, b1, b2, b3, b4, b5, b6, c18, c18f, hd, List.length_map, unwind, modeEx, resultsOf, one]
    exact ⟨_, rfl⟩
  by_cases hcf : chkS f = 0
  rotate_left
  · have hd : decide (chkS f = 0) = false := by simpa using hcf
    simp only [rootT, hcl, if_true] at c18
    simp only [rootT, hcf, if_false] at c18f
    simp only [go_sem, Nat.reduceAdd, Nat.reduceSub, Nat.reduceMul, Nat.reduceDiv, Nat.reduceMod, Nat.reducePow, Nat.reduceLeDiff, Nat.reduceLT, Nat.reduceEqDiff, Nat.reduceBEq, Nat.reduceBNe, Int.reduceAdd, Int.reduceSub, Int.reduceMul, Int.reducePow, Int.reduceLE, Int.reduceLT, Int.reduceEq, Int.reduceToNat, Int.reduceNeg, reduceCtorEq, Nat.add_zero, Nat.zero_add, beq_self_eq_true, Try.f9, few_call cl l hlen, few_call cf f hflen, b1, b2, b3, b4, b5, b6, c18, c18f, hd, List.length_map, unwind, modeEx, resultsOf, one]
    exact ⟨_, rfl⟩
  simp only [rootT, hcl, if_true] at c18
  simp only [rootT, hcf, if_true] at c18f
  obtain ⟨hl512, hla⟩ := chk_zero hcl
  obtain ⟨hf512, hfa⟩ := chk_zero hcf
  have hrl := root_range l
  have hrf := root_range f
  have c31 := fun ro H nx => CheckGrown_call (rootI f) f.length (rootI l) l.length cp 1 p hrf hu hpl (.inr rfl) ro H nx
  have hA := hashedS_ne l
  have lA := (hashedS_length _ l (Nat.le_refl _)).1
  have lB := (hashedS_length _ f (Nat.le_refl _)).1
  -- what is checked of the list itself
  have hmid : (1 ≤ n ∧ n ≤ l.length) → ∃ (m : Nat) (c2 : Bool) (s2 : Nat) (xs : List Int), n = m ∧ m ≤ l.length ∧ (∀ ro H nx, callT env 29 [.lit cl 3 (l.map Entry.enc), .int .i64 m] ro H nx = some (.ret (.tuple [.lit c2 s2 (xs.map (.int .u64)), .int .i64 0]), .ups [])) ∧
      (∀ cl ro H nx, callT env 18 [.lit cl 3 ((l.take m).map Entry.enc)] ro H nx = some (.ret (.tuple [.int .u64 (rootI (l.take m)), .int .i64 0]), .ups [])) ∧
      (∀ ro H nx, callT env 31 [.int .u64 (rootI (l.take m)), .int .i64 m, .int .u64 (rootI l), .int .i64 l.length, .lit c2 s2 (xs.map (.int .u64))] ro H nx = some (.ret (.int .i64 0), .ups [])) := by
    rintro ⟨hn1, hn2⟩
    obtain ⟨m, rfl⟩ : ∃ m : Nat, n = m := ⟨n.toNat, by omega⟩
    obtain ⟨c2, s2, k1, k2⟩ := Grown_call cl l m hlen
    have hgs : grownS l m = ((grownR rootI l m true).reverse, 0) := by
      unfold grownS
      rw [if_pos hcl, if_neg (by omega), Int.toNat_natCast]
    rw [hgs] at k1 k2
    refine ⟨m, c2, s2, (grownR rootI l m true).reverse, rfl, by omega, k2, fun cl ro H nx => ?_, fun ro H nx => ?_⟩
    · rw [rootT_call cl (l.take m) (by rw [List.length_take]; omega)]
      simp only [rootT, chk_take hcl, if_true]
    · have hgl := grownR_length rootI _ l m true (Nat.le_refl _)
      rw [CheckGrown_call (rootI (l.take m)) m (rootI l) l.length c2 s2 _ (root_range _) (fun y hy => grownR_u64 _ l m true (Nat.le_refl _) y (by simpa using hy)) (by simp; omega) k1]
      have d1 : decide ((l.length : Int) < 1) = false := by simp; omega
      have d2 : decide (512 < (l.length : Int)) = false := by simp; omega
      have d3 : decide ((m : Int) < 1) = false := by simp; omega
      have d4 : decide ((l.length : Int) < (m : Int)) = false := by simp; omega
      have hgg := grow_grown _ l m true (rootI (l.take m)) (Nat.le_refl _) (by omega) (by omega) (fun _ => rfl)
      simp only [chkGrownS, d1, d2, d3, d4, Bool.or_false, Bool.false_eq_true, if_false, List.reverse_reverse, Int.toNat_natCast, hgg, decide_true, Bool.and_true, if_true]
  by_cases hrange : 1 ≤ n ∧ n ≤ l.length
  · obtain ⟨m, c2, s2, xs, rfl, hmm, c29, c18t, c31t⟩ := hmid hrange
    have r1 : decide (1 ≤ (m : Int)) = true := by simp only [decide_eq_true_eq]; omega
    have r2 : decide ((m : Int) ≤ (l.length : Int)) = true := by simp only [decide_eq_true_eq]; omega
    have hsl4 := fun H => sl_to3 cl l m hmm H
    by_cases hz : chkGrownS (rootI f) f.length (rootI l) l.length p = 0
    rotate_left
    · have hzd : decide (chkGrownS (rootI f) f.length (rootI l) l.length p = 0) = false := by simpa using hz
      simp only [go_sem, Nat.reduceAdd, Nat.reduceSub, Nat.reduceMul, Nat.reduceDiv, Nat.reduceMod, Nat.reducePow, Nat.reduceLeDiff, Nat.reduceLT, Nat.reduceEqDiff, Nat.reduceBEq, Nat.reduceBNe, Int.reduceAdd, Int.reduceSub, Int.reduceMul, Int.reducePow, Int.reduceLE, Int.reduceLT, Int.reduceEq, Int.reduceToNat, Int.reduceNeg, reduceCtorEq, Nat.add_zero, Nat.zero_add, beq_self_eq_true, Try.f9, few_call cl l hlen, few_call cf f hflen, b1, b2, b3, b4, b5, b6, c18, c18f, List.length_map, r1, r2, c29, hsl4, c18t, c31t, c31, hzd, unwind, modeEx, resultsOf, one]
      exact ⟨_, rfl⟩
    have hzd : decide (chkGrownS (rootI f) f.length (rootI l) l.length p = 0) = true := by simpa using hz
    obtain ⟨⟨m1, m2, _⟩, hgr⟩ := chkGrown_zero hz
    simp only [Int.toNat_natCast] at hgr
    have hml : f.length ≤ l.length := by omega
    have dm : decide ((f.length : Int) ≤ (l.length : Int)) = true := by simp only [decide_eq_true_eq]; omega
    have dm1 : decide ((f.length : Int) < 1) = false := by simp only [decide_eq_false_iff_not]; omega
    have dm2 : decide ((l.length : Int) < (f.length : Int)) = false := by simp only [decide_eq_false_iff_not]; omega
    have hsl3 := fun H => sl_to3 cl l f.length hml H
    obtain ⟨b, hb, c56⟩ := equalE_call cf true f (l.take f.length) hflen
    cases b with
    | true =>
      simp only [go_sem, Nat.reduceAdd, Nat.reduceSub, Nat.reduceMul, Nat.reduceDiv, Nat.reduceMod, Nat.reducePow, Nat.reduceLeDiff, Nat.reduceLT, Nat.reduceEqDiff, Nat.reduceBEq, Nat.reduceBNe, Int.reduceAdd, Int.reduceSub, Int.reduceMul, Int.reducePow, Int.reduceLE, Int.reduceLT, Int.reduceEq, Int.reduceToNat, Int.reduceNeg, reduceCtorEq, Nat.add_zero, Nat.zero_add, beq_self_eq_true, Try.f9, few_call cl l hlen, few_call cf f hflen, b1, b2, b3, b4, b5, b6, c18, c18f, List.length_map, r1, r2, c29, hsl4, c18t, c31t, c31, hzd, dm, hsl3, c56, unwind, modeEx, resultsOf, one]
      exact ⟨_, rfl⟩
    | false =>
      have hgo := growsT_call (rootI f) hrf p.reverse (fun y hy => hu y (by simpa using hy)) (by simp; omega) f.length l.length true cp 1 (by omega) hl512 hml (.inr rfl) (by rw [hgr]) 0 [] 0
      rw [List.reverse_reverse, hgr] at hgo
      obtain ⟨u, us, c57, huv⟩ := hgo
      obtain ⟨ca, c53⟩ := hashed_call cl l hl512 (all_small hla)
      obtain ⟨cb, c53f⟩ := hashed_call cf f hf512 (all_small hfa)
      have lC := growStr_length (rootI f) p.reverse f.length l.length true
      rw [List.length_reverse] at lC
      obtain ⟨c, ws, c52, hcases⟩ := join3_call ca cb (hashedS l) (hashedS f) (growStr (rootI f) p.reverse f.length l.length true) hA (by omega) huv
      obtain ⟨bb, hbb, c51⟩ := distinct_call c (hashedS l ++ (hashedS f ++ growStr (rootI f) p.reverse f.length l.length true)) (by rw [List.length_append, List.length_append]; omega) (by
        intro s hs
        rcases List.mem_append.1 hs with hs | hs
        · exact hashedS_small _ l (Nat.le_refl _) (all_small hla) s hs
        · rcases List.mem_append.1 hs with hs | hs
          · exact hashedS_small _ f (Nat.le_refl _) (all_small hfa) s hs
          · exact growStr_small _ _ _ _ _ s hs)
      have hbf : bb = false := by
        cases bb with
        | false => rfl
        | true =>
          exfalso
          have := grow_only (hbb rfl) hrf p.reverse f l true (by omega) hml hfa hla (fun y hy => hu y (by simpa using hy)) (fun s hs => List.mem_append_right _ (List.mem_append_left _ hs)) (fun s hs => List.mem_append_left _ hs) (fun s hs => List.mem_append_right _ (List.mem_append_right _ hs)) hgr
          have := hb.2 this
          cases this
      subst hbf
      generalize growStr (rootI f) p.reverse f.length l.length true = C at huv c52 c51
      rcases huv with ⟨s, rfl, rfl, hs⟩ | ⟨g, rfl, rfl, _⟩
      · rcases hcases with ⟨_, rfl⟩ | ⟨b, hb', _⟩
        · have c52' : ∀ nx, callT env 52 [.ref 0 0 0 3 false] 0 [.cells 0 1 false [.lit ca 1 ((hashedS l).map .str), .lit cb 1 ((hashedS f).map .str), .lit true s (C.map .str)]] nx = some (.ret (.lit c 1 ((hashedS l ++ (hashedS f ++ C)).map .str)), .ups [(0, .dead)]) := c52
          simp only [go_sem, Nat.reduceAdd, Nat.reduceSub, Nat.reduceMul, Nat.reduceDiv, Nat.reduceMod, Nat.reducePow, Nat.reduceLeDiff, Nat.reduceLT, Nat.reduceEqDiff, Nat.reduceBEq, Nat.reduceBNe, Int.reduceAdd, Int.reduceSub, Int.reduceMul, Int.reducePow, Int.reduceLE, Int.reduceLT, Int.reduceEq, Int.reduceToNat, Int.reduceNeg, reduceCtorEq, Nat.add_zero, Nat.zero_add, beq_self_eq_true, Try.f9, few_call cl l hlen, few_call cf f hflen, b1, b2, b3, b4, b5, b6, c18, c18f, List.length_map, r1, r2, c29, hsl4, c18t, c31t, c31, hzd, dm, dm1, dm2, hsl3, c56, c57, c53, c53f, c52', c51, unwind, modeEx, resultsOf, one]
          exact ⟨_, rfl⟩
        · cases hb'
      · rcases hcases with ⟨hb', _⟩ | ⟨b, hb', rfl⟩
        · cases hb'
        · cases hb'
          have c52' : ∀ nx, callT env 52 [.ref 1 0 0 3 false] 0 [.cells g 1 true (C.map .str), .cells 0 1 false [.lit ca 1 ((hashedS l).map .str), .lit cb 1 ((hashedS f).map .str), .ref 0 g 0 (C.map AVal.str).length false]] nx = some (.ret (.lit c 1 ((hashedS l ++ (hashedS f ++ C)).map .str)), .ups [(1, .dead), (0, .dead)]) := c52
          simp only [List.length_map] at c52' c57
          simp only [go_sem, Nat.reduceAdd, Nat.reduceSub, Nat.reduceMul, Nat.reduceDiv, Nat.reduceMod, Nat.reducePow, Nat.reduceLeDiff, Nat.reduceLT, Nat.reduceEqDiff, Nat.reduceBEq, Nat.reduceBNe, Int.reduceAdd, Int.reduceSub, Int.reduceMul, Int.reducePow, Int.reduceLE, Int.reduceLT, Int.reduceEq, Int.reduceToNat, Int.reduceNeg, reduceCtorEq, Nat.add_zero, Nat.zero_add, beq_self_eq_true, Try.f9, few_call cl l hlen, few_call cf f hflen, b1, b2, b3, b4, b5, b6, c18, c18f, List.length_map, r1, r2, c29, hsl4, c18t, c31t, c31, hzd, dm, dm1, dm2, hsl3, c56, c57, c53, c53f, c52', c51, unwind, modeEx, resultsOf, one]
          exact ⟨_, rfl⟩
  · cases r1 : decide (1 ≤ n) with
    | false =>
      by_cases hz : chkGrownS (rootI f) f.length (rootI l) l.length p = 0
      rotate_left
      · have hzd : decide (chkGrownS (rootI f) f.length (rootI l) l.length p = 0) = false := by simpa using hz
        simp only [go_sem, Nat.reduceAdd, Nat.reduceSub, Nat.reduceMul, Nat.reduceDiv, Nat.reduceMod, Nat.reducePow, Nat.reduceLeDiff, Nat.reduceLT, Nat.reduceEqDiff, Nat.reduceBEq, Nat.reduceBNe, Int.reduceAdd, Int.reduceSub, Int.reduceMul, Int.reducePow, Int.reduceLE, Int.reduceLT, Int.reduceEq, Int.reduceToNat, Int.reduceNeg, reduceCtorEq, Nat.add_zero, Nat.zero_add, beq_self_eq_true, Try.f9, few_call cl l hlen, few_call cf f hflen, b1, b2, b3, b4, b5, b6, c18, c18f, List.length_map, r1, c31, hzd, unwind, modeEx, resultsOf, one]
        exact ⟨_, rfl⟩
      have hzd : decide (chkGrownS (rootI f) f.length (rootI l) l.length p = 0) = true := by simpa using hz
      obtain ⟨⟨m1, m2, _⟩, hgr⟩ := chkGrown_zero hz
      simp only [Int.toNat_natCast] at hgr
      have hml : f.length ≤ l.length := by omega
      have dm : decide ((f.length : Int) ≤ (l.length : Int)) = true := by simp only [decide_eq_true_eq]; omega
      have dm1 : decide ((f.length : Int) < 1) = false := by simp only [decide_eq_false_iff_not]; omega
      have dm2 : decide ((l.length : Int) < (f.length : Int)) = false := by simp only [decide_eq_false_iff_not]; omega
      have hsl3 := fun H => sl_to3 cl l f.length hml H
      obtain ⟨b, hb, c56⟩ := equalE_call cf true f (l.take f.length) hflen
      cases b with
      | true =>
        simp only [go_sem, Nat.reduceAdd, Nat.reduceSub, Nat.reduceMul, Nat.reduceDiv, Nat.reduceMod, Nat.reducePow, Nat.reduceLeDiff, Nat.reduceLT, Nat.reduceEqDiff, Nat.reduceBEq, Nat.reduceBNe, Int.reduceAdd, Int.reduceSub, Int.reduceMul, Int.reducePow, Int.reduceLE, Int.reduceLT, Int.reduceEq, Int.reduceToNat, Int.reduceNeg, reduceCtorEq, Nat.add_zero, Nat.zero_add, beq_self_eq_true, Try.f9, few_call cl l hlen, few_call cf f hflen, b1, b2, b3, b4, b5, b6, c18, c18f, List.length_map, r1, c31, hzd, dm, hsl3, c56, unwind, modeEx, resultsOf, one]
        exact ⟨_, rfl⟩
      | false =>
        have hgo := growsT_call (rootI f) hrf p.reverse (fun y hy => hu y (by simpa using hy)) (by simp; omega) f.length l.length true cp 1 (by omega) hl512 hml (.inr rfl) (by rw [hgr]) 0 [] 0
        rw [List.reverse_reverse, hgr] at hgo
        obtain ⟨u, us, c57, huv⟩ := hgo
        obtain ⟨ca, c53⟩ := hashed_call cl l hl512 (all_small hla)
        obtain ⟨cb, c53f⟩ := hashed_call cf f hf512 (all_small hfa)
        have lC := growStr_length (rootI f) p.reverse f.length l.length true
        rw [List.length_reverse] at lC
        obtain ⟨c, ws, c52, hcases⟩ := join3_call ca cb (hashedS l) (hashedS f) (growStr (rootI f) p.reverse f.length l.length true) hA (by omega) huv
        obtain ⟨bb, hbb, c51⟩ := distinct_call c (hashedS l ++ (hashedS f ++ growStr (rootI f) p.reverse f.length l.length true)) (by rw [List.length_append, List.length_append]; omega) (by
          intro s hs
          rcases List.mem_append.1 hs with hs | hs
          · exact hashedS_small _ l (Nat.le_refl _) (all_small hla) s hs
          · rcases List.mem_append.1 hs with hs | hs
            · exact hashedS_small _ f (Nat.le_refl _) (all_small hfa) s hs
            · exact growStr_small _ _ _ _ _ s hs)
        have hbf : bb = false := by
          cases bb with
          | false => rfl
          | true =>
            exfalso
            have := grow_only (hbb rfl) hrf p.reverse f l true (by omega) hml hfa hla (fun y hy => hu y (by simpa using hy)) (fun s hs => List.mem_append_right _ (List.mem_append_left _ hs)) (fun s hs => List.mem_append_left _ hs) (fun s hs => List.mem_append_right _ (List.mem_append_right _ hs)) hgr
            have := hb.2 this
            cases this
        subst hbf
        generalize growStr (rootI f) p.reverse f.length l.length true = C at huv c52 c51
        rcases huv with ⟨s, rfl, rfl, hs⟩ | ⟨g, rfl, rfl, _⟩
        · rcases hcases with ⟨_, rfl⟩ | ⟨b, hb', _⟩
          · have c52' : ∀ nx, callT env 52 [.ref 0 0 0 3 false] 0 [.cells 0 1 false [.lit ca 1 ((hashedS l).map .str), .lit cb 1 ((hashedS f).map .str), .lit true s (C.map .str)]] nx = some (.ret (.lit c 1 ((hashedS l ++ (hashedS f ++ C)).map .str)), .ups [(0, .dead)]) := c52
            simp only [go_sem, Nat.reduceAdd, Nat.reduceSub, Nat.reduceMul, Nat.reduceDiv, Nat.reduceMod, Nat.reducePow, Nat.reduceLeDiff, Nat.reduceLT, Nat.reduceEqDiff, Nat.reduceBEq, Nat.reduceBNe, Int.reduceAdd, Int.reduceSub, Int.reduceMul, Int.reducePow, Int.reduceLE, Int.reduceLT, Int.reduceEq, Int.reduceToNat, Int.reduceNeg, reduceCtorEq, Nat.add_zero, Nat.zero_add, beq_self_eq_true, Try.f9, few_call cl l hlen, few_call cf f hflen, b1, b2, b3, b4, b5, b6, c18, c18f, List.length_map, r1, c31, hzd, dm, dm1, dm2, hsl3, c56, c57, c53, c53f, c52', c51, unwind, modeEx, resultsOf, one]
            exact ⟨_, rfl⟩
          · cases hb'
        · rcases hcases with ⟨hb', _⟩ | ⟨b, hb', rfl⟩
          · cases hb'
          · cases hb'
            have c52' : ∀ nx, callT env 52 [.ref 1 0 0 3 false] 0 [.cells g 1 true (C.map .str), .cells 0 1 false [.lit ca 1 ((hashedS l).map .str), .lit cb 1 ((hashedS f).map .str), .ref 0 g 0 (C.map AVal.str).length false]] nx = some (.ret (.lit c 1 ((hashedS l ++ (hashedS f ++ C)).map .str)), .ups [(1, .dead), (0, .dead)]) := c52
            simp only [List.length_map] at c52' c57
            simp only [go_sem, Nat.reduceAdd, Nat.reduceSub, Nat.reduceMul, Nat.reduceDiv, Nat.reduceMod, Nat.reducePow, Nat.reduceLeDiff, Nat.reduceLT, Nat.reduceEqDiff, Nat.reduceBEq, Nat.reduceBNe, Int.reduceAdd, Int.reduceSub, Int.reduceMul, Int.reducePow, Int.reduceLE, Int.reduceLT, Int.reduceEq, Int.reduceToNat, Int.reduceNeg, reduceCtorEq, Nat.add_zero, Nat.zero_add, beq_self_eq_true, Try.f9, few_call cl l hlen, few_call cf f hflen, b1, b2, b3, b4, b5, b6, c18, c18f, List.length_map, r1, c31, hzd, dm, dm1, dm2, hsl3, c56, c57, c53, c53f, c52', c51, unwind, modeEx, resultsOf, one]
            exact ⟨_, rfl⟩
    | true =>
      have r2 : decide (n ≤ (l.length : Int)) = false := by
        simp only [decide_eq_true_eq] at r1
        simp only [decide_eq_false_iff_not]; omega
      by_cases hz : chkGrownS (rootI f) f.length (rootI l) l.length p = 0
      rotate_left
      · have hzd : decide (chkGrownS (rootI f) f.length (rootI l) l.length p = 0) = false := by simpa using hz
        simp only [go_sem, Nat.reduceAdd, Nat.reduceSub, Nat.reduceMul, Nat.reduceDiv, Nat.reduceMod, Nat.reducePow, Nat.reduceLeDiff, Nat.reduceLT, Nat.reduceEqDiff, Nat.reduceBEq, Nat.reduceBNe, Int.reduceAdd, Int.reduceSub, Int.reduceMul, Int.reducePow, Int.reduceLE, Int.reduceLT, Int.reduceEq, Int.reduceToNat, Int.reduceNeg, reduceCtorEq, Nat.add_zero, Nat.zero_add, beq_self_eq_true, Try.f9, few_call cl l hlen, few_call cf f hflen, b1, b2, b3, b4, b5, b6, c18, c18f, List.length_map, r1, r2, c31, hzd, unwind, modeEx, resultsOf, one]
        exact ⟨_, rfl⟩
      have hzd : decide (chkGrownS (rootI f) f.length (rootI l) l.length p = 0) = true := by simpa using hz
      obtain ⟨⟨m1, m2, _⟩, hgr⟩ := chkGrown_zero hz
      simp only [Int.toNat_natCast] at hgr
      have hml : f.length ≤ l.length := by omega
      have dm : decide ((f.length : Int) ≤ (l.length : Int)) = true := by simp only [decide_eq_true_eq]; omega
      have dm1 : decide ((f.length : Int) < 1) = false := by simp only [decide_eq_false_iff_not]; omega
      have dm2 : decide ((l.length : Int) < (f.length : Int)) = false := by simp only [decide_eq_false_iff_not]; omega
      have hsl3 := fun H => sl_to3 cl l f.length hml H
      obtain ⟨b, hb, c56⟩ := equalE_call cf true f (l.take f.length) hflen
      cases b with
      | true =>
        simp only [go_sem, Nat.reduceAdd, Nat.reduceSub, Nat.reduceMul, Nat.reduceDiv, Nat.reduceMod, Nat.reducePow, Nat.reduceLeDiff, Nat.reduceLT, Nat.reduceEqDiff, Nat.reduceBEq, Nat.reduceBNe, Int.reduceAdd, Int.reduceSub, Int.reduceMul, Int.reducePow, Int.reduceLE, Int.reduceLT, Int.reduceEq, Int.reduceToNat, Int.reduceNeg, reduceCtorEq, Nat.add_zero, Nat.zero_add, beq_self_eq_true, Try.f9, few_call cl l hlen, few_call cf f hflen, b1, b2, b3, b4, b5, b6, c18, c18f, List.length_map, r1, r2, c31, hzd, dm, hsl3, c56, unwind, modeEx, resultsOf, one]
        exact ⟨_, rfl⟩
      | false =>
        have hgo := growsT_call (rootI f) hrf p.reverse (fun y hy => hu y (by simpa using hy)) (by simp; omega) f.length l.length true cp 1 (by omega) hl512 hml (.inr rfl) (by rw [hgr]) 0 [] 0
        rw [List.reverse_reverse, hgr] at hgo
        obtain ⟨u, us, c57, huv⟩ := hgo
        obtain ⟨ca, c53⟩ := hashed_call cl l hl512 (all_small hla)
        obtain ⟨cb, c53f⟩ := hashed_call cf f hf512 (all_small hfa)
        have lC := growStr_length (rootI f) p.reverse f.length l.length true
        rw [List.length_reverse] at lC
        obtain ⟨c, ws, c52, hcases⟩ := join3_call ca cb (hashedS l) (hashedS f) (growStr (rootI f) p.reverse f.length l.length true) hA (by omega) huv
        obtain ⟨bb, hbb, c51⟩ := distinct_call c (hashedS l ++ (hashedS f ++ growStr (rootI f) p.reverse f.length l.length true)) (by rw [List.length_append, List.length_append]; omega) (by
          intro s hs
          rcases List.mem_append.1 hs with hs | hs
          · exact hashedS_small _ l (Nat.le_refl _) (all_small hla) s hs
          · rcases List.mem_append.1 hs with hs | hs
            · exact hashedS_small _ f (Nat.le_refl _) (all_small hfa) s hs
            · exact growStr_small _ _ _ _ _ s hs)
        have hbf : bb = false := by
          cases bb with
          | false => rfl
          | true =>
            exfalso
            have := grow_only (hbb rfl) hrf p.reverse f l true (by omega) hml hfa hla (fun y hy => hu y (by simpa using hy)) (fun s hs => List.mem_append_right _ (List.mem_append_left _ hs)) (fun s hs => List.mem_append_left _ hs) (fun s hs => List.mem_append_right _ (List.mem_append_right _ hs)) hgr
            have := hb.2 this
            cases this
        subst hbf
        generalize growStr (rootI f) p.reverse f.length l.length true = C at huv c52 c51
        rcases huv with ⟨s, rfl, rfl, hs⟩ | ⟨g, rfl, rfl, _⟩
        · rcases hcases with ⟨_, rfl⟩ | ⟨b, hb', _⟩
          · have c52' : ∀ nx, callT env 52 [.ref 0 0 0 3 false] 0 [.cells 0 1 false [.lit ca 1 ((hashedS l).map .str), .lit cb 1 ((hashedS f).map .str), .lit true s (C.map .str)]] nx = some (.ret (.lit c 1 ((hashedS l ++ (hashedS f ++ C)).map .str)), .ups [(0, .dead)]) := c52
            simp only [go_sem, Nat.reduceAdd, Nat.reduceSub, Nat.reduceMul, Nat.reduceDiv, Nat.reduceMod, Nat.reducePow, Nat.reduceLeDiff, Nat.reduceLT, Nat.reduceEqDiff, Nat.reduceBEq, Nat.reduceBNe, Int.reduceAdd, Int.reduceSub, Int.reduceMul, Int.reducePow, Int.reduceLE, Int.reduceLT, Int.reduceEq, Int.reduceToNat, Int.reduceNeg, reduceCtorEq, Nat.add_zero, Nat.zero_add, beq_self_eq_true, Try.f9, few_call cl l hlen, few_call cf f hflen, b1, b2, b3, b4, b5, b6, c18, c18f, List.length_map, r1, r2, c31, hzd, dm, dm1, dm2, hsl3, c56, c57, c53, c53f, c52', c51, unwind, modeEx, resultsOf, one]
            exact ⟨_, rfl⟩
          · cases hb'
        · rcases hcases with ⟨hb', _⟩ | ⟨b, hb', rfl⟩
          · cases hb'
          · cases hb'
            have c52' : ∀ nx, callT env 52 [.ref 1 0 0 3 false] 0 [.cells g 1 true (C.map .str), .cells 0 1 false [.lit ca 1 ((hashedS l).map .str), .lit cb 1 ((hashedS f).map .str), .ref 0 g 0 (C.map AVal.str).length false]] nx = some (.ret (.lit c 1 ((hashedS l ++ (hashedS f ++ C)).map .str)), .ups [(1, .dead), (0, .dead)]) := c52
            simp only [List.length_map] at c52' c57
            simp only [go_sem, Nat.reduceAdd, Nat.reduceSub, Nat.reduceMul, Nat.reduceDiv, Nat.reduceMod, Nat.reducePow, Nat.reduceLeDiff, Nat.reduceLT, Nat.reduceEqDiff, Nat.reduceBEq, Nat.reduceBNe, Int.reduceAdd, Int.reduceSub, Int.reduceMul, Int.reducePow, Int.reduceLE, Int.reduceLT, Int.reduceEq, Int.reduceToNat, Int.reduceNeg, reduceCtorEq, Nat.add_zero, Nat.zero_add, beq_self_eq_true, Try.f9, few_call cl l hlen, few_call cf f hflen, b1, b2, b3, b4, b5, b6, c18, c18f, List.length_map, r1, r2, c31, hzd, dm, dm1, dm2, hsl3, c56, c57, c53, c53f, c52', c51, unwind, modeEx, resultsOf, one]
            exact ⟨_, rfl⟩
end Go.Proofs.Ytamcncpgfhfheaa.Tidy
