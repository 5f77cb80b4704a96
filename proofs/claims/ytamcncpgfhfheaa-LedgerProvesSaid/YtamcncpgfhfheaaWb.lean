/-
  What the functions that LedgerProves reaches compute; the law, run.
-/
import Derived.Test.YtamcncpgfhfheaaWa
set_option linter.all false
/-
  Strings that are hashed: those of a list, and those of a path.
-/
namespace Go.Proofs.Ytamcncpgfhfheaa.Tidy
open Go Go.IntWalk
set_option maxRecDepth 10000
set_option linter.unusedSimpArgs false

/-- what is hashed last for the root of entries -/
def topB (l : List Entry) : List UInt8 := if l.length = 0 then [] else match l with
  | [e] => leafB e
  | l => nodeB (rootI (l.take (splitS l.length))) (rootI (l.drop (splitS l.length)))

theorem topB_one (e : Entry) : topB [e] = leafB e := rfl
theorem topB_two {l : List Entry} (h : 2 ≤ l.length) : topB l = nodeB (rootI (l.take (splitS l.length))) (rootI (l.drop (splitS l.length))) := by
  unfold topB
  rw [if_neg (by omega)]
  split
  · simp at h
  · rfl

theorem rootI_two {l : List Entry} (h : 2 ≤ l.length) : rootI l = nodeI (rootI (l.take (splitS l.length))) (rootI (l.drop (splitS l.length))) := rootG_eq leafI nodeI h

theorem top_hash {l : List Entry} (h : small l) : hashS (topB l) = rootI l := by
  by_cases h0 : l.length = 0
  · obtain rfl : l = [] := List.eq_nil_of_length_eq_zero h0
    rfl
  · by_cases h1 : l.length = 1
    · obtain ⟨e, rfl⟩ := List.length_eq_one_iff.1 h1
      rw [topB_one, leaf_eq e (by have := h e (by simp); omega)]
      rfl
    · rw [topB_two (l := l) (by omega), rootI_two (l := l) (by omega)]
      exact node_eq (root_range _).1 (root_range _).2 (root_range _).1 (root_range _).2

theorem topB_length {l : List Entry} (h : small l) : (topB l).length < 2 ^ 63 := by
  by_cases h0 : l.length = 0
  · obtain rfl : l = [] := List.eq_nil_of_length_eq_zero h0
    decide
  · by_cases h1 : l.length = 1
    · obtain ⟨e, rfl⟩ := List.length_eq_one_iff.1 h1
      rw [topB_one, leafB_length]
      have := h e (by simp); omega
    · rw [topB_two (by omega), nodeB_length]; decide

/-- all that is hashed for the root of entries -/
def hashedS (l : List Entry) : List (List UInt8) :=
  if _h : l.length ≤ 1 then [topB l] else hashedS (l.take (splitS l.length)) ++ (hashedS (l.drop (splitS l.length)) ++ [topB l])
termination_by l.length
decreasing_by
  all_goals
    have := splitS_lt (n := l.length) (by omega)
    simp only [List.length_take, List.length_drop]
    omega

theorem hashedS_one {l : List Entry} (h : l.length ≤ 1) : hashedS l = [topB l] := by rw [hashedS, dif_pos h]
theorem hashedS_two {l : List Entry} (h : 2 ≤ l.length) : hashedS l = hashedS (l.take (splitS l.length)) ++ (hashedS (l.drop (splitS l.length)) ++ [topB l]) := by rw [hashedS, dif_neg (by omega)]

theorem hashedS_last (l : List Entry) : ∃ a, hashedS l = a ++ [topB l] := by
  by_cases h : l.length ≤ 1
  · exact ⟨[], hashedS_one h⟩
  · exact ⟨_, by rw [hashedS_two (by omega), List.append_assoc]⟩

theorem hashedS_length : ∀ (n : Nat) (l : List Entry), l.length ≤ n → (hashedS l).length ≤ 2 * l.length + 1 ∧ (1 ≤ l.length → (hashedS l).length + 1 ≤ 2 * l.length)
  | n, l, h => by
    by_cases h1 : l.length ≤ 1
    · rw [hashedS_one h1]; simp; omega
    · obtain ⟨m, rfl⟩ : ∃ m, n = m + 1 := ⟨n - 1, by omega⟩
      have hs := splitS_lt (n := l.length) (by omega)
      rw [hashedS_two (by omega)]
      have h3 := (hashedS_length m (l.take (splitS l.length)) (by rw [List.length_take]; omega)).2 (by rw [List.length_take]; omega)
      have h4 := (hashedS_length m (l.drop (splitS l.length)) (by rw [List.length_drop]; omega)).2 (by rw [List.length_drop]; omega)
      rw [List.length_take] at h3
      rw [List.length_drop] at h4
      simp only [List.length_append, List.length_cons, List.length_nil]
      omega

theorem hashed_run : ∀ (n : Nat) (cl : Bool) (l : List Entry), l.length = n → n ≤ 512 → small l → ∃ c, runT env 53 [encL cl l] [] 0 = some (.ret (.lit c 1 ((hashedS l).map .str)), []) := by
  intro n
  induction n using Nat.strongRecOn with
  | _ n ih =>
    intro cl l hl hn hsm
    rw [run_unfold fn53 rfl]
    by_cases h0 : n = 0
    · have : l = [] := List.eq_nil_of_length_eq_zero (by omega)
      subst this
      rw [hashedS_one (by simp)]
      refine ⟨true, ?_⟩
      simp only [go_sem, Nat.reduceAdd, Nat.reduceSub, Nat.reduceMul, Nat.reduceDiv, Nat.reduceMod, Nat.reducePow, Nat.reduceLeDiff, Nat.reduceLT, Nat.reduceEqDiff, Nat.reduceBEq, Nat.reduceBNe, Int.reduceAdd, Int.reduceSub, Int.reduceMul, Int.reducePow, Int.reduceLE, Int.reduceLT, Int.reduceEq, Int.reduceToNat, Int.reduceNeg, reduceCtorEq, Nat.add_zero, Nat.zero_add, beq_self_eq_true, Try.f53, encL, unwind, modeEx, resultsOf, one, Int.ofNat_zero, Int.natCast_zero]
      rfl
    · by_cases h1 : n = 1
      · obtain ⟨e, rfl⟩ : ∃ e, l = [e] := List.length_eq_one_iff.1 (by omega)
        have hlf := leafBytes_call e (hsm e (by simp))
        rw [hashedS_one (by simp), topB_one]
        refine ⟨true, ?_⟩
        simp only [go_sem, Nat.reduceAdd, Nat.reduceSub, Nat.reduceMul, Nat.reduceDiv, Nat.reduceMod, Nat.reducePow, Nat.reduceLeDiff, Nat.reduceLT, Nat.reduceEqDiff, Nat.reduceBEq, Nat.reduceBNe, Int.reduceAdd, Int.reduceSub, Int.reduceMul, Int.reducePow, Int.reduceLE, Int.reduceLT, Int.reduceEq, Int.reduceToNat, Int.reduceNeg, reduceCtorEq, Nat.add_zero, Nat.zero_add, beq_self_eq_true, Try.f53, encL, unwind, modeEx, resultsOf, one, Int.natCast_one, hlf]
      · have hs := splitS_lt (n := l.length) (by omega)
        have d0 : decide ((l.length : Int) = 0) = false := by simp only [decide_eq_false_iff_not]; omega
        have d1 : decide ((l.length : Int) = 1) = false := by simp only [decide_eq_false_iff_not]; omega
        obtain ⟨ca, hca⟩ := ih (l.take (splitS l.length)).length (by rw [List.length_take]; omega) true (l.take (splitS l.length)) rfl (by rw [List.length_take]; omega) (hsm.take _)
        obtain ⟨cb, hcb⟩ := ih (l.drop (splitS l.length)).length (by rw [List.length_drop]; omega) cl (l.drop (splitS l.length)) rfl (by rw [List.length_drop]; omega) (hsm.drop _)
        obtain ⟨a, ha⟩ := hashedS_last (l.take (splitS l.length))
        obtain ⟨b, hb⟩ := hashedS_last (l.drop (splitS l.length))
        have la := (hashedS_length _ (l.take (splitS l.length)) (Nat.le_refl _)).1
        have lb := (hashedS_length _ (l.drop (splitS l.length)) (Nat.le_refl _)).1
        obtain ⟨cc, hcc⟩ := concat_call [⟨ca, 1, hashedS (l.take (splitS l.length))⟩, ⟨cb, 1, hashedS (l.drop (splitS l.length))⟩, ⟨true, 1, [topB l]⟩] (by intro p hp; simp only [List.mem_cons, List.not_mem_nil, or_false] at hp; rcases hp with rfl | rfl | rfl <;> exact .inr rfl) (by simp) (by simp [total]; omega) (by
          simp only [total, List.map_cons, List.map_nil, List.sum_cons, List.sum_nil, List.length_singleton]
          rw [List.length_take] at la; rw [List.length_drop] at lb
          omega)
        have hj : joined [⟨ca, 1, hashedS (l.take (splitS l.length))⟩, ⟨cb, 1, hashedS (l.drop (splitS l.length))⟩, ⟨true, 1, [topB l]⟩] = hashedS l := by
          rw [hashedS_two (l := l) (by omega)]; simp [joined]
        rw [hj] at hcc
        simp only [Strs.enc, List.map_cons, List.map_nil, topB_two (l := l) (by omega)] at hcc
        have c1 := fun ro H nx => call_pure (H' := []) (E := env) (f := 53) rfl rfl rfl rfl hca (by rfl) ro H nx
        have c2 := fun ro H nx => call_pure (H' := []) (E := env) (f := 53) rfl rfl rfl rfl hcb (by rfl) ro H nx
        simp only [encL] at c1 c2
        rw [ha] at c1 hcc
        rw [hb] at c2 hcc
        have ga : ((a ++ [topB (l.take (splitS l.length))]).map AVal.str)[((a.length : Nat) : Int).toNat]? = some (.str (topB (l.take (splitS l.length)))) := get_map (by simp)
        have gb : ((b ++ [topB (l.drop (splitS l.length))]).map AVal.str)[((b.length : Nat) : Int).toNat]? = some (.str (topB (l.drop (splitS l.length)))) := get_map (by simp)
        have ea : (0 : Int) ≤ (a.length : Int) := by omega
        have eb : (0 : Int) ≤ (b.length : Int) := by omega
        have k1 := fun ro H nx => hash_call (topB (l.take (splitS l.length))) (topB_length (hsm.take _)) ro H nx
        have k2 := fun ro H nx => hash_call (topB (l.drop (splitS l.length))) (topB_length (hsm.drop _)) ro H nx
        rw [top_hash (hsm.take _)] at k1
        rw [top_hash (hsm.drop _)] at k2
        have hla : a.length < 2 ^ 63 := by rw [ha, List.length_append, List.length_take] at la; omega
        have hlb : b.length < 2 ^ 63 := by rw [hb, List.length_append, List.length_drop] at lb; omega
        refine ⟨cc, ?_⟩
        simp only [go_sem, Nat.reduceAdd, Nat.reduceSub, Nat.reduceMul, Nat.reduceDiv, Nat.reduceMod, Nat.reducePow, Nat.reduceLeDiff, Nat.reduceLT, Nat.reduceEqDiff, Nat.reduceBEq, Nat.reduceBNe, Int.reduceAdd, Int.reduceSub, Int.reduceMul, Int.reducePow, Int.reduceLE, Int.reduceLT, Int.reduceEq, Int.reduceToNat, Int.reduceNeg, reduceCtorEq, Nat.add_zero, Nat.zero_add, beq_self_eq_true, Try.f53, encL, List.length_map, List.length_append, d0, d1, rsplit_call (n := l.length) (by omega) (by omega), sl_to3 _ _ _ (show splitS l.length ≤ l.length by omega), sl_from _ _ _ (show splitS l.length ≤ l.length by omega), c1, c2, wrap_pred hla, wrap_pred hlb, ga, gb, ea, eb, k1, k2, hcc, unwind, modeEx, resultsOf, one]

theorem hashed_call (cl : Bool) (l : List Entry) (h1 : l.length ≤ 512) (h2 : small l) : ∃ c, ∀ ro H nx, callT env 53 [.lit cl 3 (l.map Entry.enc)] ro H nx = some (.ret (.lit c 1 ((hashedS l).map .str)), .ups []) := by
  obtain ⟨c, h⟩ := hashed_run _ cl l rfl h1 h2
  exact ⟨c, fun ro H nx => call_pure rfl rfl rfl rfl h rfl ro H nx⟩
end Go.Proofs.Ytamcncpgfhfheaa.Tidy

/-
  Strings that are hashed: those of a path; whether hashes are distinct.
-/
namespace Go.Proofs.Ytamcncpgfhfheaa.Tidy
open Go Go.IntWalk
set_option maxRecDepth 10000
set_option linter.unusedSimpArgs false

/-- what is hashed last when a path makes something of a string -/
def upT (s : List UInt8) : Nat → Nat → List Int → List UInt8
  | _, _, [] => s
  | many, pos, h :: r => if many ≤ 1 then s else
      if pos < splitS many then nodeB (climbR (hashS s) (splitS many) pos r).1 h
      else nodeB h (climbR (hashS s) (many - splitS many) (pos - splitS many) r).1

theorem upT_cons (s : List UInt8) (many pos : Nat) (h : Int) (r : List Int) : upT s many pos (h :: r) = if many ≤ 1 then s else
      if pos < splitS many then nodeB (climbR (hashS s) (splitS many) pos r).1 h
      else nodeB h (climbR (hashS s) (many - splitS many) (pos - splitS many) r).1 := rfl

theorem climbR_cons (of : Int) (many pos : Nat) (h : Int) (r : List Int) : climbR of many pos (h :: r) = if many = 1 then (of, false) else
      if pos < splitS many then (nodeI (climbR of (splitS many) pos r).1 h, (climbR of (splitS many) pos r).2)
      else (nodeI h (climbR of (many - splitS many) (pos - splitS many) r).1, (climbR of (many - splitS many) (pos - splitS many) r).2) := by
  rw [climbR]

/-- all that is hashed -/
def upS (s : List UInt8) : Nat → Nat → List Int → List (List UInt8)
  | _, _, [] => [s]
  | many, pos, h :: r => if many ≤ 1 then [s] else
      (if pos < splitS many then upS s (splitS many) pos r else upS s (many - splitS many) (pos - splitS many) r) ++ [upT s many pos (h :: r)]

theorem upS_last (s : List UInt8) : ∀ (r : List Int) (many pos : Nat), ∃ a, upS s many pos r = a ++ [upT s many pos r]
  | [], many, pos => ⟨[], rfl⟩
  | h :: r, many, pos => by
    unfold upS
    split
    · refine ⟨[], ?_⟩
      rename_i h1
      simp [upT, h1]
    · exact ⟨_, rfl⟩

theorem upT_length (s : List UInt8) (hs : s.length < 2 ^ 63) : ∀ (r : List Int) (many pos : Nat), (upT s many pos r).length < 2 ^ 63
  | [], many, pos => hs
  | h :: r, many, pos => by
    rw [upT_cons]
    split
    · exact hs
    · split
      · rw [nodeB_length]; decide
      · rw [nodeB_length]; decide

theorem upS_length (s : List UInt8) : ∀ (r : List Int) (many pos : Nat), (upS s many pos r).length ≤ r.length + 1
  | [], many, pos => by simp [upS]
  | h :: r, many, pos => by
    unfold upS
    split
    · simp
    · split
      · have := upS_length s r (splitS many) pos
        simp only [List.length_append, List.length_cons, List.length_nil]; omega
      · have := upS_length s r (many - splitS many) (pos - splitS many)
        simp only [List.length_append, List.length_cons, List.length_nil]; omega

theorem hashS_range (s : List UInt8) : 0 ≤ hashS s ∧ hashS s ≤ 18446744073709551615 := fold_range _ _ (by decide) (by decide)

theorem upT_hash (s : List UInt8) : ∀ (r : List Int) (many pos : Nat), 1 ≤ many → u64s r → hashS (upT s many pos r) = (climbR (hashS s) many pos r).1
  | [], many, pos, _, _ => rfl
  | h :: r, many, pos, hm, hu => by
    have hh := hu h (by simp)
    rw [upT_cons, climbR_cons]
    by_cases h1 : many ≤ 1
    · rw [if_pos h1, if_pos (show many = 1 by omega)]
    · rw [if_neg h1, if_neg (show ¬ many = 1 by omega)]
      have r1 := climbR_range (hashS_range s) (splitS many) pos r
      have r2 := climbR_range (hashS_range s) (many - splitS many) (pos - splitS many) r
      generalize climbR (hashS s) (splitS many) pos r = c1 at r1 ⊢
      generalize climbR (hashS s) (many - splitS many) (pos - splitS many) r = c2 at r2 ⊢
      by_cases hp : pos < splitS many
      · rw [if_pos hp, if_pos hp]
        exact node_eq r1.1 r1.2 hh.1 hh.2
      · rw [if_neg hp, if_neg hp]
        exact node_eq hh.1 hh.2 r2.1 r2.2

/-- one string more, in a list of strings -/
theorem append64 {v : AVal} {us : Ups} {xs : List (List UInt8)} (hv : VecB 1 0 v us (xs.map .str)) (hx : xs.length ≤ 600) (y : List UInt8) :
    ∃ u us', appendOp env 0 (putU [] us).length 64 v (.lit true 1 [.str y]) (putU [] us) = some (u, us') ∧ VecA 1 u (putU (putU [] us) us') ((xs ++ [y]).map .str) ∧
      us'.map (·.1) = [0] ∧ consec (putU [] us).length (putU [] us).length us' = true := by
  have hb : (xs.length + 1) * (16 + 1) ≤ maxBytes := by unfold maxBytes; omega
  rcases hv with ⟨sz, rfl, rfl, hsz⟩ | ⟨g, rfl, rfl, h0⟩
  · refine ⟨.ref 0 0 0 (xs.length + 1) false, [(0, .cells 0 1 true ((xs ++ [y]).map .str))], ?_, .inr ⟨0, by simp, by simp [putU], by simp⟩, rfl, rfl⟩
    have := append_lit (E := env) (nx := 0) (ro := 0) (H := []) (x := .lit true 1 [.str y]) (sz := sz) (es := xs.map .str) ti64 ti9 rfl ⟨by decide, rfl, rfl⟩ rfl (by simp) hsz (by simpa using hb) (fun _ => rfl)
    simpa [putU, newBlk, show flatTy env 8 9 = true from rfl] using this
  · have hl : 0 < xs.length := List.length_pos_iff.2 (by simpa using h0)
    refine ⟨.ref 0 (g + 1) 0 (xs.length + 1) false, [(0, .cells (g + 1) 1 true ((xs ++ [y]).map .str))], ?_, .inr ⟨g + 1, by simp, by simp [putU], by simp⟩, rfl, rfl⟩
    have := append_ref (E := env) (nx := 1) (ro := 0) (id := 0) (g := g) (fl := true) (H := [.cells g 1 true (xs.map .str)]) (x := .lit true 1 [.str y]) (bs := xs.map .str) (len := xs.length) ti64 ti9 rfl ⟨by decide, rfl, rfl⟩ rfl (by simp) rfl (by simp) hl (by omega) (by simpa using hb) (fun _ => rfl)
    simpa [putU] using this

theorem up_run (s : List UInt8) (hs : s.length < 2 ^ 63) : ∀ (r : List Int), u64s r → r.length ≤ 512 → ∀ (many pos : Nat) (cl : Bool) (sz : Nat), 1 ≤ many → many ≤ 512 → pos < many → (r = [] ∨ sz = 1) → ∃ v H',
    runT env 54 [.str s, .int .i64 many, .int .i64 pos, .lit cl sz (r.reverse.map (.int .u64))] [] 0 = some (.ret v, H') ∧ VecA 1 v H' ((upS s many pos r).map .str) := by
  intro r
  induction r with
  | nil =>
    intro _ _ many pos cl sz h1 h2 h3 _
    rw [run_unfold fn54 rfl]
    have z0 : decide (((0 : Nat) : Int) = 0) = true := by decide
    cases hd : decide ((many : Int) ≤ 1) with
    | true =>
      simp only [go_sem, Nat.reduceAdd, Nat.reduceSub, Nat.reduceMul, Nat.reduceDiv, Nat.reduceMod, Nat.reducePow, Nat.reduceLeDiff, Nat.reduceLT, Nat.reduceEqDiff, Nat.reduceBEq, Nat.reduceBNe, Int.reduceAdd, Int.reduceSub, Int.reduceMul, Int.reducePow, Int.reduceLE, Int.reduceLT, Int.reduceEq, Int.reduceToNat, Int.reduceNeg, reduceCtorEq, Nat.add_zero, Nat.zero_add, beq_self_eq_true, Try.f54, hd, List.reverse_nil, unwind, modeEx, resultsOf, one, upS]
      exact ⟨_, _, rfl, .inl ⟨1, rfl, rfl, .inr rfl⟩⟩
    | false =>
      simp only [go_sem, Nat.reduceAdd, Nat.reduceSub, Nat.reduceMul, Nat.reduceDiv, Nat.reduceMod, Nat.reducePow, Nat.reduceLeDiff, Nat.reduceLT, Nat.reduceEqDiff, Nat.reduceBEq, Nat.reduceBNe, Int.reduceAdd, Int.reduceSub, Int.reduceMul, Int.reducePow, Int.reduceLE, Int.reduceLT, Int.reduceEq, Int.reduceToNat, Int.reduceNeg, reduceCtorEq, Nat.add_zero, Nat.zero_add, beq_self_eq_true, Try.f54, hd, z0, List.reverse_nil, unwind, modeEx, resultsOf, one, upS]
      exact ⟨_, _, rfl, .inl ⟨1, rfl, rfl, .inr rfl⟩⟩
  | cons h r ih =>
    intro hu hl many pos cl sz h1 h2 h3 hsz
    obtain rfl : sz = 1 := by rcases hsz with h | h; · cases h
                              · exact h
    have hh := hu h (by simp)
    have hu' : u64s r := fun x hx => hu x (by simp [hx])
    have hl' : r.length + 1 ≤ 512 := by simpa using hl
    rw [run_unfold fn54 rfl]
    by_cases hm : many ≤ 1
    · have hd : decide ((many : Int) ≤ 1) = true := by simp only [decide_eq_true_eq]; omega
      simp only [go_sem, Nat.reduceAdd, Nat.reduceSub, Nat.reduceMul, Nat.reduceDiv, Nat.reduceMod, Nat.reducePow, Nat.reduceLeDiff, Nat.reduceLT, Nat.reduceEqDiff, Nat.reduceBEq, Nat.reduceBNe, Int.reduceAdd, Int.reduceSub, Int.reduceMul, Int.reducePow, Int.reduceLE, Int.reduceLT, Int.reduceEq, Int.reduceToNat, Int.reduceNeg, reduceCtorEq, Nat.add_zero, Nat.zero_add, beq_self_eq_true, Try.f54, hd, unwind, modeEx, resultsOf, one, upS, hm]
      exact ⟨_, _, rfl, .inl ⟨1, rfl, rfl, .inr rfl⟩⟩
    · have hd : decide ((many : Int) ≤ 1) = false := by simp only [decide_eq_false_iff_not]; omega
      have d0 : decide (((r.length + 1 : Nat) : Int) = 0) = false := by simp only [decide_eq_false_iff_not]; omega
      have hs' := splitS_lt (n := many) (by omega)
      have e0 : (0 : Int) ≤ (r.length : Int) := by omega
      have hg : ((r.reverse ++ [h]).map (AVal.int .u64))[r.length]? = some (.int .u64 h) := get_map (by simp)
      have ht : (r.reverse ++ [h]).take r.length = r.reverse := by
        rw [show r.length = r.reverse.length from by simp]; exact List.take_left' rfl
      by_cases hp : pos < splitS many
      · have d2 : decide ((pos : Int) < (splitS many : Int)) = true := by simp only [decide_eq_true_eq]; omega
        obtain ⟨v, H', hr, hv⟩ := ih hu' (by omega) (splitS many) pos true 1 (by omega) (by omega) hp (.inr rfl)
        obtain ⟨u, us, hc, huv⟩ := call_vecA (E := env) (f := 54) rfl rfl rfl rfl (by simp [underL, AVal.under]) hr hv 0 [] 0
        obtain ⟨a, hal⟩ := upS_last s r (splitS many) pos
        have hlen := upS_length s r (splitS many) pos
        have k1 := fun ro H nx => hash_call (upT s (splitS many) pos r) (upT_length s hs _ _ _) ro H nx
        rw [upT_hash s r _ _ (by omega) hu'] at k1
        obtain ⟨w, us', ha, hw, g3, g5⟩ := append64 huv (by omega) (nodeB (climbR (hashS s) (splitS many) pos r).1 h)
        have ga : ((a ++ [upT s (splitS many) pos r]).map AVal.str)[a.length]? = some (.str (upT s (splitS many) pos r)) := get_map (by simp)
        have ea : (0 : Int) ≤ (a.length : Int) := by omega
        have db : decide ((a.length : Int) < ((a.length + 1 : Nat) : Int)) = true := by simp only [decide_eq_true_eq]; omega
        have hla : a.length < 2 ^ 63 := by rw [hal, List.length_append] at hlen; omega
        have hres : upS s many pos (h :: r) = upS s (splitS many) pos r ++ [nodeB (climbR (hashS s) (splitS many) pos r).1 h] := by
          simp only [upS, upT, hm, hp, if_false, if_true]
        rw [hres]
        rw [hal] at huv
        rcases huv with ⟨sz', rfl, rfl, hsz'⟩ | ⟨g, rfl, rfl, hne⟩
        · obtain rfl : sz' = 1 := by rcases hsz' with h | h; · simp at h
                                     · exact h
          simp only [putU, List.length_nil] at ha g5
          simp only [go_sem, Nat.reduceAdd, Nat.reduceSub, Nat.reduceMul, Nat.reduceDiv, Nat.reduceMod, Nat.reducePow, Nat.reduceLeDiff, Nat.reduceLT, Nat.reduceEqDiff, Nat.reduceBEq, Nat.reduceBNe, Int.reduceAdd, Int.reduceSub, Int.reduceMul, Int.reducePow, Int.reduceLE, Int.reduceLT, Int.reduceEq, Int.reduceToNat, Int.reduceNeg, reduceCtorEq, Nat.add_zero, Nat.zero_add, beq_self_eq_true, Try.f54, hd, d0, d2, List.reverse_cons, List.length_map, List.length_append, List.length_reverse, wrap_pred (show r.length < 2 ^ 63 by omega), wrap_pred hla, rsplit_call (n := many) (by omega) (by omega), sl35_to3 _ _ _ (show r.length ≤ (r.reverse ++ [h]).length by simp), ht, hc, e0, Int.toNat_natCast, hg, ga, ea, k1, ha, g3, g5]
          rw [apart_ok]
          · simp only [go_sem, Nat.reduceAdd, Nat.reduceSub, Nat.reduceMul, Nat.reduceDiv, Nat.reduceMod, Nat.reducePow, Nat.reduceLeDiff, Nat.reduceLT, Nat.reduceEqDiff, Nat.reduceBEq, Nat.reduceBNe, Int.reduceAdd, Int.reduceSub, Int.reduceMul, Int.reducePow, Int.reduceLE, Int.reduceLT, Int.reduceEq, Int.reduceToNat, Int.reduceNeg, reduceCtorEq, Nat.add_zero, Nat.zero_add, beq_self_eq_true, unwind, modeEx, resultsOf, one]
            exact ⟨_, _, rfl, hw⟩
          · kernel_rfl
        · simp only [putU, List.length_nil, Nat.lt_irrefl, if_false, List.nil_append, List.length_cons, List.length_append, List.length_map, Nat.zero_add] at ha g5
          simp only [go_sem, Nat.reduceAdd, Nat.reduceSub, Nat.reduceMul, Nat.reduceDiv, Nat.reduceMod, Nat.reducePow, Nat.reduceLeDiff, Nat.reduceLT, Nat.reduceEqDiff, Nat.reduceBEq, Nat.reduceBNe, Int.reduceAdd, Int.reduceSub, Int.reduceMul, Int.reducePow, Int.reduceLE, Int.reduceLT, Int.reduceEq, Int.reduceToNat, Int.reduceNeg, reduceCtorEq, Nat.add_zero, Nat.zero_add, beq_self_eq_true, Try.f54, hd, d0, d2, List.reverse_cons, List.length_map, List.length_append, List.length_reverse, wrap_pred (show r.length < 2 ^ 63 by omega), wrap_pred hla, rsplit_call (n := many) (by omega) (by omega), sl35_to3 _ _ _ (show r.length ≤ (r.reverse ++ [h]).length by simp), ht, hc, e0, Int.toNat_natCast, hg, ga, ea, db, k1, ha, g3, g5]
          rw [apart_ok]
          · simp only [go_sem, Nat.reduceAdd, Nat.reduceSub, Nat.reduceMul, Nat.reduceDiv, Nat.reduceMod, Nat.reducePow, Nat.reduceLeDiff, Nat.reduceLT, Nat.reduceEqDiff, Nat.reduceBEq, Nat.reduceBNe, Int.reduceAdd, Int.reduceSub, Int.reduceMul, Int.reducePow, Int.reduceLE, Int.reduceLT, Int.reduceEq, Int.reduceToNat, Int.reduceNeg, reduceCtorEq, Nat.add_zero, Nat.zero_add, beq_self_eq_true, unwind, modeEx, resultsOf, one]
            exact ⟨_, _, rfl, hw⟩
          · kernel_rfl
      · have d2 : decide ((pos : Int) < (splitS many : Int)) = false := by simp only [decide_eq_false_iff_not]; omega
        obtain ⟨v, H', hr, hv⟩ := ih hu' (by omega) (many - splitS many) (pos - splitS many) true 1 (by omega) (by omega) (by omega) (.inr rfl)
        obtain ⟨u, us, hc, huv⟩ := call_vecA (E := env) (f := 54) rfl rfl rfl rfl (by simp [underL, AVal.under]) hr hv 0 [] 0
        obtain ⟨a, hal⟩ := upS_last s r (many - splitS many) (pos - splitS many)
        have hlen := upS_length s r (many - splitS many) (pos - splitS many)
        have k1 := fun ro H nx => hash_call (upT s (many - splitS many) (pos - splitS many) r) (upT_length s hs _ _ _) ro H nx
        rw [upT_hash s r _ _ (by omega) hu'] at k1
        obtain ⟨w, us', ha, hw, g3, g5⟩ := append64 huv (by omega) (nodeB h (climbR (hashS s) (many - splitS many) (pos - splitS many) r).1)
        have ga : ((a ++ [upT s (many - splitS many) (pos - splitS many) r]).map AVal.str)[a.length]? = some (.str (upT s (many - splitS many) (pos - splitS many) r)) := get_map (by simp)
        have ea : (0 : Int) ≤ (a.length : Int) := by omega
        have db : decide ((a.length : Int) < ((a.length + 1 : Nat) : Int)) = true := by simp only [decide_eq_true_eq]; omega
        have hla : a.length < 2 ^ 63 := by rw [hal, List.length_append] at hlen; omega
        have hres : upS s many pos (h :: r) = upS s (many - splitS many) (pos - splitS many) r ++ [nodeB h (climbR (hashS s) (many - splitS many) (pos - splitS many) r).1] := by
          simp only [upS, upT, hm, hp, if_false, if_true]
        rw [hres]
        rw [hal] at huv
        rcases huv with ⟨sz', rfl, rfl, hsz'⟩ | ⟨g, rfl, rfl, hne⟩
        · obtain rfl : sz' = 1 := by rcases hsz' with h | h; · simp at h
                                     · exact h
          simp only [putU, List.length_nil] at ha g5
          simp only [go_sem, Nat.reduceAdd, Nat.reduceSub, Nat.reduceMul, Nat.reduceDiv, Nat.reduceMod, Nat.reducePow, Nat.reduceLeDiff, Nat.reduceLT, Nat.reduceEqDiff, Nat.reduceBEq, Nat.reduceBNe, Int.reduceAdd, Int.reduceSub, Int.reduceMul, Int.reducePow, Int.reduceLE, Int.reduceLT, Int.reduceEq, Int.reduceToNat, Int.reduceNeg, reduceCtorEq, Nat.add_zero, Nat.zero_add, beq_self_eq_true, Try.f54, hd, d0, d2, List.reverse_cons, List.length_map, List.length_append, List.length_reverse, wrap_pred (show r.length < 2 ^ 63 by omega), wrap_pred hla, wrap_sub (show splitS many ≤ many by omega) (by omega), wrap_sub (show splitS many ≤ pos by omega) (by omega), rsplit_call (n := many) (by omega) (by omega), sl35_to3 _ _ _ (show r.length ≤ (r.reverse ++ [h]).length by simp), ht, hc, e0, Int.toNat_natCast, hg, ga, ea, k1, ha, g3, g5]
          rw [apart_ok]
          · simp only [go_sem, Nat.reduceAdd, Nat.reduceSub, Nat.reduceMul, Nat.reduceDiv, Nat.reduceMod, Nat.reducePow, Nat.reduceLeDiff, Nat.reduceLT, Nat.reduceEqDiff, Nat.reduceBEq, Nat.reduceBNe, Int.reduceAdd, Int.reduceSub, Int.reduceMul, Int.reducePow, Int.reduceLE, Int.reduceLT, Int.reduceEq, Int.reduceToNat, Int.reduceNeg, reduceCtorEq, Nat.add_zero, Nat.zero_add, beq_self_eq_true, unwind, modeEx, resultsOf, one]
            exact ⟨_, _, rfl, hw⟩
          · kernel_rfl
        · simp only [putU, List.length_nil, Nat.lt_irrefl, if_false, List.nil_append, List.length_cons, List.length_append, List.length_map, Nat.zero_add] at ha g5
          simp only [go_sem, Nat.reduceAdd, Nat.reduceSub, Nat.reduceMul, Nat.reduceDiv, Nat.reduceMod, Nat.reducePow, Nat.reduceLeDiff, Nat.reduceLT, Nat.reduceEqDiff, Nat.reduceBEq, Nat.reduceBNe, Int.reduceAdd, Int.reduceSub, Int.reduceMul, Int.reducePow, Int.reduceLE, Int.reduceLT, Int.reduceEq, Int.reduceToNat, Int.reduceNeg, reduceCtorEq, Nat.add_zero, Nat.zero_add, beq_self_eq_true, Try.f54, hd, d0, d2, List.reverse_cons, List.length_map, List.length_append, List.length_reverse, wrap_pred (show r.length < 2 ^ 63 by omega), wrap_pred hla, wrap_sub (show splitS many ≤ many by omega) (by omega), wrap_sub (show splitS many ≤ pos by omega) (by omega), rsplit_call (n := many) (by omega) (by omega), sl35_to3 _ _ _ (show r.length ≤ (r.reverse ++ [h]).length by simp), ht, hc, e0, Int.toNat_natCast, hg, ga, ea, db, k1, ha, g3, g5]
          rw [apart_ok]
          · simp only [go_sem, Nat.reduceAdd, Nat.reduceSub, Nat.reduceMul, Nat.reduceDiv, Nat.reduceMod, Nat.reducePow, Nat.reduceLeDiff, Nat.reduceLT, Nat.reduceEqDiff, Nat.reduceBEq, Nat.reduceBNe, Int.reduceAdd, Int.reduceSub, Int.reduceMul, Int.reducePow, Int.reduceLE, Int.reduceLT, Int.reduceEq, Int.reduceToNat, Int.reduceNeg, reduceCtorEq, Nat.add_zero, Nat.zero_add, beq_self_eq_true, unwind, modeEx, resultsOf, one]
            exact ⟨_, _, rfl, hw⟩
          · kernel_rfl

theorem up_call (s : List UInt8) (hs : s.length < 2 ^ 63) (r : List Int) (hu : u64s r) (hl : r.length ≤ 512) (many pos : Nat) (cl : Bool) (sz : Nat) (h1 : 1 ≤ many) (h2 : many ≤ 512) (h3 : pos < many) (hsz : r = [] ∨ sz = 1) (ro : Nat) (H : Heap) (nx : Nat) :
    ∃ u us, callT env 54 [.str s, .int .i64 many, .int .i64 pos, .lit cl sz (r.reverse.map (.int .u64))] ro H nx = some (.ret u, .ups us) ∧ VecB 1 nx u us ((upS s many pos r).map .str) := by
  obtain ⟨v, H', hr, hv⟩ := up_run s hs r hu hl many pos cl sz h1 h2 h3 hsz
  exact call_vecA rfl rfl rfl rfl (by simp [underL, AVal.under]) hr hv ro H nx
end Go.Proofs.Ytamcncpgfhfheaa.Tidy

/-
  Whether hashes are distinct.
-/
namespace Go.Proofs.Ytamcncpgfhfheaa.Tidy
open Go Go.IntWalk
set_option maxRecDepth 10000
set_option linter.unusedSimpArgs false

abbrev Met := List (Int × List UInt8)
def encM (m : Met) : List (AVal × AVal) := m.map fun p => (.int .u64 p.1, .str p.2)
def lk (h : Int) : Met → Option (List UInt8)
  | [] => none
  | (k, v) :: m => if h = k then some v else lk h m
def updM (h : Int) (s : List UInt8) : Met → Met
  | [] => [(h, s)]
  | (k, v) :: m => if h = k then (h, s) :: m else (k, v) :: updM h s m

theorem lk_updM (h : Int) (s : List UInt8) (k : Int) : ∀ m : Met, lk k (updM h s m) = if k = h then some s else lk k m
  | [] => by simp only [updM, lk]
  | (k', v) :: m => by
    have ih := lk_updM h s k m
    simp only [updM]
    by_cases h1 : h = k'
    · rw [if_pos h1]
      simp only [lk]
      by_cases h2 : k = h
      · rw [if_pos h2, if_pos h2]
      · rw [if_neg h2, if_neg h2, if_neg (by omega)]
    · rw [if_neg h1]
      simp only [lk]
      by_cases h2 : k = k'
      · rw [if_pos h2, if_neg (by omega), if_pos h2]
      · rw [if_neg h2, ih]
        simp only [if_neg h2]

theorem find_none {h : Int} : ∀ {m : Met} (i : Nat), lk h m = none → findKey (.int .u64 h) (encM m) i = some none
  | [], _, _ => rfl
  | (k, v) :: m, i, hn => by
    simp only [lk] at hn
    split at hn
    · cases hn
    · rename_i hk
      simp only [encM, List.map_cons, findKey, eqv, if_true, hk, decide_false]
      exact find_none (m := m) (i + 1) hn

theorem find_some {h : Int} {v : List UInt8} : ∀ {m : Met} (i : Nat), lk h m = some v → ∃ j, findKey (.int .u64 h) (encM m) i = some (some (j, .str v))
  | [], _, hn => by cases hn
  | (k, v') :: m, i, hn => by
    simp only [lk] at hn
    split at hn
    · rename_i hk
      cases hn
      exact ⟨i, by simp only [encM, List.map_cons, findKey, eqv, if_true, hk, decide_true]⟩
    · rename_i hk
      obtain ⟨j, hj⟩ := find_some (m := m) (i + 1) hn
      exact ⟨j, by simp only [encM, List.map_cons, findKey, eqv, if_true, hk, decide_false]; exact hj⟩

theorem set_met {h : Int} {s : List UInt8} : ∀ {m : Met}, mapSet (.int .u64 h) (.str s) (encM m) = some (encM (updM h s m))
  | [] => rfl
  | (k, v) :: m => by
    by_cases hk : h = k
    · simp only [encM, List.map_cons, mapSet, eqv, if_true, hk, decide_true, updM]
    · have ih := set_met (h := h) (s := s) (m := m)
      simp only [encM, List.map_cons, mapSet, eqv, if_true, hk, decide_false, updM, if_false] at ih ⊢
      rw [ih]; rfl

theorem key25 (h : Int) : env.keyOk 25 (.int .u64 h) = true := rfl

/-- no two different strings have the same hash -/
def NoColl (l : List (List UInt8)) : Prop := ∀ s ∈ l, ∀ t ∈ l, hashS s = hashS t → s = t

theorem distinct_loop (c : Bool) (L : List (List UInt8)) (hL : L.length < 2 ^ 63) (hs : ∀ s ∈ L, s.length < 2 ^ 63) (v0 : AVal) : ∀ (n i : Nat) (met : Met) (j1 j4 j5 j6 j7 j8 j9 j13 j14 j15 j16 j17 j18 j19 j20 j21 j22 j23 j24 j25 j26 j27 j28 j29 j30 j31 j32 j33 : AVal), i + n = L.length → (∀ s ∈ L.take i, lk (hashS s) met = some s) →
    Goes (execT env (Try.f51.at [1, 1, 0, 1, 0]) ⟨[v0, j1, .bool false, .mapp 0, j4, j5, j6, j7, j8, j9, .lit c 1 (L.map .str), .int .i64 L.length, .int .i64 i, j13, j14, j15, j16, j17, j18, j19, j20, j21, j22, j23, j24, j25, j26, j27, j28, j29, j30, j31, j32, j33], [.map (encM met)], [], 0, []⟩) fun e s' =>
      (e = .ret ∧ ∃ m', ∃ j0 j1 j3 j4 j5 j6 j7 j8 j9 j10 j11 j12 j13 j14 j15 j16 j17 j18 j19 j20 j21 j22 j23 j24 j25 j26 j27 j28 j29 j30 j31 j32 j33, s' = ⟨[j0, j1, .bool false, j3, j4, j5, j6, j7, j8, j9, j10, j11, j12, j13, j14, j15, j16, j17, j18, j19, j20, j21, j22, j23, j24, j25, j26, j27, j28, j29, j30, j31, j32, j33], [.map (encM m')], [], 0, []⟩) ∨ (NoColl L ∧ e = .exit 0 ∧ ∃ m', ∃ j0 j1 j2 j3 j4 j5 j6 j7 j8 j9 j10 j11 j12 j13 j14 j15 j16 j17 j18 j19 j20 j21 j22 j23 j24 j25 j26 j27 j28 j29 j30 j31 j32 j33, s' = ⟨[j0, j1, j2, j3, j4, j5, j6, j7, j8, j9, j10, j11, j12, j13, j14, j15, j16, j17, j18, j19, j20, j21, j22, j23, j24, j25, j26, j27, j28, j29, j30, j31, j32, j33], [.map (encM m')], [], 0, []⟩) := by
  intro n
  induction n with
  | zero =>
    intro i met j1 j4 j5 j6 j7 j8 j9 j13 j14 j15 j16 j17 j18 j19 j20 j21 j22 j23 j24 j25 j26 j27 j28 j29 j30 j31 j32 j33 hi hmet
    have hd : decide ((i : Int) < (L.length : Int)) = false := by simp; omega
    rw [List.take_of_length_le (by omega)] at hmet
    have hnc : NoColl L := by
      intro s h1 t h2 h3
      have a := hmet s h1
      have b := hmet t h2
      rw [h3, b] at a
      cases a; rfl
    simp only [go_sem, Nat.reduceAdd, Nat.reduceSub, Nat.reduceMul, Nat.reduceDiv, Nat.reduceMod, Nat.reducePow, Nat.reduceLeDiff, Nat.reduceLT, Nat.reduceEqDiff, Nat.reduceBEq, Nat.reduceBNe, Int.reduceAdd, Int.reduceSub, Int.reduceMul, Int.reducePow, Int.reduceLE, Int.reduceLT, Int.reduceEq, Int.reduceToNat, Int.reduceNeg, reduceCtorEq, Nat.add_zero, Nat.zero_add, beq_self_eq_true, Try.f51]
    rw [execT_loop]
    simp only [go_sem, Nat.reduceAdd, Nat.reduceSub, Nat.reduceMul, Nat.reduceDiv, Nat.reduceMod, Nat.reducePow, Nat.reduceLeDiff, Nat.reduceLT, Nat.reduceEqDiff, Nat.reduceBEq, Nat.reduceBNe, Int.reduceAdd, Int.reduceSub, Int.reduceMul, Int.reducePow, Int.reduceLE, Int.reduceLT, Int.reduceEq, Int.reduceToNat, Int.reduceNeg, reduceCtorEq, Nat.add_zero, Nat.zero_add, beq_self_eq_true, hd]
    exact .inr ⟨hnc, met, _, _, _, _, _, _, _, _, _, _, _, _, _, _, _, _, _, _, _, _, _, _, _, _, _, _, _, _, _, _, _, _, _, _, rfl⟩
  | succ n ih =>
    intro i met j1 j4 j5 j6 j7 j8 j9 j13 j14 j15 j16 j17 j18 j19 j20 j21 j22 j23 j24 j25 j26 j27 j28 j29 j30 j31 j32 j33 hi hmet
    have hd : decide ((i : Int) < (L.length : Int)) = true := by simp; omega
    have h0 : (0 : Int) ≤ (i : Int) := by omega
    have hlt : i < L.length := by omega
    obtain ⟨s, hsx, hdr⟩ := get_drop hlt
    have hsm : s ∈ L := List.mem_of_getElem? hsx
    have hs' : (L.map AVal.str)[(i : Int).toNat]? = some (.str s) := get_map hsx
    have hh := hash_call s (hs s hsm)
    have ih' := ih (i + 1) (updM (hashS s) s met)
    simp only [go_sem, Nat.reduceAdd, Nat.reduceSub, Nat.reduceMul, Nat.reduceDiv, Nat.reduceMod, Nat.reducePow, Nat.reduceLeDiff, Nat.reduceLT, Nat.reduceEqDiff, Nat.reduceBEq, Nat.reduceBNe, Int.reduceAdd, Int.reduceSub, Int.reduceMul, Int.reducePow, Int.reduceLE, Int.reduceLT, Int.reduceEq, Int.reduceToNat, Int.reduceNeg, reduceCtorEq, Nat.add_zero, Nat.zero_add, beq_self_eq_true, Try.f51] at ih' ⊢
    rw [execT_loop]
    have htake : ∀ t, t ∈ L.take (i + 1) → t ∈ L.take i ∨ t = s := by
      intro t ht
      rw [List.take_add_one, hsx] at ht
      simpa using ht
    cases hl : lk (hashS s) met with
    | none =>
      have hf := find_none 0 hl
      simp only [go_sem, Nat.reduceAdd, Nat.reduceSub, Nat.reduceMul, Nat.reduceDiv, Nat.reduceMod, Nat.reducePow, Nat.reduceLeDiff, Nat.reduceLT, Nat.reduceEqDiff, Nat.reduceBEq, Nat.reduceBNe, Int.reduceAdd, Int.reduceSub, Int.reduceMul, Int.reducePow, Int.reduceLE, Int.reduceLT, Int.reduceEq, Int.reduceToNat, Int.reduceNeg, reduceCtorEq, Nat.add_zero, Nat.zero_add, beq_self_eq_true, hd, h0, hs', hh, key25, hf, set_met, wrap_succ (show i < 2 ^ 63 - 1 by omega)]
      refine ih' _ _ _ _ _ _ _ _ _ _ _ _ _ _ _ _ _ _ _ _ _ _ _ _ _ _ _ _ (by omega) (fun t ht => ?_)
      rw [lk_updM]
      rcases htake t ht with ht | rfl
      · split
        · rename_i he
          have := hmet t ht
          rw [he, hl] at this; cases this
        · exact hmet t ht
      · rw [if_pos rfl]
    | some v =>
      obtain ⟨j, hf⟩ := find_some 0 hl
      by_cases hv : v = s
      · subst hv
        simp only [go_sem, Nat.reduceAdd, Nat.reduceSub, Nat.reduceMul, Nat.reduceDiv, Nat.reduceMod, Nat.reducePow, Nat.reduceLeDiff, Nat.reduceLT, Nat.reduceEqDiff, Nat.reduceBEq, Nat.reduceBNe, Int.reduceAdd, Int.reduceSub, Int.reduceMul, Int.reducePow, Int.reduceLE, Int.reduceLT, Int.reduceEq, Int.reduceToNat, Int.reduceNeg, reduceCtorEq, Nat.add_zero, Nat.zero_add, beq_self_eq_true, hd, h0, hs', hh, key25, hf, set_met, wrap_succ (show i < 2 ^ 63 - 1 by omega)]
        refine ih' _ _ _ _ _ _ _ _ _ _ _ _ _ _ _ _ _ _ _ _ _ _ _ _ _ _ _ _ (by omega) (fun t ht => ?_)
        rw [lk_updM]
        rcases htake t ht with ht | rfl
        · split
          · rename_i he
            have := hmet t ht
            rw [he, hl] at this; exact this
          · exact hmet t ht
        · rw [if_pos rfl]
      · have hb : (v == s) = false := by simpa using hv
        simp only [go_sem, Nat.reduceAdd, Nat.reduceSub, Nat.reduceMul, Nat.reduceDiv, Nat.reduceMod, Nat.reducePow, Nat.reduceLeDiff, Nat.reduceLT, Nat.reduceEqDiff, Nat.reduceBEq, Nat.reduceBNe, Int.reduceAdd, Int.reduceSub, Int.reduceMul, Int.reducePow, Int.reduceLE, Int.reduceLT, Int.reduceEq, Int.reduceToNat, Int.reduceNeg, reduceCtorEq, Nat.add_zero, Nat.zero_add, beq_self_eq_true, hd, h0, hs', hh, key25, hf, hb]
        exact .inl ⟨_, _, _, _, _, _, _, _, _, _, _, _, _, _, _, _, _, _, _, _, _, _, _, _, _, _, _, _, _, _, _, _, _, _, rfl⟩

theorem distinct_call (c : Bool) (L : List (List UInt8)) (hL : L.length < 2 ^ 63) (hs : ∀ s ∈ L, s.length < 2 ^ 63) : ∃ b, (b = true → NoColl L) ∧ ∀ ro H nx, callT env 51 [.lit c 1 (L.map .str)] ro H nx = some (.ret (.bool b), .ups []) := by
  obtain ⟨e, s, hx, hp⟩ := distinct_loop c L hL hs (.lit c 1 (L.map .str)) L.length 0 [] _ _ _ _ _ _ _ _ _ _ _ _ _ _ _ _ _ _ _ _ _ _ _ _ _ _ _ _ (by omega) (by simp)
  simp only [go_sem, Nat.reduceAdd, Nat.reduceSub, Nat.reduceMul, Nat.reduceDiv, Nat.reduceMod, Nat.reducePow, Nat.reduceLeDiff, Nat.reduceLT, Nat.reduceEqDiff, Nat.reduceBEq, Nat.reduceBNe, Int.reduceAdd, Int.reduceSub, Int.reduceMul, Int.reducePow, Int.reduceLE, Int.reduceLT, Int.reduceEq, Int.reduceToNat, Int.reduceNeg, reduceCtorEq, Nat.add_zero, Nat.zero_add, beq_self_eq_true, Try.f51, Int.ofNat_zero, Int.natCast_zero, encM] at hx
  have hu : underL 0 [AVal.lit c 1 (L.map .str)] = true := rfl
  rcases hp with ⟨rfl, m', j0, j1, j3, j4, j5, j6, j7, j8, j9, j10, j11, j12, j13, j14, j15, j16, j17, j18, j19, j20, j21, j22, j23, j24, j25, j26, j27, j28, j29, j30, j31, j32, j33, rfl⟩ | ⟨hn, rfl, m', j0, j1, j2, j3, j4, j5, j6, j7, j8, j9, j10, j11, j12, j13, j14, j15, j16, j17, j18, j19, j20, j21, j22, j23, j24, j25, j26, j27, j28, j29, j30, j31, j32, j33, rfl⟩
  · refine ⟨false, by simp, fun ro H nx => ?_⟩
    refine call_pure (H' := [.map (encM m')]) rfl rfl rfl hu ?_ rfl ro H nx
    rw [run_unfold fn51 rfl]
    simp only [go_sem, Nat.reduceAdd, Nat.reduceSub, Nat.reduceMul, Nat.reduceDiv, Nat.reduceMod, Nat.reducePow, Nat.reduceLeDiff, Nat.reduceLT, Nat.reduceEqDiff, Nat.reduceBEq, Nat.reduceBNe, Int.reduceAdd, Int.reduceSub, Int.reduceMul, Int.reducePow, Int.reduceLE, Int.reduceLT, Int.reduceEq, Int.reduceToNat, Int.reduceNeg, reduceCtorEq, Nat.add_zero, Nat.zero_add, beq_self_eq_true, Try.f51, List.length_map]
    rw [hx]
    simp only [go_sem, Nat.reduceAdd, Nat.reduceSub, Nat.reduceMul, Nat.reduceDiv, Nat.reduceMod, Nat.reducePow, Nat.reduceLeDiff, Nat.reduceLT, Nat.reduceEqDiff, Nat.reduceBEq, Nat.reduceBNe, Int.reduceAdd, Int.reduceSub, Int.reduceMul, Int.reducePow, Int.reduceLE, Int.reduceLT, Int.reduceEq, Int.reduceToNat, Int.reduceNeg, reduceCtorEq, Nat.add_zero, Nat.zero_add, beq_self_eq_true, unwind, modeEx, resultsOf, one]
  · refine ⟨true, fun _ => hn, fun ro H nx => ?_⟩
    refine call_pure (H' := [.map (encM m')]) rfl rfl rfl hu ?_ rfl ro H nx
    rw [run_unfold fn51 rfl]
    simp only [go_sem, Nat.reduceAdd, Nat.reduceSub, Nat.reduceMul, Nat.reduceDiv, Nat.reduceMod, Nat.reducePow, Nat.reduceLeDiff, Nat.reduceLT, Nat.reduceEqDiff, Nat.reduceBEq, Nat.reduceBNe, Int.reduceAdd, Int.reduceSub, Int.reduceMul, Int.reducePow, Int.reduceLE, Int.reduceLT, Int.reduceEq, Int.reduceToNat, Int.reduceNeg, reduceCtorEq, Nat.add_zero, Nat.zero_add, beq_self_eq_true, Try.f51, List.length_map]
    rw [hx]
    simp only [go_sem, Nat.reduceAdd, Nat.reduceSub, Nat.reduceMul, Nat.reduceDiv, Nat.reduceMod, Nat.reducePow, Nat.reduceLeDiff, Nat.reduceLT, Nat.reduceEqDiff, Nat.reduceBEq, Nat.reduceBNe, Int.reduceAdd, Int.reduceSub, Int.reduceMul, Int.reducePow, Int.reduceLE, Int.reduceLT, Int.reduceEq, Int.reduceToNat, Int.reduceNeg, reduceCtorEq, Nat.add_zero, Nat.zero_add, beq_self_eq_true, unwind, modeEx, resultsOf, one]
end Go.Proofs.Ytamcncpgfhfheaa.Tidy

/-
  What a path proves, in plain terms.
-/
namespace Go.Proofs.Ytamcncpgfhfheaa.Tidy
open Go Go.IntWalk
set_option linter.unusedSimpArgs false

theorem eightL_inj : ∀ (k : Nat) (a b : Int), 0 ≤ a → 0 ≤ b → a ≤ 18446744073709551615 → b ≤ 18446744073709551615 → a < 256 ^ k → b < 256 ^ k → eightL k a = eightL k b → a = b
  | 0, a, b, ha, hb, _, _, ha', hb', _ => by
    rw [Int.pow_zero] at ha' hb'; omega
  | k + 1, a, b, ha, hb, hA, hB, ha', hb', h => by
    rw [Int.pow_succ] at ha' hb'
    simp only [eightL, List.cons.injEq] at h
    obtain ⟨h1, h2⟩ := h
    have w : ∀ n : Int, 0 ≤ n → n ≤ 18446744073709551615 → IntKind.u64.wrap (n.tdiv 256) = n / 256 := by
      intro n h0 h1
      rw [u64_quo n 256 ⟨h0, h1, by omega⟩]
    rw [w a ha hA, w b hb hB] at h2
    have e1 := bO_val ha
    have e2 := bO_val hb
    rw [h1, e2, IntKind.wrap_u8, IntKind.wrap_u8] at e1
    have hrec := eightL_inj k (a / 256) (b / 256) (by omega) (by omega) (by omega) (by omega) (by generalize (256 : Int) ^ k = m at ha' hb'; omega) (by generalize (256 : Int) ^ k = m at ha' hb'; omega) h2
    omega

def u64 (a : Int) : Prop := 0 ≤ a ∧ a ≤ 18446744073709551615

theorem nodeB_inj {a b c d : Int} (ha : u64 a) (hb : u64 b) (hc : u64 c) (hd : u64 d) (h : nodeB a b = nodeB c d) : a = c ∧ b = d := by
  unfold nodeB at h
  rw [List.append_assoc, List.append_assoc] at h
  have h1 := List.append_cancel_left h
  obtain ⟨h2, h3⟩ := List.append_inj h1 (by rw [eightL_length, eightL_length])
  have hp : (256 : Int) ^ 8 = 18446744073709551616 := by decide
  exact ⟨eightL_inj 8 a c ha.1 hc.1 ha.2 hc.2 (by have := ha.2; omega) (by have := hc.2; omega) h2, eightL_inj 8 b d hb.1 hd.1 hb.2 hd.2 (by have := hb.2; omega) (by have := hd.2; omega) h3⟩

theorem ok_range {e : Entry} (h : e.ok = true) : (0 ≤ e.office ∧ e.office < 8) ∧ (0 ≤ e.no ∧ e.no < 64) ∧ e.body.length ≤ 2400 := by
  unfold Entry.ok at h
  simp only [Bool.not_eq_true', Bool.or_eq_false_iff, decide_eq_false_iff_not] at h
  omega

theorem leafB_inj {e f : Entry} (he : e.ok = true) (hf : f.ok = true) (h : leafB e = leafB f) : e = f := by
  obtain ⟨⟨a1, a2⟩, ⟨a3, a4⟩, a5⟩ := ok_range he
  obtain ⟨⟨b1, b2⟩, ⟨b3, b4⟩, b5⟩ := ok_range hf
  unfold leafB at h
  simp only [List.append_assoc, List.cons_append, List.nil_append, List.cons.injEq] at h
  obtain ⟨_, h1, h2, _, _, h3⟩ := h
  have w : ∀ n : Int, 0 ≤ n → n < 256 → ((bO (IntKind.u64.wrap n)).toNat : Int) = n := by
    intro n h0 h1
    rw [u64_in n (by omega), bO_val h0, u8_in n (by omega)]
  have e1 := w e.office a1 (by omega)
  rw [h1, w f.office b1 (by omega)] at e1
  have e2 := w e.no a3 (by omega)
  rw [h2, w f.no b3 (by omega)] at e2
  cases e; cases f
  simp_all

theorem rootI_one (e : Entry) : rootI [e] = leafI e := rfl

theorem all_take {l : List Entry} (h : l.all Entry.ok = true) (k : Nat) : (l.take k).all Entry.ok = true := List.all_eq_true.2 fun e he => List.all_eq_true.1 h e (List.mem_of_mem_take he)
theorem all_drop {l : List Entry} (h : l.all Entry.ok = true) (k : Nat) : (l.drop k).all Entry.ok = true := List.all_eq_true.2 fun e he => List.all_eq_true.1 h e (List.mem_of_mem_drop he)

theorem top_mem (l : List Entry) : topB l ∈ hashedS l := by
  obtain ⟨a, h⟩ := hashedS_last l
  rw [h]; simp
theorem up_mem (s : List UInt8) (r : List Int) (many pos : Nat) : upT s many pos r ∈ upS s many pos r := by
  obtain ⟨a, h⟩ := upS_last s r many pos
  rw [h]; simp

/-- the path of an entry makes the root -/
theorem climb_path : ∀ (n : Nat) (l : List Entry) (pos : Nat) (e : Entry), l.length ≤ n → l[pos]? = some e → climbR (leafI e) l.length pos (pathR rootI l pos) = (rootI l, true)
  | n, l, pos, e, hn, he => by
    have hlt : pos < l.length := (List.getElem?_eq_some_iff.1 he).1
    by_cases h1 : l.length ≤ 1
    · obtain ⟨x, rfl⟩ := List.length_eq_one_iff.1 (show l.length = 1 by omega)
      obtain rfl : pos = 0 := by simp at hlt; exact hlt
      cases he
      rw [pathR_one (by simp)]
      rfl
    · obtain ⟨m, rfl⟩ : ∃ m, n = m + 1 := ⟨n - 1, by omega⟩
      have hs := splitS_lt (n := l.length) (by omega)
      by_cases hp : pos < splitS l.length
      · have ih := climb_path m (l.take (splitS l.length)) pos e (by rw [List.length_take]; omega) (by rw [List.getElem?_take, if_pos hp]; exact he)
        rw [List.length_take, Nat.min_eq_left (by omega)] at ih
        rw [pathR_left (by omega) hp, climbR_cons, if_neg (by omega), if_pos hp, ih, rootI_two (l := l) (by omega)]
      · have ih := climb_path m (l.drop (splitS l.length)) (pos - splitS l.length) e (by rw [List.length_drop]; omega) (by rw [List.getElem?_drop, show splitS l.length + (pos - splitS l.length) = pos by omega]; exact he)
        rw [List.length_drop] at ih
        rw [pathR_right (by omega) hp, climbR_cons, if_neg (by omega), if_neg hp, ih, rootI_two (l := l) (by omega)]

theorem pathR_u64 : ∀ (n : Nat) (l : List Entry) (pos : Nat), l.length ≤ n → u64s (pathR rootI l pos)
  | n, l, pos, hn => by
    by_cases h1 : l.length ≤ 1
    · rw [pathR_one h1]; intro x hx; cases hx
    · obtain ⟨m, rfl⟩ : ∃ m, n = m + 1 := ⟨n - 1, by omega⟩
      have hs := splitS_lt (n := l.length) (by omega)
      by_cases hp : pos < splitS l.length
      · rw [pathR_left (by omega) hp]
        intro x hx
        rcases List.mem_cons.1 hx with rfl | hx
        · exact root_range _
        · exact pathR_u64 m _ _ (by rw [List.length_take]; omega) x hx
      · rw [pathR_right (by omega) hp]
        intro x hx
        rcases List.mem_cons.1 hx with rfl | hx
        · exact root_range _
        · exact pathR_u64 m _ _ (by rw [List.length_drop]; omega) x hx

/-- without a collision a path proves what it says, and is the path -/
theorem climb_only {S : List (List UInt8)} (hS : NoColl S) {e : Entry} (heo : e.ok = true) : ∀ (r : List Int) (l : List Entry) (pos : Nat), pos < l.length → l.all Entry.ok = true → u64s r → (∀ s ∈ hashedS l, s ∈ S) → (∀ s ∈ upS (leafB e) l.length pos r, s ∈ S) →
    climbR (leafI e) l.length pos r = (rootI l, true) → l[pos]? = some e ∧ r = pathR rootI l pos
  | [], l, pos, hp, hl, _, h1, h2, h => by
    have hle : hashS (leafB e) = leafI e := leaf_eq e (by have := (ok_range heo).2.2; omega)
    simp only [climbR, Prod.mk.injEq, decide_eq_true_eq] at h
    obtain ⟨x, rfl⟩ := List.length_eq_one_iff.1 h.2
    obtain rfl : pos = 0 := by simp at hp; exact hp
    have hx : x.ok = true := by simpa using hl
    have hlx : hashS (leafB x) = leafI x := leaf_eq x (by have := (ok_range hx).2.2; omega)
    have ha : leafB x ∈ S := h1 _ (by rw [← topB_one x]; exact top_mem [x])
    have hb : leafB e ∈ S := h2 _ (by simp [upS])
    have := hS _ hb _ ha (by rw [hle, hlx]; exact h.1)
    obtain rfl := leafB_inj heo hx this
    exact ⟨rfl, by rw [pathR_one (by simp)]⟩
  | h :: r, l, pos, hp, hl, hu, h1, h2, hc => by
    have hle : hashS (leafB e) = leafI e := leaf_eq e (by have := (ok_range heo).2.2; omega)
    have hh : u64 h := hu h (by simp)
    have hu' : u64s r := fun x hx => hu x (by simp [hx])
    have hlr := leaf_range e
    rw [climbR_cons] at hc
    by_cases hm : l.length = 1
    · rw [if_pos hm] at hc
      exact absurd (congrArg Prod.snd hc) (by simp)
    · have hs := splitS_lt (n := l.length) (by omega)
      rw [if_neg hm] at hc
      have htop : topB l ∈ S := h1 _ (top_mem l)
      have hup : upT (leafB e) l.length pos (h :: r) ∈ S := h2 _ (up_mem _ _ _ _)
      rw [topB_two (by omega)] at htop
      rw [upT_cons, if_neg (by omega), hle] at hup
      rw [hashedS_two (by omega)] at h1
      have h2' : ∀ s ∈ (if pos < splitS l.length then upS (leafB e) (splitS l.length) pos r else upS (leafB e) (l.length - splitS l.length) (pos - splitS l.length) r), s ∈ S := by
        intro s hs'
        refine h2 s ?_
        simp only [upS]
        rw [if_neg (show ¬ l.length ≤ 1 by omega)]
        exact List.mem_append_left _ hs'
      have n1 := root_range (l.take (splitS l.length))
      have n2 := root_range (l.drop (splitS l.length))
      rw [rootI_two (l := l) (by omega)] at hc
      have hsm := all_small hl
      by_cases hlt : pos < splitS l.length
      · rw [if_pos hlt] at hc hup h2'
        have c1 : u64 (climbR (leafI e) (splitS l.length) pos r).1 := climbR_range hlr _ _ _
        simp only [Prod.mk.injEq] at hc
        have := hS _ hup _ htop (by rw [node_eq c1.1 c1.2 hh.1 hh.2, node_eq n1.1 n1.2 n2.1 n2.2]; exact hc.1)
        obtain ⟨e1, e2⟩ := nodeB_inj c1 hh n1 n2 this
        obtain ⟨k1, k2⟩ := climb_only hS heo r (l.take (splitS l.length)) pos (by rw [List.length_take]; omega) (all_take hl _) hu' (fun s hs' => h1 s (List.mem_append_left _ hs'))
          (by rw [List.length_take, Nat.min_eq_left (by omega)]; exact h2') (by rw [List.length_take, Nat.min_eq_left (by omega)]; exact Prod.ext e1 hc.2)
        rw [List.getElem?_take, if_pos hlt] at k1
        exact ⟨k1, by rw [pathR_left (by omega) hlt, ← k2, e2]⟩
      · rw [if_neg hlt] at hc hup h2'
        have c1 : u64 (climbR (leafI e) (l.length - splitS l.length) (pos - splitS l.length) r).1 := climbR_range hlr _ _ _
        simp only [Prod.mk.injEq] at hc
        have := hS _ hup _ htop (by rw [node_eq hh.1 hh.2 c1.1 c1.2, node_eq n1.1 n1.2 n2.1 n2.2]; exact hc.1)
        obtain ⟨e1, e2⟩ := nodeB_inj hh c1 n1 n2 this
        obtain ⟨k1, k2⟩ := climb_only hS heo r (l.drop (splitS l.length)) (pos - splitS l.length) (by rw [List.length_drop]; omega) (all_drop hl _) hu' (fun s hs' => h1 s (List.mem_append_right _ (List.mem_append_left _ hs')))
          (by rw [List.length_drop]; exact h2') (by rw [List.length_drop]; exact Prod.ext e2 hc.2)
        rw [List.getElem?_drop, show splitS l.length + (pos - splitS l.length) = pos by omega] at k1
        exact ⟨k1, by rw [pathR_right (by omega) hlt, ← k2, e1]⟩
end Go.Proofs.Ytamcncpgfhfheaa.Tidy

/-
  The law of what paths prove, run.
-/
namespace Go.Proofs.Ytamcncpgfhfheaa.Tidy
open Go Go.IntWalk
set_option maxRecDepth 10000
set_option linter.unusedSimpArgs false

theorem hashedS_small : ∀ (n : Nat) (l : List Entry), l.length ≤ n → small l → ∀ s ∈ hashedS l, s.length < 2 ^ 63
  | n, l, hn, hsm, s, hs => by
    by_cases h1 : l.length ≤ 1
    · rw [hashedS_one h1] at hs
      obtain rfl : s = topB l := by simpa using hs
      exact topB_length hsm
    · obtain ⟨m, rfl⟩ : ∃ m, n = m + 1 := ⟨n - 1, by omega⟩
      have hk := splitS_lt (n := l.length) (by omega)
      rw [hashedS_two (by omega)] at hs
      rcases List.mem_append.1 hs with hs | hs
      · exact hashedS_small m _ (by rw [List.length_take]; omega) (hsm.take _) s hs
      · rcases List.mem_append.1 hs with hs | hs
        · exact hashedS_small m _ (by rw [List.length_drop]; omega) (hsm.drop _) s hs
        · obtain rfl : s = topB l := by simpa using hs
          exact topB_length hsm

theorem upS_small {s0 : List UInt8} (h0 : s0.length < 2 ^ 63) : ∀ (r : List Int) (many pos : Nat), ∀ s ∈ upS s0 many pos r, s.length < 2 ^ 63
  | [], many, pos, s, hs => by
    obtain rfl : s = s0 := by simpa [upS] using hs
    exact h0
  | h :: r, many, pos, s, hs => by
    simp only [upS] at hs
    split at hs
    · obtain rfl : s = s0 := by simpa using hs
      exact h0
    · rcases List.mem_append.1 hs with hs | hs
      · split at hs
        · exact upS_small h0 r _ _ s hs
        · exact upS_small h0 r _ _ s hs
      · obtain rfl : s = upT s0 many pos (h :: r) := by simpa using hs
        exact upT_length s0 h0 _ _ _

/-- two lists of strings in a block, joined: both by value, or the second one a block -/
theorem join2_call (ca : Bool) (A B : List (List UInt8)) (hA : A ≠ []) (hl : A.length + B.length < 2 ^ 40) (b0 : Blk) {u : AVal} {us : Ups} (hu : VecB 1 1 u us (B.map .str)) (hB : B ≠ []) :
    ∃ c n, ∃ ws : Ups, n = (putU [b0] us).length ∧ (∀ nx, callT env 52 [.ref n 0 0 2 false] 0 (putU (putU [b0] us) [(n, .cells 0 1 false [.lit ca 1 (A.map .str), u])]) nx = some (.ret (.lit c 1 ((A ++ B).map .str)), .ups ws)) ∧
      ((us = [] ∧ ws = [(1, .dead)] ∧ n = 1) ∨ (∃ b, us = [(1, b)] ∧ ws = [(2, .dead), (1, .dead)] ∧ n = 2)) := by
  have hrun := concat_run false [⟨ca, 1, A⟩, ⟨true, 1, B⟩] (by intro p hp; simp only [List.mem_cons, List.not_mem_nil, or_false] at hp; rcases hp with rfl | rfl <;> exact .inr rfl) (by simp) (by have := List.length_pos_iff.2 hA; simp [total]; omega) (by simpa [total] using hl)
  have hrun2 := concat_run false [⟨ca, 1, A⟩, ⟨false, 1, B⟩] (by intro p hp; simp only [List.mem_cons, List.not_mem_nil, or_false] at hp; rcases hp with rfl | rfl <;> exact .inr rfl) (by simp) (by have := List.length_pos_iff.2 hA; simp [total]; omega) (by simpa [total] using hl)
  have hj : ∀ c1 c2 : Bool, joined [⟨c1, 1, A⟩, ⟨c2, 1, B⟩] = A ++ B := fun _ _ => by simp [joined]
  rw [hj] at hrun hrun2
  simp only [List.map_cons, List.map_nil, Strs.enc] at hrun hrun2
  have hne : (A ++ B).map AVal.str ≠ [] := by simp [hA]
  have hback : ∀ (nx : Nat) (ids : List Nat), ids ≠ [] → callBack (env.hint 52) 0 nx [] ids (.ret (.ref 0 0 0 (A ++ B).length false), [.cells 0 1 true ((A ++ B).map .str)]) = some (.ret (.lit false 1 ((A ++ B).map .str)), .ups (ids.map (·, .dead))) := by
    intro nx ids hids
    have h1 : ids.isEmpty = false := by cases ids <;> simp_all
    have h3 : ((A ++ B).map AVal.str).isEmpty = false := by
      cases h : (A ++ B).map AVal.str with
      | nil => exact absurd h hne
      | cons _ _ => rfl
    have h2 : handBack [.cells 0 1 true ((A ++ B).map .str)] 0 [] 4 (.ref 0 0 0 (A ++ B).length false) = some (.lit false 1 ((A ++ B).map .str)) := by
      have h1 : List.take (A ++ B).length ((A ++ B).map AVal.str) = (A ++ B).map AVal.str := List.take_of_length_le (by simp)
      simp only [handBack, Nat.not_lt_zero, decide_false, List.contains_nil, Bool.or_self, Bool.false_eq_true, if_false]
      simp only [toLit, noRef, AVal.under, Nat.not_lt_zero, decide_false, Bool.false_eq_true, if_false, List.getElem?_cons_zero, List.length_map, Nat.zero_add, Nat.le_refl, decide_true, List.contains_nil, Bool.not_false, Bool.and_true, if_true, List.drop_zero, h1, Nat.zero_le]
    simp only [callBack, hint52, keepOf, Bool.false_eq_true, if_false, List.filter_nil, uniq, getAll, List.length_nil, h2, h1, AVal.noLit, h3, Bool.false_and, Bool.or_false, Nat.zero_le, decide_true, List.all_eq_true, implies_true, if_true, AVal.ren, callUpd, List.map_nil, numbered]
    rfl
  rcases hu with ⟨s, rfl, rfl, hs⟩ | ⟨g, rfl, rfl, _⟩
  · obtain rfl : s = 1 := hs.resolve_left (by simpa using hB)
    refine ⟨false, 1, [(1, .dead)], rfl, fun nx => ?_, .inl ⟨rfl, rfl, rfl⟩⟩
    rw [call_lent1 (E := env) (f := 52) (u := .lit false 1 [.lit ca 1 (A.map .str), .lit true 1 (B.map .str)]) (ids := [1]) rfl rfl rfl ?_ rfl hrun]
    · exact hback nx [1] (by simp)
    · rfl
  · refine ⟨false, 2, [(2, .dead), (1, .dead)], rfl, fun nx => ?_, .inr ⟨_, rfl, rfl, rfl⟩⟩
    rw [call_lent1 (E := env) (f := 52) (u := .lit false 1 [.lit ca 1 (A.map .str), .lit false 1 (B.map .str)]) (ids := [2, 1]) rfl rfl rfl ?_ rfl hrun2]
    · exact hback nx [2, 1] (by simp)
    · have h1 : List.take (B.map AVal.str).length (B.map AVal.str) = B.map AVal.str := List.take_of_length_le (Nat.le_refl _)
      rw [List.length_map] at h1
      simp [putU, toLit, noRef, AVal.under, mapO, h1]

def entryEq (e x : Entry) : Bool := decide (e.office = x.office) && (decide (e.no = x.no) && (e.body == x.body))
theorem entryEq_iff (e x : Entry) : entryEq e x = true ↔ e = x := by
  unfold entryEq
  simp only [Bool.and_eq_true, decide_eq_true_eq, beq_iff_eq]
  constructor
  · rintro ⟨h1, h2, h3⟩; cases e; cases x; simp_all
  · rintro rfl; exact ⟨rfl, rfl, rfl⟩
@[go_sem] theorem bin_entry (e x : Entry) {t : TI} {fs : List (Nat × Nat)} {n m : Nat} {z : AVal} (ht : t = ⟨.struct fs, n, m, z⟩) : binOp env .eql 23 t e.enc x.enc = some (.bool (entryEq e x)) := by
  subst ht
  have h : env.keyOk 23 e.enc = true := rfl
  unfold Entry.enc at h ⊢
  simp only [binOp, eqOp, h, if_true, eqvL, eqv, Option.map_some, entryEq, Bool.and_true]
@[go_sem] theorem bin_entry1 (e x : Entry) {fs : List (Nat × Nat)} {n m : Nat} {z : AVal} : binOp env .eql 23 ⟨.struct fs, n, m, z⟩ e.enc x.enc = some (.bool (entryEq e x)) := bin_entry e x rfl

theorem chkPath_zero {root many pos : Int} {e : Entry} {p : List Int} (h : chkPathS root many pos e p = 0) : e.ok = true ∧ climbR (leafI e) many.toNat pos.toNat p.reverse = (root, true) := by
  unfold chkPathS at h
  split at h
  · rename_i ho
    split at h
    · cases h
    · split at h
      · rename_i hc
        simp only [Bool.and_eq_true, decide_eq_true_eq] at hc
        exact ⟨ho, Prod.ext hc.2 hc.1⟩
      · cases h
  · cases h

set_option maxHeartbeats 4000000 in
theorem proves_law (a0 a1 a2 a3 : List AVal) (h0 : FitT env 8 24 a0) (h1 : FitT env 8 3 a1) (h2 : FitT env 8 23 a2) (h3 : FitT env 8 35 a3) :
    ∃ H', runT env 8 [pack ⟨.slice 23, 1, 24, .lit true 0 []⟩ a0, pack ⟨.int .i64, 1, 8, .int .i64 (0)⟩ a1, pack ⟨.struct [(3, 0), (3, 1), (9, 2)], 3, 32, .agg [.int .i64 (0), .int .i64 (0), .str []]⟩ a2, pack ⟨.slice 25, 1, 24, .lit true 0 []⟩ a3] [] 0 = some (.ret (.bool true), H') := by
  obtain ⟨cl, l, rfl, hl⟩ := fit_entries h0
  obtain ⟨pos, rfl, _⟩ := fit_int ti3 h1
  obtain ⟨e, he, _⟩ := fit_entry h2
  obtain ⟨cp, p, rfl, hp, hu⟩ := fit_u64s h3
  rw [pack_entry he]
  have hlen : l.length < 2 ^ 63 := by unfold maxLen at hl; omega
  have hpl : p.length < 2 ^ 63 := by unfold maxLen at hp; omega
  show ∃ H', runT env 8 [.lit cl 3 (l.map Entry.enc), .int .i64 pos, e.enc, .lit cp 1 (p.map (.int .u64))] [] 0 = some (.ret (.bool true), H')
  rw [run_unfold fn8 rfl]
  cases h40 : decide (40 < (l.length : Int)) with
  | true =>
    simp only [go_sem, Nat.reduceAdd, Nat.reduceSub, Nat.reduceMul, Nat.reduceDiv, Nat.reduceMod, Nat.reducePow, Nat.reduceLeDiff, Nat.reduceLT, Nat.reduceEqDiff, Nat.reduceBEq, Nat.reduceBNe, Int.reduceAdd, Int.reduceSub, Int.reduceMul, Int.reducePow, Int.reduceLE, Int.reduceLT, Int.reduceEq, Int.reduceToNat, Int.reduceNeg, reduceCtorEq, Nat.add_zero, Nat.zero_add, beq_self_eq_true, Try.f8, h40, List.length_map, unwind, modeEx, resultsOf, one]
    exact ⟨_, rfl⟩
  | false =>
  cases hf : fewS l with
  | false =>
    simp only [go_sem, Nat.reduceAdd, Nat.reduceSub, Nat.reduceMul, Nat.reduceDiv, Nat.reduceMod, Nat.reducePow, Nat.reduceLeDiff, Nat.reduceLT, Nat.reduceEqDiff, Nat.reduceBEq, Nat.reduceBNe, Int.reduceAdd, Int.reduceSub, Int.reduceMul, Int.reducePow, Int.reduceLE, Int.reduceLT, Int.reduceEq, Int.reduceToNat, Int.reduceNeg, reduceCtorEq, Nat.add_zero, Nat.zero_add, beq_self_eq_true, Try.f8, few_call cl l hlen, h40, hf, List.length_map, unwind, modeEx, resultsOf, one]
    exact ⟨_, rfl⟩
  | true =>
  cases hk : decide (40 < (p.length : Int)) with
  | true =>
    simp only [go_sem, Nat.reduceAdd, Nat.reduceSub, Nat.reduceMul, Nat.reduceDiv, Nat.reduceMod, Nat.reducePow, Nat.reduceLeDiff, Nat.reduceLT, Nat.reduceEqDiff, Nat.reduceBEq, Nat.reduceBNe, Int.reduceAdd, Int.reduceSub, Int.reduceMul, Int.reducePow, Int.reduceLE, Int.reduceLT, Int.reduceEq, Int.reduceToNat, Int.reduceNeg, reduceCtorEq, Nat.add_zero, Nat.zero_add, beq_self_eq_true, Try.f8, few_call cl l hlen, h40, hf, hk, List.length_map, unwind, modeEx, resultsOf, one]
    exact ⟨_, rfl⟩
  | false =>
  cases hn : decide (pos < 0) with
  | true =>
    simp only [go_sem, Nat.reduceAdd, Nat.reduceSub, Nat.reduceMul, Nat.reduceDiv, Nat.reduceMod, Nat.reducePow, Nat.reduceLeDiff, Nat.reduceLT, Nat.reduceEqDiff, Nat.reduceBEq, Nat.reduceBNe, Int.reduceAdd, Int.reduceSub, Int.reduceMul, Int.reducePow, Int.reduceLE, Int.reduceLT, Int.reduceEq, Int.reduceToNat, Int.reduceNeg, reduceCtorEq, Nat.add_zero, Nat.zero_add, beq_self_eq_true, Try.f8, few_call cl l hlen, h40, hf, hk, hn, List.length_map, unwind, modeEx, resultsOf, one]
    exact ⟨_, rfl⟩
  | false =>
  cases hg : decide ((l.length : Int) ≤ pos) with
  | true =>
    simp only [go_sem, Nat.reduceAdd, Nat.reduceSub, Nat.reduceMul, Nat.reduceDiv, Nat.reduceMod, Nat.reducePow, Nat.reduceLeDiff, Nat.reduceLT, Nat.reduceEqDiff, Nat.reduceBEq, Nat.reduceBNe, Int.reduceAdd, Int.reduceSub, Int.reduceMul, Int.reducePow, Int.reduceLE, Int.reduceLT, Int.reduceEq, Int.reduceToNat, Int.reduceNeg, reduceCtorEq, Nat.add_zero, Nat.zero_add, beq_self_eq_true, Try.f8, few_call cl l hlen, h40, hf, hk, hn, hg, List.length_map, unwind, modeEx, resultsOf, one]
    exact ⟨_, rfl⟩
  | false =>
  have h40' : ¬ (40 < (l.length : Int)) := by simpa using h40
  have hk' : ¬ (40 < (p.length : Int)) := by simpa using hk
  have hn' : ¬ (pos < 0) := by simpa using hn
  have hg' : ¬ ((l.length : Int) ≤ pos) := by simpa using hg
  have c18 := rootT_call cl l hlen
  obtain ⟨c1, s1, hs1, c24⟩ := Path_call cl l pos hlen
  by_cases hc : chkS l = 0
  · have hcd : decide (chkS l = 0) = true := by simpa using hc
    obtain ⟨hl512, hall⟩ := chk_zero hc
    obtain ⟨q, rfl⟩ : ∃ q : Nat, pos = q := ⟨pos.toNat, by omega⟩
    have hq : q < l.length := by omega
    obtain ⟨x, hx, _⟩ := get_drop hq
    have hps : pathS l q = ((pathR rootI l q).reverse, 0) := by
      unfold pathS
      rw [if_pos hc, if_neg (by rintro (h | h) <;> contradiction), Int.toNat_natCast]
    rw [hps] at hs1 c24
    simp only at hs1 c24
    simp only [rootT, hc, if_true] at c18
    have hxo : x.ok = true := List.all_eq_true.1 hall x (List.mem_of_getElem? hx)
    have hpu := pathR_u64 _ l q (Nat.le_refl _)
    have hpl2 := pathR_length rootI _ l q (Nat.le_refl _)
    have hcl := climb_path _ l q x (Nat.le_refl _) hx
    have c27 : ∀ ro H nx, callT env 27 [.int .u64 (rootI l), .int .i64 l.length, .int .i64 q, x.enc, .lit c1 s1 ((pathR rootI l q).reverse.map (.int .u64))] ro H nx = some (.ret (.int .i64 0), .ups []) := by
      intro ro H nx
      rw [CheckPath_call (rootI l) l.length q x c1 s1 (pathR rootI l q).reverse (fun y hy => hpu y (by simpa using hy)) (by simp; omega) hs1]
      have d1 : decide ((l.length : Int) < 1) = false := by simp; omega
      have d2 : decide (512 < (l.length : Int)) = false := by simp; omega
      have d3 : decide ((q : Int) < 0) = false := by simp
      have d4 : decide ((l.length : Int) ≤ (q : Int)) = false := by simp; omega
      simp only [chkPathS, hxo, if_true, d1, d2, d3, d4, Bool.or_false, Bool.false_eq_true, if_false, List.reverse_reverse, Int.toNat_natCast, hcl, decide_true, Bool.and_true]
    have c27' := fun ro H nx => CheckPath_call (rootI l) l.length q e cp 1 p hu hpl (.inr rfl) ro H nx
    have g0 : (0 : Int) ≤ (q : Int) := by omega
    have gx : (l.map Entry.enc)[q]? = some x.enc := get_map hx
    by_cases hz : chkPathS (rootI l) l.length q e p = 0
    · have hzd : decide (chkPathS (rootI l) l.length q e p = 0) = true := by simpa using hz
      obtain ⟨heo, hce⟩ := chkPath_zero hz
      simp only [Int.toNat_natCast] at hce
      have c26 := fun ro H nx => equal_call c1 cp s1 1 (pathR rootI l q).reverse p hs1 (.inr rfl) (by simp; omega) ro H nx
      by_cases hsame : entryEq e x = true ∧ (pathR rootI l q).reverse = p
      · obtain ⟨hex, hpp⟩ := hsame
        subst hpp
        simp only [go_sem, Nat.reduceAdd, Nat.reduceSub, Nat.reduceMul, Nat.reduceDiv, Nat.reduceMod, Nat.reducePow, Nat.reduceLeDiff, Nat.reduceLT, Nat.reduceEqDiff, Nat.reduceBEq, Nat.reduceBNe, Int.reduceAdd, Int.reduceSub, Int.reduceMul, Int.reducePow, Int.reduceLE, Int.reduceLT, Int.reduceEq, Int.reduceToNat, Int.reduceNeg, reduceCtorEq, Nat.add_zero, Nat.zero_add, beq_self_eq_true, Try.f8, few_call cl l hlen, h40, hf, hk, hn, hg, List.length_map, c18, c24, c27, c27', Int.toNat_natCast, g0, gx, hzd, hex, c26, unwind, modeEx, resultsOf, one]
        exact ⟨_, rfl⟩
      · have hbody := (ok_range heo).2.2
        obtain ⟨ch, c53⟩ := hashed_call cl l hl512 (all_small hall)
        have c55 := leafBytes_call e (by omega)
        have hup := up_call (leafB e) (by rw [leafB_length]; omega) p.reverse (fun y hy => hu y (by simpa using hy)) (by simp; omega) l.length q cp 1 (by omega) hl512 hq (.inr rfl) 0 [.cells 0 3 true [e.enc]] 1
        rw [List.reverse_reverse] at hup
        obtain ⟨u, us, c54, huv⟩ := hup
        have hA : hashedS l ≠ [] := List.ne_nil_of_mem (top_mem l)
        have hB : upS (leafB e) l.length q p.reverse ≠ [] := List.ne_nil_of_mem (up_mem _ _ _ _)
        have lA := (hashedS_length _ l (Nat.le_refl _)).1
        have lB := upS_length (leafB e) p.reverse l.length q
        rw [List.length_reverse] at lB
        obtain ⟨c, n, ws, hnn, c52, hcases⟩ := join2_call ch (hashedS l) (upS (leafB e) l.length q p.reverse) hA (by omega) (.cells 0 3 true [e.enc]) huv hB
        obtain ⟨b, hb, c51⟩ := distinct_call c (hashedS l ++ upS (leafB e) l.length q p.reverse) (by rw [List.length_append]; omega) (by
          intro s hs
          rcases List.mem_append.1 hs with hs | hs
          · exact hashedS_small _ l (Nat.le_refl _) (all_small hall) s hs
          · exact upS_small (by rw [leafB_length]; omega) _ _ _ s hs)
        have hbf : b = false := by
          cases b with
          | false => rfl
          | true =>
            exfalso
            obtain ⟨k1, k2⟩ := climb_only (hb rfl) heo p.reverse l q hq hall (fun y hy => hu y (by simpa using hy)) (fun s hs => List.mem_append_left _ hs) (fun s hs => List.mem_append_right _ hs) hce
            rw [hx] at k1
            cases k1
            exact hsame ⟨(entryEq_iff _ _).2 rfl, by rw [← k2, List.reverse_reverse]⟩
        subst hbf
        have hsm : (entryEq e x && decide ((pathR rootI l q).reverse = p)) = false := by
          cases h1 : entryEq e x with
          | false => rfl
          | true => simp only [Bool.true_and, decide_eq_false_iff_not]; exact fun h => hsame ⟨h1, h⟩
        cases hex : entryEq e x with
        | false =>
          rcases huv with ⟨s, rfl, rfl, hs⟩ | ⟨g, rfl, rfl, _⟩
          · rcases hcases with ⟨_, rfl, rfl⟩ | ⟨b, hb', _⟩
            · have c52' : ∀ nx, callT env 52 [.ref 1 0 0 2 false] 0 [.cells 0 3 true [e.enc], .cells 0 1 false [.lit ch 1 ((hashedS l).map .str), .lit true s ((upS (leafB e) l.length q p.reverse).map .str)]] nx = some (.ret (.lit c 1 ((hashedS l ++ upS (leafB e) l.length q p.reverse).map .str)), .ups [(1, .dead)]) := c52
              have hlk : looks [.cells 0 3 true [e.enc], .cells 0 1 false [.lit ch 1 ((hashedS l).map .str), .lit true s ((upS (leafB e) l.length q p.reverse).map .str)]] fuel0 [1] [] = some [1] := rfl
              simp only [go_sem, Nat.reduceAdd, Nat.reduceSub, Nat.reduceMul, Nat.reduceDiv, Nat.reduceMod, Nat.reducePow, Nat.reduceLeDiff, Nat.reduceLT, Nat.reduceEqDiff, Nat.reduceBEq, Nat.reduceBNe, Int.reduceAdd, Int.reduceSub, Int.reduceMul, Int.reducePow, Int.reduceLE, Int.reduceLT, Int.reduceEq, Int.reduceToNat, Int.reduceNeg, reduceCtorEq, Nat.add_zero, Nat.zero_add, beq_self_eq_true, Try.f8, few_call cl l hlen, h40, hf, hk, hn, hg, List.length_map, c18, c24, c27, c27', Int.toNat_natCast, g0, gx, hzd, hex, c26, c53, c55, c54, c52', hlk, c51]
              rw [apart_ok]
              · simp only [go_sem, Nat.reduceAdd, Nat.reduceSub, Nat.reduceMul, Nat.reduceDiv, Nat.reduceMod, Nat.reducePow, Nat.reduceLeDiff, Nat.reduceLT, Nat.reduceEqDiff, Nat.reduceBEq, Nat.reduceBNe, Int.reduceAdd, Int.reduceSub, Int.reduceMul, Int.reducePow, Int.reduceLE, Int.reduceLT, Int.reduceEq, Int.reduceToNat, Int.reduceNeg, reduceCtorEq, Nat.add_zero, Nat.zero_add, beq_self_eq_true, unwind, modeEx, resultsOf, one]
                exact ⟨_, rfl⟩
              · kernel_rfl
            · cases hb'
          · rcases hcases with ⟨hb', _⟩ | ⟨b, hb', rfl, rfl⟩
            · cases hb'
            · cases hb'
              have c52' : ∀ nx, callT env 52 [.ref 2 0 0 2 false] 0 [.cells 0 3 true [e.enc], .cells g 1 true ((upS (leafB e) l.length q p.reverse).map .str), .cells 0 1 false [.lit ch 1 ((hashedS l).map .str), .ref 1 g 0 ((upS (leafB e) l.length q p.reverse).map AVal.str).length false]] nx = some (.ret (.lit c 1 ((hashedS l ++ upS (leafB e) l.length q p.reverse).map .str)), .ups [(2, .dead), (1, .dead)]) := c52
              have hlk : looks [.cells 0 3 true [e.enc], .cells g 1 true ((upS (leafB e) l.length q p.reverse).map .str), .cells 0 1 false [.lit ch 1 ((hashedS l).map .str), .ref 1 g 0 ((upS (leafB e) l.length q p.reverse).map AVal.str).length false]] fuel0 [2] [] = some [2, 1] := rfl
              simp only [List.length_map] at c52' hlk c54
              simp only [go_sem, Nat.reduceAdd, Nat.reduceSub, Nat.reduceMul, Nat.reduceDiv, Nat.reduceMod, Nat.reducePow, Nat.reduceLeDiff, Nat.reduceLT, Nat.reduceEqDiff, Nat.reduceBEq, Nat.reduceBNe, Int.reduceAdd, Int.reduceSub, Int.reduceMul, Int.reducePow, Int.reduceLE, Int.reduceLT, Int.reduceEq, Int.reduceToNat, Int.reduceNeg, reduceCtorEq, Nat.add_zero, Nat.zero_add, beq_self_eq_true, Try.f8, few_call cl l hlen, h40, hf, hk, hn, hg, List.length_map, c18, c24, c27, c27', Int.toNat_natCast, g0, gx, hzd, hex, c26, c53, c55, c54, c52', hlk, c51]
              rw [apart_ok]
              · simp only [go_sem, Nat.reduceAdd, Nat.reduceSub, Nat.reduceMul, Nat.reduceDiv, Nat.reduceMod, Nat.reducePow, Nat.reduceLeDiff, Nat.reduceLT, Nat.reduceEqDiff, Nat.reduceBEq, Nat.reduceBNe, Int.reduceAdd, Int.reduceSub, Int.reduceMul, Int.reducePow, Int.reduceLE, Int.reduceLT, Int.reduceEq, Int.reduceToNat, Int.reduceNeg, reduceCtorEq, Nat.add_zero, Nat.zero_add, beq_self_eq_true, unwind, modeEx, resultsOf, one]
                exact ⟨_, rfl⟩
              · kernel_rfl
        | true =>
          have hps : decide ((pathR rootI l q).reverse = p) = false := by rw [hex, Bool.true_and] at hsm; exact hsm
          rcases huv with ⟨s, rfl, rfl, hs⟩ | ⟨g, rfl, rfl, _⟩
          · rcases hcases with ⟨_, rfl, rfl⟩ | ⟨b, hb', _⟩
            · have c52' : ∀ nx, callT env 52 [.ref 1 0 0 2 false] 0 [.cells 0 3 true [e.enc], .cells 0 1 false [.lit ch 1 ((hashedS l).map .str), .lit true s ((upS (leafB e) l.length q p.reverse).map .str)]] nx = some (.ret (.lit c 1 ((hashedS l ++ upS (leafB e) l.length q p.reverse).map .str)), .ups [(1, .dead)]) := c52
              have hlk : looks [.cells 0 3 true [e.enc], .cells 0 1 false [.lit ch 1 ((hashedS l).map .str), .lit true s ((upS (leafB e) l.length q p.reverse).map .str)]] fuel0 [1] [] = some [1] := rfl
              simp only [go_sem, Nat.reduceAdd, Nat.reduceSub, Nat.reduceMul, Nat.reduceDiv, Nat.reduceMod, Nat.reducePow, Nat.reduceLeDiff, Nat.reduceLT, Nat.reduceEqDiff, Nat.reduceBEq, Nat.reduceBNe, Int.reduceAdd, Int.reduceSub, Int.reduceMul, Int.reducePow, Int.reduceLE, Int.reduceLT, Int.reduceEq, Int.reduceToNat, Int.reduceNeg, reduceCtorEq, Nat.add_zero, Nat.zero_add, beq_self_eq_true, Try.f8, few_call cl l hlen, h40, hf, hk, hn, hg, List.length_map, c18, c24, c27, c27', Int.toNat_natCast, g0, gx, hzd, hex, c26, hps, c53, c55, c54, c52', hlk, c51]
              rw [apart_ok]
              · simp only [go_sem, Nat.reduceAdd, Nat.reduceSub, Nat.reduceMul, Nat.reduceDiv, Nat.reduceMod, Nat.reducePow, Nat.reduceLeDiff, Nat.reduceLT, Nat.reduceEqDiff, Nat.reduceBEq, Nat.reduceBNe, Int.reduceAdd, Int.reduceSub, Int.reduceMul, Int.reducePow, Int.reduceLE, Int.reduceLT, Int.reduceEq, Int.reduceToNat, Int.reduceNeg, reduceCtorEq, Nat.add_zero, Nat.zero_add, beq_self_eq_true, unwind, modeEx, resultsOf, one]
                exact ⟨_, rfl⟩
              · kernel_rfl
            · cases hb'
          · rcases hcases with ⟨hb', _⟩ | ⟨b, hb', rfl, rfl⟩
            · cases hb'
            · cases hb'
              have c52' : ∀ nx, callT env 52 [.ref 2 0 0 2 false] 0 [.cells 0 3 true [e.enc], .cells g 1 true ((upS (leafB e) l.length q p.reverse).map .str), .cells 0 1 false [.lit ch 1 ((hashedS l).map .str), .ref 1 g 0 ((upS (leafB e) l.length q p.reverse).map AVal.str).length false]] nx = some (.ret (.lit c 1 ((hashedS l ++ upS (leafB e) l.length q p.reverse).map .str)), .ups [(2, .dead), (1, .dead)]) := c52
              have hlk : looks [.cells 0 3 true [e.enc], .cells g 1 true ((upS (leafB e) l.length q p.reverse).map .str), .cells 0 1 false [.lit ch 1 ((hashedS l).map .str), .ref 1 g 0 ((upS (leafB e) l.length q p.reverse).map AVal.str).length false]] fuel0 [2] [] = some [2, 1] := rfl
              simp only [List.length_map] at c52' hlk c54
              simp only [go_sem, Nat.reduceAdd, Nat.reduceSub, Nat.reduceMul, Nat.reduceDiv, Nat.reduceMod, Nat.reducePow, Nat.reduceLeDiff, Nat.reduceLT, Nat.reduceEqDiff, Nat.reduceBEq, Nat.reduceBNe, Int.reduceAdd, Int.reduceSub, Int.reduceMul, Int.reducePow, Int.reduceLE, Int.reduceLT, Int.reduceEq, Int.reduceToNat, Int.reduceNeg, reduceCtorEq, Nat.add_zero, Nat.zero_add, beq_self_eq_true, Try.f8, few_call cl l hlen, h40, hf, hk, hn, hg, List.length_map, c18, c24, c27, c27', Int.toNat_natCast, g0, gx, hzd, hex, c26, hps, c53, c55, c54, c52', hlk, c51]
              rw [apart_ok]
              · simp only [go_sem, Nat.reduceAdd, Nat.reduceSub, Nat.reduceMul, Nat.reduceDiv, Nat.reduceMod, Nat.reducePow, Nat.reduceLeDiff, Nat.reduceLT, Nat.reduceEqDiff, Nat.reduceBEq, Nat.reduceBNe, Int.reduceAdd, Int.reduceSub, Int.reduceMul, Int.reducePow, Int.reduceLE, Int.reduceLT, Int.reduceEq, Int.reduceToNat, Int.reduceNeg, reduceCtorEq, Nat.add_zero, Nat.zero_add, beq_self_eq_true, unwind, modeEx, resultsOf, one]
                exact ⟨_, rfl⟩
              · kernel_rfl
    · have hzd : decide (chkPathS (rootI l) l.length q e p = 0) = false := by simpa using hz
      simp only [go_sem, Nat.reduceAdd, Nat.reduceSub, Nat.reduceMul, Nat.reduceDiv, Nat.reduceMod, Nat.reducePow, Nat.reduceLeDiff, Nat.reduceLT, Nat.reduceEqDiff, Nat.reduceBEq, Nat.reduceBNe, Int.reduceAdd, Int.reduceSub, Int.reduceMul, Int.reducePow, Int.reduceLE, Int.reduceLT, Int.reduceEq, Int.reduceToNat, Int.reduceNeg, reduceCtorEq, Nat.add_zero, Nat.zero_add, beq_self_eq_true, Try.f8, few_call cl l hlen, h40, hf, hk, hn, hg, List.length_map, c18, c24, c27, c27', Int.toNat_natCast, g0, gx, hzd, unwind, modeEx, resultsOf, one]
      exact ⟨_, rfl⟩
  · have h90 : chkS l = 90 := by
      unfold chkS at hc ⊢
      rw [if_neg (by omega)] at hc ⊢
      split
      · rename_i h; rw [if_pos h] at hc; exact absurd rfl hc
      · rfl
    have hps : pathS l pos = ([], 90) := by unfold pathS; rw [if_neg hc, h90]
    rw [hps] at c24
    simp only [rootT, h90] at c18
    simp only [go_sem, Nat.reduceAdd, Nat.reduceSub, Nat.reduceMul, Nat.reduceDiv, Nat.reduceMod, Nat.reducePow, Nat.reduceLeDiff, Nat.reduceLT, Nat.reduceEqDiff, Nat.reduceBEq, Nat.reduceBNe, Int.reduceAdd, Int.reduceSub, Int.reduceMul, Int.reducePow, Int.reduceLE, Int.reduceLT, Int.reduceEq, Int.reduceToNat, Int.reduceNeg, reduceCtorEq, Nat.add_zero, Nat.zero_add, beq_self_eq_true, Try.f8, few_call cl l hlen, h40, hf, hk, hn, hg, List.length_map, c18, c24, unwind, modeEx, resultsOf, one]
    exact ⟨_, rfl⟩
end Go.Proofs.Ytamcncpgfhfheaa.Tidy
