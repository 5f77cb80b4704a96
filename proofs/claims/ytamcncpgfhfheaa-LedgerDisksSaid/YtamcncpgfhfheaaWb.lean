/-
  What the functions that LedgerDisks reaches compute; the law, run.
-/
import Derived.Test.YtamcncpgfhfheaaWa
set_option linter.all false
/-
  A disk of the reference in memory, and calls of its methods.
-/
namespace Go.Proofs.Ytamcncpgfhfheaa.Tidy
open Go Go.IntWalk
set_option maxRecDepth 10000
set_option linter.unusedSimpArgs false

def rwrV (w : Nat × Sec) : AVal := .agg [.int .i64 w.1, .str w.2]
def rdiskB (d : DiskS) (sv nv wv : AVal) : Blk := .cells 0 6 false [.agg [sv, nv, wv, .bool !d.down, .int .i64 d.armed, .int .i64 d.falls]]

/-- the disk at a block; F: the blocks that it reaches -/
def RDiskAt (H : Heap) (p : Nat) (d : DiskS) (F : List Nat) : Prop := ∃ a ga b gb wv,
  H[p]? = some (rdiskB d (.ref a ga 0 d.safe.length false) (.ref b gb 0 d.now.length false) wv) ∧ H[a]? = some (.cells ga 1 true (d.safe.map .str)) ∧ H[b]? = some (.cells gb 1 true (d.now.map .str)) ∧
  ((d.wr = [] ∧ wv = .lit true 0 [] ∧ F = [p, a, b]) ∨ (d.wr ≠ [] ∧ ∃ c gc, wv = .ref c gc 0 d.wr.length false ∧ H[c]? = some (.cells gc 2 true (d.wr.map rwrV)) ∧ F = [p, a, b, c])) ∧ F.Nodup

def rcanD (d : DiskS) (ga gb : Nat) : Heap := [rdiskB d (.ref 1 ga 0 d.safe.length false) (.ref 2 gb 0 d.now.length false) (.lit true 0 []), .cells ga 1 true (d.safe.map .str), .cells gb 1 true (d.now.map .str)]
def rcanW (d : DiskS) (ga gb gc : Nat) : Heap := [rdiskB d (.ref 1 ga 0 d.safe.length false) (.ref 2 gb 0 d.now.length false) (.ref 3 gc 0 d.wr.length false), .cells ga 1 true (d.safe.map .str), .cells gb 1 true (d.now.map .str), .cells gc 2 true (d.wr.map rwrV)]

/-- a disk alone in memory -/
def RIsCan (C : Heap) (d : DiskS) : Prop := (d.wr = [] ∧ ∃ ga gb, C = rcanD d ga gb) ∨ (d.wr ≠ [] ∧ ∃ ga gb gc, C = rcanW d ga gb gc)

theorem RDiskAt.lt {H : Heap} {p : Nat} {d : DiskS} {F : List Nat} (h : RDiskAt H p d F) : ∀ id ∈ F, id < H.length := by
  obtain ⟨a, ga, b, gb, wv, h1, h2, h3, h4, _⟩ := h
  have l : ∀ {i : Nat} {x : Blk}, H[i]? = some x → i < H.length := fun h => (List.getElem?_eq_some_iff.1 h).1
  rcases h4 with ⟨_, _, rfl⟩ | ⟨_, c, gc, _, h5, rfl⟩ <;> intro id hid <;> simp only [List.mem_cons, List.not_mem_nil, or_false] at hid
  · rcases hid with rfl | rfl | rfl
    · exact l h1
    · exact l h2
    · exact l h3
  · rcases hid with rfl | rfl | rfl | rfl
    · exact l h1
    · exact l h2
    · exact l h3
    · exact l h5

theorem RDiskAt.nodup {H : Heap} {p : Nat} {d : DiskS} {F : List Nat} (h : RDiskAt H p d F) : F.Nodup := by
  obtain ⟨_, _, _, _, _, _, _, _, _, h⟩ := h
  exact h

theorem RDiskAt.mem {H : Heap} {p : Nat} {d : DiskS} {F : List Nat} (h : RDiskAt H p d F) : p ∈ F := by
  obtain ⟨_, _, _, _, _, _, _, _, h4, _⟩ := h
  rcases h4 with ⟨_, _, rfl⟩ | ⟨_, _, _, _, _, rfl⟩ <;> simp

theorem RDiskAt.frame {H U : Heap} {p : Nat} {d : DiskS} {F : List Nat} (h : RDiskAt H p d F) (hs : ∀ id ∈ F, U[id]? = H[id]?) : RDiskAt U p d F := by
  obtain ⟨a, ga, b, gb, wv, h1, h2, h3, h4, h5⟩ := h
  rcases h4 with ⟨hw, hv, rfl⟩ | ⟨hw, c, gc, hv, hc, rfl⟩
  · exact ⟨a, ga, b, gb, wv, by rw [hs p (by simp)]; exact h1, by rw [hs a (by simp)]; exact h2, by rw [hs b (by simp)]; exact h3, .inl ⟨hw, hv, rfl⟩, h5⟩
  · exact ⟨a, ga, b, gb, wv, by rw [hs p (by simp)]; exact h1, by rw [hs a (by simp)]; exact h2, by rw [hs b (by simp)]; exact h3, .inr ⟨hw, c, gc, hv, by rw [hs c (by simp)]; exact hc, rfl⟩, h5⟩

theorem RDiskAt.reach {H : Heap} {p : Nat} {d : DiskS} {F : List Nat} (h : RDiskAt H p d F) : Tidy.reach H fuel0 [p] [] = some F := by
  obtain ⟨a, ga, b, gb, wv, h1, h2, h3, h4, h5⟩ := h
  unfold fuel0
  rcases h4 with ⟨hw, rfl, rfl⟩ | ⟨hw, c, gc, rfl, hc, rfl⟩
  · simp only [List.nodup_cons, List.mem_cons, List.not_mem_nil, or_false, not_or] at h5
    have e1 : (a == p) = false := by simpa using Ne.symm h5.1.1
    have e2 : (b == p) = false := by simpa using Ne.symm h5.1.2
    have e3 : (b == a) = false := by simpa using Ne.symm h5.2.1
    simp [Tidy.reach, h1, rdiskB, refsL, AVal.refs, h2, h3, e1, e2, e3, Ne.symm h5.1.1, Ne.symm h5.1.2, Ne.symm h5.2.1]
  · simp only [List.nodup_cons, List.mem_cons, List.not_mem_nil, or_false, not_or] at h5
    simp [Tidy.reach, h1, rdiskB, refsL, AVal.refs, h2, h3, hc, Ne.symm h5.1.1, Ne.symm h5.1.2.1, Ne.symm h5.1.2.2, Ne.symm h5.2.1.1, Ne.symm h5.2.1.2, Ne.symm h5.2.2.1]

theorem RDiskAt.looks {H : Heap} {p : Nat} {d : DiskS} {F : List Nat} (h : RDiskAt H p d F) : Tidy.looks H fuel0 [p] [] = some F := by
  obtain ⟨a, ga, b, gb, wv, h1, h2, h3, h4, h5⟩ := h
  unfold fuel0
  rcases h4 with ⟨hw, rfl, rfl⟩ | ⟨hw, c, gc, rfl, hc, rfl⟩
  · simp only [List.nodup_cons, List.mem_cons, List.not_mem_nil, or_false, not_or] at h5
    simp [Tidy.looks, h1, rdiskB, refsL, AVal.refs, h2, h3, Ne.symm h5.1.1, Ne.symm h5.1.2, Ne.symm h5.2.1]
  · simp only [List.nodup_cons, List.mem_cons, List.not_mem_nil, or_false, not_or] at h5
    simp [Tidy.looks, h1, rdiskB, refsL, AVal.refs, h2, h3, hc, Ne.symm h5.1.1, Ne.symm h5.1.2.1, Ne.symm h5.1.2.2, Ne.symm h5.2.1.1, Ne.symm h5.2.1.2, Ne.symm h5.2.2.1]

/-- the memory of a callee that is handed a disk alone -/
theorem RDiskAt.callee {H : Heap} {p : Nat} {d : DiskS} {F : List Nat} (h : RDiskAt H p d F) : ∃ bs, getAll H F = some bs ∧ RIsCan (bs.map (renB (idx F))) d ∧ (bs.map (renB (idx F))).length = F.length := by
  obtain ⟨a, ga, b, gb, wv, h1, h2, h3, h4, h5⟩ := h
  rcases h4 with ⟨hw, rfl, rfl⟩ | ⟨hw, c, gc, rfl, hc, rfl⟩
  · have i1 : idx [p, a, b] a = some 1 := idx_get h5 rfl
    have i2 : idx [p, a, b] b = some 2 := idx_get h5 rfl
    refine ⟨[rdiskB d (.ref a ga 0 d.safe.length false) (.ref b gb 0 d.now.length false) (.lit true 0 []), .cells ga 1 true (d.safe.map .str), .cells gb 1 true (d.now.map .str)], by simp only [getAll, h1, h2, h3], .inl ⟨hw, ga, gb, ?_⟩, rfl⟩
    simp only [List.map_cons, List.map_nil, rdiskB, renB, Bool.false_eq_true, if_false, if_true, renL, AVal.ren, i1, i2, rcanD]
  · have i1 : idx [p, a, b, c] a = some 1 := idx_get h5 rfl
    have i2 : idx [p, a, b, c] b = some 2 := idx_get h5 rfl
    have i3 : idx [p, a, b, c] c = some 3 := idx_get h5 rfl
    refine ⟨[rdiskB d (.ref a ga 0 d.safe.length false) (.ref b gb 0 d.now.length false) (.ref c gc 0 d.wr.length false), .cells ga 1 true (d.safe.map .str), .cells gb 1 true (d.now.map .str), .cells gc 2 true (d.wr.map rwrV)], by simp only [getAll, h1, h2, h3, hc], .inr ⟨hw, ga, gb, gc, ?_⟩, rfl⟩
    simp only [List.map_cons, List.map_nil, rdiskB, renB, Bool.false_eq_true, if_false, if_true, renL, AVal.ren, i1, i2, i3, rcanW]

theorem RIsCan.at {C : Heap} {d : DiskS} (h : RIsCan C d) : ∃ F, RDiskAt C 0 d F ∧ F.length = C.length := by
  rcases h with ⟨hw, ga, gb, rfl⟩ | ⟨hw, ga, gb, gc, rfl⟩
  · exact ⟨[0, 1, 2], ⟨1, ga, 2, gb, _, rfl, rfl, rfl, .inl ⟨hw, rfl, rfl⟩, by decide⟩, rfl⟩
  · exact ⟨[0, 1, 2, 3], ⟨1, ga, 2, gb, _, rfl, rfl, rfl, .inr ⟨hw, 3, gc, rfl, rfl, rfl⟩, by decide⟩, rfl⟩

/-- a disk as the callee leaves it, in the caller's memory -/
theorem RDiskAt.back {H H' : Heap} {fp : List Nat} {q : Nat} {d : DiskS} {F' : List Nat} (hn : fp.Nodup) (hlt : ∀ id ∈ fp, id < H.length) (hk : fp.length ≤ H'.length) (h : RDiskAt H' q d F') :
    RDiskAt (putU H (objUps H.length fp H')) (placeB H.length fp q) d (F'.map (placeB H.length fp)) := by
  obtain ⟨_, k1, _⟩ := obj_after hn hlt hk
  have hl := h.lt
  have hq := h.mem
  obtain ⟨a, ga, b, gb, wv, h1, h2, h3, h4, h5⟩ := h
  have bk : ∀ j, j < H'.length → backO H.length fp H'.length j = some (placeB H.length fp j) := fun j hj => by unfold backO; rw [if_pos hj]
  have hnd := nodup_place (nx := H.length) hn hlt h5
  have ka := k1 _ _ h2
  have kb := k1 _ _ h3
  have kp := k1 _ _ h1
  rcases h4 with ⟨hw, rfl, rfl⟩ | ⟨hw, c, gc, rfl, hc, rfl⟩
  · have la := bk a (hl a (by simp))
    have lb := bk b (hl b (by simp))
    refine ⟨placeB H.length fp a, ga, placeB H.length fp b, gb, .lit true 0 [], ?_, ka, kb, .inl ⟨hw, rfl, rfl⟩, hnd⟩
    rw [kp]
    simp only [rdiskB, renB, Bool.false_eq_true, if_false, renL, AVal.ren, la, lb]
  · have la := bk a (hl a (by simp))
    have lb := bk b (hl b (by simp))
    have lc := bk c (hl c (by simp))
    refine ⟨placeB H.length fp a, ga, placeB H.length fp b, gb, .ref (placeB H.length fp c) gc 0 d.wr.length false, ?_, ka, kb, .inr ⟨hw, placeB H.length fp c, gc, rfl, k1 _ _ hc, rfl⟩, hnd⟩
    rw [kp]
    simp only [rdiskB, renB, Bool.false_eq_true, if_false, renL, AVal.ren, la, lb, lc]

/-- what a method does, from what it does on a disk alone -/
theorem rdisk_obj {f : Nat} {args : List AVal} {v : AVal} {d d' : DiskS} (hw : (env.hint f).whole = false) (hka : (env.hint f).keepAll = true) (hr0 : (env.hint f).ro = false) (hl : (env.hint f).lits = []) (ha : underL 0 args = true) (hv : noRef v = true)
    (hrun : ∀ C, RIsCan C d → ∃ H' F', runT env f (.ptr 0 0 0 0 :: args) C 0 = some (.ret v, H') ∧ RDiskAt H' 0 d' F' ∧ C.length ≤ H'.length)
    {H : Heap} {p : Nat} {F : List Nat} (h : RDiskAt H p d F) : ∃ us F', callT env f (.ptr p 0 0 0 :: args) 0 H H.length = some (.ret v, .ups us) ∧ RDiskAt (putU H us) p d' F' ∧ Keeps H (putU H us) F F' ∧ consec H.length H.length us = true ∧ ∃ m, us.map (·.1) = F ++ List.range' H.length m := by
  obtain ⟨bs, hb, hcan, hlen⟩ := h.callee
  obtain ⟨H', F', hr, hd, hcl⟩ := hrun _ hcan
  have hn := h.nodup
  have hlt := h.lt
  rw [hlen] at hcl
  have hp0 : idx F p = some 0 := by
    obtain ⟨_, _, _, _, _, _, _, _, h4, _⟩ := h
    rcases h4 with ⟨_, _, rfl⟩ | ⟨_, _, _, _, _, rfl⟩ <;> exact idx_get hn rfl
  have hreach : reach H fuel0 (refsL (.ptr p 0 0 0 :: args)) [] = some F := by
    simp only [refsL, AVal.refs, refs_noRef.2 args ha, List.append_nil]
    exact h.reach
  have hargs : renL (idx F) (.ptr p 0 0 0 :: args) = .ptr 0 0 0 0 :: args := by
    simp only [renL, AVal.ren, hp0, (ren_noRef _).2 args ha]
  have hc := call_obj (E := env) (ro := 0) (nx := H.length) hw hka hr0 hl hreach hb (fun _ _ => Nat.zero_le _) (by rw [hargs]; exact hr) hcl hv
  obtain ⟨k0, _, k2⟩ := obj_after hn hlt hcl
  have hback := hd.back hn hlt hcl
  have hp : placeB H.length F 0 = p := by
    obtain ⟨_, _, _, _, _, _, _, _, h4, _⟩ := h
    rcases h4 with ⟨_, _, rfl⟩ | ⟨_, _, _, _, _, rfl⟩ <;> rfl
  rw [hp] at hback
  refine ⟨_, _, hc, hback, ⟨by rw [k0]; omega, k2, fun id hid => ?_⟩, obj_consec hlt, _, obj_writes hcl⟩
  obtain ⟨j, _, rfl⟩ := List.mem_map.1 hid
  exact place_mem j

/-- what a method that only looks tells -/
theorem rdisk_look {f : Nat} {args : List AVal} {v : AVal} {d : DiskS} (hw : (env.hint f).whole = false) (hka : (env.hint f).keepAll = false) (hk : (env.hint f).keep = []) (hr0 : (env.hint f).ro = true) (hl : (env.hint f).lits = []) (ha : underL 0 args = true) (hv : noRef v = true)
    (hrun : ∀ C, RIsCan C d → ∃ H', runT env f (.ptr 0 0 0 0 :: args) C C.length = some (.ret v, H'))
    {H : Heap} {p : Nat} {F : List Nat} (h : RDiskAt H p d F) (ro nx : Nat) : callT env f (.ptr p 0 0 0 :: args) ro H nx = some (.ret v, .ups []) := by
  obtain ⟨bs, hb, hcan, hlen⟩ := h.callee
  obtain ⟨H', hr⟩ := hrun _ hcan
  have hn := h.nodup
  rw [hlen] at hr
  have hp0 : idx F p = some 0 := by
    obtain ⟨_, _, _, _, _, _, _, _, h4, _⟩ := h
    rcases h4 with ⟨_, _, rfl⟩ | ⟨_, _, _, _, _, rfl⟩ <;> exact idx_get hn rfl
  have hreach : reach H fuel0 (refsL (.ptr p 0 0 0 :: args)) [] = some F := by
    simp only [refsL, AVal.refs, refs_noRef.2 args ha, List.append_nil]
    exact h.reach
  have hargs : renL (idx F) (.ptr p 0 0 0 :: args) = .ptr 0 0 0 0 :: args := by
    simp only [renL, AVal.ren, hp0, (ren_noRef _).2 args ha]
  exact call_look (E := env) hw hka hk hr0 hl hreach hb (by rw [hargs]; exact hr) hv
theorem rput_can {C H' : Heap} {d d' : DiskS} (h : RIsCan C d) (h' : RIsCan H' d') (hl : C.length ≤ H'.length) : putU C (objUps C.length (List.range C.length) H') = H' := by
  rcases h with ⟨hw, ga, gb, rfl⟩ | ⟨hw, ga, gb, gc, rfl⟩ <;> rcases h' with ⟨hw', ga', gb', rfl⟩ | ⟨hw', ga', gb', gc', rfl⟩
  · simp [objUps, rcanD, rdiskB, renB, renL, AVal.ren, backO, placeB, putU, numbered, List.range_succ]
  · simp [objUps, rcanD, rcanW, rdiskB, renB, renL, AVal.ren, backO, placeB, putU, numbered, List.range_succ]
  · simp [rcanD, rcanW] at hl
  · simp [objUps, rcanW, rdiskB, renB, renL, AVal.ren, backO, placeB, putU, numbered, List.range_succ]

theorem rcan_reach {C : Heap} {d : DiskS} (h : RIsCan C d) : RDiskAt C 0 d (List.range C.length) := by
  rcases h with ⟨hw, ga, gb, rfl⟩ | ⟨hw, ga, gb, gc, rfl⟩
  · exact ⟨1, ga, 2, gb, _, rfl, rfl, rfl, .inl ⟨hw, rfl, rfl⟩, List.nodup_range⟩
  · exact ⟨1, ga, 2, gb, _, rfl, rfl, rfl, .inr ⟨hw, 3, gc, rfl, rfl, rfl⟩, List.nodup_range⟩

theorem rcan_self {C : Heap} {d : DiskS} (h : RIsCan C d) : ∃ bs, getAll C (List.range C.length) = some bs ∧ bs.map (renB (idx (List.range C.length))) = C := by
  rcases h with ⟨hw, ga, gb, rfl⟩ | ⟨hw, ga, gb, gc, rfl⟩
  · exact ⟨rcanD d ga gb, rfl, rfl⟩
  · exact ⟨rcanW d ga gb gc, rfl, rfl⟩

/-- a method, on a disk alone -/
theorem rcan_obj {f : Nat} {args : List AVal} {v : AVal} {d d' : DiskS} (hw : (env.hint f).whole = false) (hka : (env.hint f).keepAll = true) (hr0 : (env.hint f).ro = false) (hl : (env.hint f).lits = []) (ha : underL 0 args = true) (hv : noRef v = true) {C : Heap} (h : RIsCan C d)
    (hrun : ∃ H', runT env f (.ptr 0 0 0 0 :: args) C 0 = some (.ret v, H') ∧ RIsCan H' d' ∧ C.length ≤ H'.length) :
    ∃ us H', callT env f (.ptr 0 0 0 0 :: args) 0 C C.length = some (.ret v, .ups us) ∧ putU C us = H' ∧ RIsCan H' d' ∧ C.length ≤ H'.length := by
  obtain ⟨H', hr, hd, hcl⟩ := hrun
  obtain ⟨bs, hb, hself⟩ := rcan_self h
  have hat := rcan_reach h
  have hpos : 0 < C.length := hat.lt 0 hat.mem
  have hp0 : idx (List.range C.length) 0 = some 0 := idx_get hat.nodup (by rw [List.getElem?_range hpos])
  have hreach : reach C fuel0 (refsL (.ptr 0 0 0 0 :: args)) [] = some (List.range C.length) := by
    simp only [refsL, AVal.refs, refs_noRef.2 args ha, List.append_nil]
    exact hat.reach
  have hargs : renL (idx (List.range C.length)) (.ptr 0 0 0 0 :: args) = .ptr 0 0 0 0 :: args := by
    simp only [renL, AVal.ren, hp0, (ren_noRef _).2 args ha]
  have hc := call_obj (E := env) (ro := 0) (nx := C.length) hw hka hr0 hl hreach hb (fun _ _ => Nat.zero_le _) (by rw [hargs, hself]; exact hr) (by simpa using hcl) hv
  exact ⟨_, H', hc, rput_can h hd hcl, hd, hcl⟩

theorem rcan_look {f : Nat} {args : List AVal} {v : AVal} {d : DiskS} (hw : (env.hint f).whole = false) (hka : (env.hint f).keepAll = false) (hk : (env.hint f).keep = []) (hr0 : (env.hint f).ro = true) (hl : (env.hint f).lits = []) (ha : underL 0 args = true) (hv : noRef v = true)
    (hrun : ∀ C, RIsCan C d → ∃ H', runT env f (.ptr 0 0 0 0 :: args) C C.length = some (.ret v, H')) {C : Heap} (h : RIsCan C d) (ro nx : Nat) : callT env f (.ptr 0 0 0 0 :: args) ro C nx = some (.ret v, .ups []) :=
  rdisk_look hw hka hk hr0 hl ha hv hrun (rcan_reach h) ro nx


theorem rcounts_can {C : Heap} {d : DiskS} (_hdn : d.down = false) (h : RIsCan C d) : ∃ H', runT env 100 [.ptr 0 0 0 0] C 0 = some (.ret (.bool (failsD d).2), H') ∧ RIsCan H' (failsD d).1 ∧ C.length ≤ H'.length := by
  rw [run_unfold fn100 rfl]
  unfold failsD
  cases h0 : decide (d.armed = 0) with
  | true =>
    rw [if_pos (by simpa using h0)]
    rcases h with ⟨hw, ga, gb, rfl⟩ | ⟨hw, ga, gb, gc, rfl⟩
    · simp only [go_sem, Nat.reduceAdd, Nat.reduceSub, Nat.reduceMul, Nat.reduceDiv, Nat.reduceMod, Nat.reducePow, Nat.reduceLeDiff, Nat.reduceLT, Nat.reduceEqDiff, Nat.reduceBEq, Nat.reduceBNe, Int.reduceAdd, Int.reduceSub, Int.reduceMul, Int.reducePow, Int.reduceLE, Int.reduceLT, Int.reduceEq, Int.reduceToNat, Int.reduceNeg, reduceCtorEq, Nat.add_zero, Nat.zero_add, beq_self_eq_true, Try.f100, rcanD, rdiskB, h0, unwind, modeEx, resultsOf, one]
      exact ⟨_, rfl, .inl ⟨hw, ga, gb, rfl⟩, Nat.le_refl _⟩
    · simp only [go_sem, Nat.reduceAdd, Nat.reduceSub, Nat.reduceMul, Nat.reduceDiv, Nat.reduceMod, Nat.reducePow, Nat.reduceLeDiff, Nat.reduceLT, Nat.reduceEqDiff, Nat.reduceBEq, Nat.reduceBNe, Int.reduceAdd, Int.reduceSub, Int.reduceMul, Int.reducePow, Int.reduceLE, Int.reduceLT, Int.reduceEq, Int.reduceToNat, Int.reduceNeg, reduceCtorEq, Nat.add_zero, Nat.zero_add, beq_self_eq_true, Try.f100, rcanW, rdiskB, h0, unwind, modeEx, resultsOf, one]
      exact ⟨_, rfl, .inr ⟨hw, ga, gb, gc, rfl⟩, Nat.le_refl _⟩
  | false =>
    rw [if_neg (by simpa using h0)]
    cases h1 : decide (0 < IntKind.i64.wrap (d.armed - 1)) with
    | true =>
      rw [if_pos (by simpa using h1)]
      rcases h with ⟨hw, ga, gb, rfl⟩ | ⟨hw, ga, gb, gc, rfl⟩
      · simp only [go_sem, Nat.reduceAdd, Nat.reduceSub, Nat.reduceMul, Nat.reduceDiv, Nat.reduceMod, Nat.reducePow, Nat.reduceLeDiff, Nat.reduceLT, Nat.reduceEqDiff, Nat.reduceBEq, Nat.reduceBNe, Int.reduceAdd, Int.reduceSub, Int.reduceMul, Int.reducePow, Int.reduceLE, Int.reduceLT, Int.reduceEq, Int.reduceToNat, Int.reduceNeg, reduceCtorEq, Nat.add_zero, Nat.zero_add, beq_self_eq_true, Try.f100, rcanD, rdiskB, h0, h1, unwind, modeEx, resultsOf, one]
        exact ⟨_, rfl, .inl ⟨hw, ga, gb, rfl⟩, Nat.le_refl _⟩
      · simp only [go_sem, Nat.reduceAdd, Nat.reduceSub, Nat.reduceMul, Nat.reduceDiv, Nat.reduceMod, Nat.reducePow, Nat.reduceLeDiff, Nat.reduceLT, Nat.reduceEqDiff, Nat.reduceBEq, Nat.reduceBNe, Int.reduceAdd, Int.reduceSub, Int.reduceMul, Int.reducePow, Int.reduceLE, Int.reduceLT, Int.reduceEq, Int.reduceToNat, Int.reduceNeg, reduceCtorEq, Nat.add_zero, Nat.zero_add, beq_self_eq_true, Try.f100, rcanW, rdiskB, h0, h1, unwind, modeEx, resultsOf, one]
        exact ⟨_, rfl, .inr ⟨hw, ga, gb, gc, rfl⟩, Nat.le_refl _⟩
    | false =>
      rw [if_neg (by simpa using h1)]
      rcases h with ⟨hw, ga, gb, rfl⟩ | ⟨hw, ga, gb, gc, rfl⟩
      · simp only [go_sem, Nat.reduceAdd, Nat.reduceSub, Nat.reduceMul, Nat.reduceDiv, Nat.reduceMod, Nat.reducePow, Nat.reduceLeDiff, Nat.reduceLT, Nat.reduceEqDiff, Nat.reduceBEq, Nat.reduceBNe, Int.reduceAdd, Int.reduceSub, Int.reduceMul, Int.reducePow, Int.reduceLE, Int.reduceLT, Int.reduceEq, Int.reduceToNat, Int.reduceNeg, reduceCtorEq, Nat.add_zero, Nat.zero_add, beq_self_eq_true, Try.f100, rcanD, rdiskB, h0, h1, unwind, modeEx, resultsOf, one]
        exact ⟨_, rfl, .inl ⟨hw, ga, gb, rfl⟩, Nat.le_refl _⟩
      · simp only [go_sem, Nat.reduceAdd, Nat.reduceSub, Nat.reduceMul, Nat.reduceDiv, Nat.reduceMod, Nat.reducePow, Nat.reduceLeDiff, Nat.reduceLT, Nat.reduceEqDiff, Nat.reduceBEq, Nat.reduceBNe, Int.reduceAdd, Int.reduceSub, Int.reduceMul, Int.reducePow, Int.reduceLE, Int.reduceLT, Int.reduceEq, Int.reduceToNat, Int.reduceNeg, reduceCtorEq, Nat.add_zero, Nat.zero_add, beq_self_eq_true, Try.f100, rcanW, rdiskB, h0, h1, unwind, modeEx, resultsOf, one]
        exact ⟨_, rfl, .inr ⟨hw, ga, gb, gc, rfl⟩, Nat.le_refl _⟩

theorem rarm_can {C : Heap} {d : DiskS} (h : RIsCan C d) (n : Int) : ∃ H', runT env 43 [.ptr 0 0 0 0, .int .i64 n] C 0 = some (.ret (.tuple []), H') ∧ RIsCan H' { d with armed := if n < 0 then 0 else n } ∧ C.length ≤ H'.length := by
  rw [run_unfold fn43 rfl]
  by_cases hn : n < 0
  · rcases h with ⟨hw, ga, gb, rfl⟩ | ⟨hw, ga, gb, gc, rfl⟩
    · simp only [go_sem, Nat.reduceAdd, Nat.reduceSub, Nat.reduceMul, Nat.reduceDiv, Nat.reduceMod, Nat.reducePow, Nat.reduceLeDiff, Nat.reduceLT, Nat.reduceEqDiff, Nat.reduceBEq, Nat.reduceBNe, Int.reduceAdd, Int.reduceSub, Int.reduceMul, Int.reducePow, Int.reduceLE, Int.reduceLT, Int.reduceEq, Int.reduceToNat, Int.reduceNeg, reduceCtorEq, Nat.add_zero, Nat.zero_add, beq_self_eq_true, Try.f43, rcanD, rdiskB, maxL, gt_iff_lt, show (0 : Int) > n from hn, hn, unwind, modeEx, resultsOf, one]
      exact ⟨_, rfl, .inl ⟨hw, ga, gb, rfl⟩, Nat.le_refl _⟩
    · simp only [go_sem, Nat.reduceAdd, Nat.reduceSub, Nat.reduceMul, Nat.reduceDiv, Nat.reduceMod, Nat.reducePow, Nat.reduceLeDiff, Nat.reduceLT, Nat.reduceEqDiff, Nat.reduceBEq, Nat.reduceBNe, Int.reduceAdd, Int.reduceSub, Int.reduceMul, Int.reducePow, Int.reduceLE, Int.reduceLT, Int.reduceEq, Int.reduceToNat, Int.reduceNeg, reduceCtorEq, Nat.add_zero, Nat.zero_add, beq_self_eq_true, Try.f43, rcanW, rdiskB, maxL, gt_iff_lt, show (0 : Int) > n from hn, hn, unwind, modeEx, resultsOf, one]
      exact ⟨_, rfl, .inr ⟨hw, ga, gb, gc, rfl⟩, Nat.le_refl _⟩
  · rcases h with ⟨hw, ga, gb, rfl⟩ | ⟨hw, ga, gb, gc, rfl⟩
    · simp only [go_sem, Nat.reduceAdd, Nat.reduceSub, Nat.reduceMul, Nat.reduceDiv, Nat.reduceMod, Nat.reducePow, Nat.reduceLeDiff, Nat.reduceLT, Nat.reduceEqDiff, Nat.reduceBEq, Nat.reduceBNe, Int.reduceAdd, Int.reduceSub, Int.reduceMul, Int.reducePow, Int.reduceLE, Int.reduceLT, Int.reduceEq, Int.reduceToNat, Int.reduceNeg, reduceCtorEq, Nat.add_zero, Nat.zero_add, beq_self_eq_true, Try.f43, rcanD, rdiskB, maxL, gt_iff_lt, hn, unwind, modeEx, resultsOf, one]
      exact ⟨_, rfl, .inl ⟨hw, ga, gb, rfl⟩, Nat.le_refl _⟩
    · simp only [go_sem, Nat.reduceAdd, Nat.reduceSub, Nat.reduceMul, Nat.reduceDiv, Nat.reduceMod, Nat.reducePow, Nat.reduceLeDiff, Nat.reduceLT, Nat.reduceEqDiff, Nat.reduceBEq, Nat.reduceBNe, Int.reduceAdd, Int.reduceSub, Int.reduceMul, Int.reducePow, Int.reduceLE, Int.reduceLT, Int.reduceEq, Int.reduceToNat, Int.reduceNeg, reduceCtorEq, Nat.add_zero, Nat.zero_add, beq_self_eq_true, Try.f43, rcanW, rdiskB, maxL, gt_iff_lt, hn, unwind, modeEx, resultsOf, one]
      exact ⟨_, rfl, .inr ⟨hw, ga, gb, gc, rfl⟩, Nat.le_refl _⟩

theorem rup_can (d : DiskS) : ∀ C, RIsCan C d → ∃ H', runT env 47 [.ptr 0 0 0 0] C C.length = some (.ret (.bool !d.down), H') := by
  intro C h
  rw [run_unfold fn47 rfl]
  rcases h with ⟨hw, ga, gb, rfl⟩ | ⟨hw, ga, gb, gc, rfl⟩
  · simp only [go_sem, Nat.reduceAdd, Nat.reduceSub, Nat.reduceMul, Nat.reduceDiv, Nat.reduceMod, Nat.reducePow, Nat.reduceLeDiff, Nat.reduceLT, Nat.reduceEqDiff, Nat.reduceBEq, Nat.reduceBNe, Int.reduceAdd, Int.reduceSub, Int.reduceMul, Int.reducePow, Int.reduceLE, Int.reduceLT, Int.reduceEq, Int.reduceToNat, Int.reduceNeg, reduceCtorEq, Nat.add_zero, Nat.zero_add, beq_self_eq_true, Try.f47, rcanD, rdiskB, unwind, modeEx, resultsOf, one]
    exact ⟨_, rfl⟩
  · simp only [go_sem, Nat.reduceAdd, Nat.reduceSub, Nat.reduceMul, Nat.reduceDiv, Nat.reduceMod, Nat.reducePow, Nat.reduceLeDiff, Nat.reduceLT, Nat.reduceEqDiff, Nat.reduceBEq, Nat.reduceBNe, Int.reduceAdd, Int.reduceSub, Int.reduceMul, Int.reducePow, Int.reduceLE, Int.reduceLT, Int.reduceEq, Int.reduceToNat, Int.reduceNeg, reduceCtorEq, Nat.add_zero, Nat.zero_add, beq_self_eq_true, Try.f47, rcanW, rdiskB, unwind, modeEx, resultsOf, one]
    exact ⟨_, rfl⟩

theorem rsectors_can (d : DiskS) : ∀ C, RIsCan C d → ∃ H', runT env 49 [.ptr 0 0 0 0] C C.length = some (.ret (.int .i64 d.safe.length), H') := by
  intro C h
  rw [run_unfold fn49 rfl]
  rcases h with ⟨hw, ga, gb, rfl⟩ | ⟨hw, ga, gb, gc, rfl⟩
  · simp only [go_sem, Nat.reduceAdd, Nat.reduceSub, Nat.reduceMul, Nat.reduceDiv, Nat.reduceMod, Nat.reducePow, Nat.reduceLeDiff, Nat.reduceLT, Nat.reduceEqDiff, Nat.reduceBEq, Nat.reduceBNe, Int.reduceAdd, Int.reduceSub, Int.reduceMul, Int.reducePow, Int.reduceLE, Int.reduceLT, Int.reduceEq, Int.reduceToNat, Int.reduceNeg, reduceCtorEq, Nat.add_zero, Nat.zero_add, beq_self_eq_true, Try.f49, rcanD, rdiskB, unwind, modeEx, resultsOf, one]
    exact ⟨_, rfl⟩
  · simp only [go_sem, Nat.reduceAdd, Nat.reduceSub, Nat.reduceMul, Nat.reduceDiv, Nat.reduceMod, Nat.reducePow, Nat.reduceLeDiff, Nat.reduceLT, Nat.reduceEqDiff, Nat.reduceBEq, Nat.reduceBNe, Int.reduceAdd, Int.reduceSub, Int.reduceMul, Int.reducePow, Int.reduceLE, Int.reduceLT, Int.reduceEq, Int.reduceToNat, Int.reduceNeg, reduceCtorEq, Nat.add_zero, Nat.zero_add, beq_self_eq_true, Try.f49, rcanW, rdiskB, unwind, modeEx, resultsOf, one]
    exact ⟨_, rfl⟩

theorem rread_can (d : DiskS) (pos : Int) : ∀ C, RIsCan C d → ∃ H', runT env 41 [.ptr 0 0 0 0, .int .i64 pos] C C.length = some (.ret (.tuple [.str (readD d pos).1, .int .i64 (readD d pos).2]), H') := by
  intro C h
  rw [run_unfold fn41 rfl]
  cases hdn : d.down with
  | true =>
    have hr : readD d pos = ([], 91) := by simp [readD, checkD, hdn]
    rw [hr]
    rcases h with ⟨hw, ga, gb, rfl⟩ | ⟨hw, ga, gb, gc, rfl⟩
    · simp only [go_sem, Nat.reduceAdd, Nat.reduceSub, Nat.reduceMul, Nat.reduceDiv, Nat.reduceMod, Nat.reducePow, Nat.reduceLeDiff, Nat.reduceLT, Nat.reduceEqDiff, Nat.reduceBEq, Nat.reduceBNe, Int.reduceAdd, Int.reduceSub, Int.reduceMul, Int.reducePow, Int.reduceLE, Int.reduceLT, Int.reduceEq, Int.reduceToNat, Int.reduceNeg, reduceCtorEq, Nat.add_zero, Nat.zero_add, beq_self_eq_true, Try.f41, rcanD, rdiskB, hdn, unwind, modeEx, resultsOf, one]
      exact ⟨_, rfl⟩
    · simp only [go_sem, Nat.reduceAdd, Nat.reduceSub, Nat.reduceMul, Nat.reduceDiv, Nat.reduceMod, Nat.reducePow, Nat.reduceLeDiff, Nat.reduceLT, Nat.reduceEqDiff, Nat.reduceBEq, Nat.reduceBNe, Int.reduceAdd, Int.reduceSub, Int.reduceMul, Int.reducePow, Int.reduceLE, Int.reduceLT, Int.reduceEq, Int.reduceToNat, Int.reduceNeg, reduceCtorEq, Nat.add_zero, Nat.zero_add, beq_self_eq_true, Try.f41, rcanW, rdiskB, hdn, unwind, modeEx, resultsOf, one]
      exact ⟨_, rfl⟩
  | false =>
    cases h1 : decide (pos < 0) with
    | true =>
      have hr : readD d pos = ([], 1) := by
        have : pos < 0 := by simpa using h1
        simp [readD, checkD, hdn, this]
      rw [hr]
      rcases h with ⟨hw, ga, gb, rfl⟩ | ⟨hw, ga, gb, gc, rfl⟩
      · simp only [go_sem, Nat.reduceAdd, Nat.reduceSub, Nat.reduceMul, Nat.reduceDiv, Nat.reduceMod, Nat.reducePow, Nat.reduceLeDiff, Nat.reduceLT, Nat.reduceEqDiff, Nat.reduceBEq, Nat.reduceBNe, Int.reduceAdd, Int.reduceSub, Int.reduceMul, Int.reducePow, Int.reduceLE, Int.reduceLT, Int.reduceEq, Int.reduceToNat, Int.reduceNeg, reduceCtorEq, Nat.add_zero, Nat.zero_add, beq_self_eq_true, Try.f41, rcanD, rdiskB, hdn, h1, unwind, modeEx, resultsOf, one]
        exact ⟨_, rfl⟩
      · simp only [go_sem, Nat.reduceAdd, Nat.reduceSub, Nat.reduceMul, Nat.reduceDiv, Nat.reduceMod, Nat.reducePow, Nat.reduceLeDiff, Nat.reduceLT, Nat.reduceEqDiff, Nat.reduceBEq, Nat.reduceBNe, Int.reduceAdd, Int.reduceSub, Int.reduceMul, Int.reducePow, Int.reduceLE, Int.reduceLT, Int.reduceEq, Int.reduceToNat, Int.reduceNeg, reduceCtorEq, Nat.add_zero, Nat.zero_add, beq_self_eq_true, Try.f41, rcanW, rdiskB, hdn, h1, unwind, modeEx, resultsOf, one]
        exact ⟨_, rfl⟩
    | false =>
      cases h2 : decide ((d.now.length : Int) ≤ pos) with
      | true =>
        have hr : readD d pos = ([], 1) := by
          have : (d.now.length : Int) ≤ pos := by simpa using h2
          simp [readD, checkD, hdn, this]
        rw [hr]
        rcases h with ⟨hw, ga, gb, rfl⟩ | ⟨hw, ga, gb, gc, rfl⟩
        · simp only [go_sem, Nat.reduceAdd, Nat.reduceSub, Nat.reduceMul, Nat.reduceDiv, Nat.reduceMod, Nat.reducePow, Nat.reduceLeDiff, Nat.reduceLT, Nat.reduceEqDiff, Nat.reduceBEq, Nat.reduceBNe, Int.reduceAdd, Int.reduceSub, Int.reduceMul, Int.reducePow, Int.reduceLE, Int.reduceLT, Int.reduceEq, Int.reduceToNat, Int.reduceNeg, reduceCtorEq, Nat.add_zero, Nat.zero_add, beq_self_eq_true, Try.f41, rcanD, rdiskB, hdn, h1, h2, unwind, modeEx, resultsOf, one]
          exact ⟨_, rfl⟩
        · simp only [go_sem, Nat.reduceAdd, Nat.reduceSub, Nat.reduceMul, Nat.reduceDiv, Nat.reduceMod, Nat.reducePow, Nat.reduceLeDiff, Nat.reduceLT, Nat.reduceEqDiff, Nat.reduceBEq, Nat.reduceBNe, Int.reduceAdd, Int.reduceSub, Int.reduceMul, Int.reducePow, Int.reduceLE, Int.reduceLT, Int.reduceEq, Int.reduceToNat, Int.reduceNeg, reduceCtorEq, Nat.add_zero, Nat.zero_add, beq_self_eq_true, Try.f41, rcanW, rdiskB, hdn, h1, h2, unwind, modeEx, resultsOf, one]
          exact ⟨_, rfl⟩
      | false =>
        simp only [decide_eq_false_iff_not] at h1 h2
        obtain ⟨q, rfl⟩ : ∃ q : Nat, pos = q := ⟨pos.toNat, by omega⟩
        have b1 : decide ((q : Int) < 0) = false := by simp
        have b2 : decide ((d.now.length : Int) ≤ (q : Int)) = false := by simpa using h2
        have dl : decide ((q : Int) < (d.now.length : Int)) = true := by simp only [decide_eq_true_eq]; omega
        have g0 : (0 : Int) ≤ (q : Int) := by omega
        obtain ⟨s, hs, _⟩ := get_drop (show q < d.now.length by omega)
        have hgd : d.now.getD q [] = s := by rw [List.getD_eq_getElem?_getD, hs]; rfl
        have hr : readD d q = (s, 0) := by
          have hc : checkD d q = 0 := by
            unfold checkD
            rw [hdn, if_neg (by simp), if_neg (by omega)]
          unfold readD
          rw [if_pos hc, Int.toNat_natCast, hgd]
        rw [hr]
        have hgm : (d.now.map AVal.str)[q]? = some (.str s) := get_map hs
        rcases h with ⟨hw, ga, gb, rfl⟩ | ⟨hw, ga, gb, gc, rfl⟩
        · simp only [go_sem, Nat.reduceAdd, Nat.reduceSub, Nat.reduceMul, Nat.reduceDiv, Nat.reduceMod, Nat.reducePow, Nat.reduceLeDiff, Nat.reduceLT, Nat.reduceEqDiff, Nat.reduceBEq, Nat.reduceBNe, Int.reduceAdd, Int.reduceSub, Int.reduceMul, Int.reducePow, Int.reduceLE, Int.reduceLT, Int.reduceEq, Int.reduceToNat, Int.reduceNeg, reduceCtorEq, Nat.add_zero, Nat.zero_add, beq_self_eq_true, Try.f41, rcanD, rdiskB, hdn, b1, b2, dl, g0, Int.toNat_natCast, hgm, unwind, modeEx, resultsOf, one]
          exact ⟨_, rfl⟩
        · simp only [go_sem, Nat.reduceAdd, Nat.reduceSub, Nat.reduceMul, Nat.reduceDiv, Nat.reduceMod, Nat.reducePow, Nat.reduceLeDiff, Nat.reduceLT, Nat.reduceEqDiff, Nat.reduceBEq, Nat.reduceBNe, Int.reduceAdd, Int.reduceSub, Int.reduceMul, Int.reducePow, Int.reduceLE, Int.reduceLT, Int.reduceEq, Int.reduceToNat, Int.reduceNeg, reduceCtorEq, Nat.add_zero, Nat.zero_add, beq_self_eq_true, Try.f41, rcanW, rdiskB, hdn, b1, b2, dl, g0, Int.toNat_natCast, hgm, unwind, modeEx, resultsOf, one]
          exact ⟨_, rfl⟩
end Go.Proofs.Ytamcncpgfhfheaa.Tidy

/-
  A disk of the reference: written, made safe.
-/
namespace Go.Proofs.Ytamcncpgfhfheaa.Tidy
open Go Go.IntWalk
set_option maxRecDepth 10000
set_option linter.unusedSimpArgs false

theorem build140 (n : Nat) (s : Sec) {ti : TI} (ht : env.ti 140 = some ti) : build env ti [(0, .int .i64 n), (1, .str s)] = some (rwrV (n, s)) := by
  rw [ti140] at ht
  cases ht
  simp [build, ti3, ti9, fill, places, AVal.cellsOf, AVal.isTuple, putList, rwrV]

@[go_sem] theorem under_rwr (w : Nat × Sec) (m : Nat) : (rwrV w).under m = true := rfl
@[go_sem] theorem cellsOf_rwr (w : Nat × Sec) : (rwrV w).cellsOf = [.int .i64 w.1, .str w.2] := rfl
@[go_sem] theorem isTuple_rwr (w : Nat × Sec) : (rwrV w).isTuple = false := rfl
theorem noRef_rwr (w : Nat × Sec) : noRef (rwrV w) = true := rfl

theorem append130 {gc nx : Nat} {wr : List (Nat × Sec)} {w : Nat × Sec} {H : Heap} {id : Nat} (hne : wr ≠ []) (hl : wr.length ≤ 100000) (hH : H[id]? = some (.cells gc 2 true (wr.map rwrV))) :
    appendOp env 0 nx 130 (.ref id gc 0 wr.length false) (.lit true 2 [rwrV w]) H = some (.ref id (gc + 1) 0 (wr.length + 1) false, [(id, .cells (gc + 1) 2 true ((wr ++ [w]).map rwrV))]) := by
  have hb : (wr.length + 1) * (24 + 1) ≤ maxBytes := by unfold maxBytes; omega
  have := append_ref (E := env) (ro := 0) (nx := nx) (H := H) (id := id) (g := gc) (fl := true) (x := .lit true 2 [rwrV w]) (bs := wr.map rwrV) (len := wr.length) (new := [rwrV w]) ti130 ti140 rfl ⟨by decide, rfl, rfl⟩ rfl (by simp) hH (by simp) (List.length_pos_iff.2 hne) (Nat.zero_le _) (by simpa using hb) (fun _ => by simp [noRef_rwr])
  simpa using this

theorem append130n {nx : Nat} {w : Nat × Sec} {H : Heap} : appendOp env 0 nx 130 (.lit true 0 []) (.lit true 2 [rwrV w]) H = some (.ref nx 0 0 1 false, [(nx, .cells 0 2 true [rwrV w])]) := by
  have := append_lit (E := env) (ro := 0) (nx := nx) (H := H) (x := .lit true 2 [rwrV w]) (sz := 0) (es := []) (new := [rwrV w]) ti130 ti140 rfl ⟨by decide, rfl, rfl⟩ rfl (by simp) (.inl rfl) (by simp [maxBytes]) (fun _ => by simp [noRef_rwr])
  simpa [newBlk, show flatTy env 8 140 = true from rfl] using this

set_option maxHeartbeats 1000000 in
theorem rwrite_can (d : DiskS) (hwl : d.wr.length ≤ 100000) (pos : Int) (s : Sec) {C : Heap} (h : RIsCan C d) : ∃ H', runT env 37 [.ptr 0 0 0 0, .int .i64 pos, .str s] C 0 = some (.ret (.int .i64 (writeD d pos s).2), H') ∧ RIsCan H' (writeD d pos s).1 ∧ C.length ≤ H'.length := by
  rw [run_unfold fn37 rfl]
  cases hdn : d.down with
  | true =>
    have hr : writeD d pos s = (d, 91) := by simp [writeD, checkD, hdn]
    rw [hr]
    rcases h with ⟨hw, ga, gb, rfl⟩ | ⟨hw, ga, gb, gc, rfl⟩
    · have hC : RIsCan (rcanD d ga gb) d := .inl ⟨hw, ga, gb, rfl⟩
      simp only [rcanD, rdiskB, hdn] at hC
      simp only [go_sem, Nat.reduceAdd, Nat.reduceSub, Nat.reduceMul, Nat.reduceDiv, Nat.reduceMod, Nat.reducePow, Nat.reduceLeDiff, Nat.reduceLT, Nat.reduceEqDiff, Nat.reduceBEq, Nat.reduceBNe, Int.reduceAdd, Int.reduceSub, Int.reduceMul, Int.reducePow, Int.reduceLE, Int.reduceLT, Int.reduceEq, Int.reduceToNat, Int.reduceNeg, reduceCtorEq, Nat.add_zero, Nat.zero_add, beq_self_eq_true, Try.f37, rcanD, rdiskB, hdn, unwind, modeEx, resultsOf, one] at hC ⊢
      exact ⟨_, rfl, hC, Nat.le_refl _⟩
    · have hC : RIsCan (rcanW d ga gb gc) d := .inr ⟨hw, ga, gb, gc, rfl⟩
      simp only [rcanW, rdiskB, hdn] at hC
      simp only [go_sem, Nat.reduceAdd, Nat.reduceSub, Nat.reduceMul, Nat.reduceDiv, Nat.reduceMod, Nat.reducePow, Nat.reduceLeDiff, Nat.reduceLT, Nat.reduceEqDiff, Nat.reduceBEq, Nat.reduceBNe, Int.reduceAdd, Int.reduceSub, Int.reduceMul, Int.reducePow, Int.reduceLE, Int.reduceLT, Int.reduceEq, Int.reduceToNat, Int.reduceNeg, reduceCtorEq, Nat.add_zero, Nat.zero_add, beq_self_eq_true, Try.f37, rcanW, rdiskB, hdn, unwind, modeEx, resultsOf, one] at hC ⊢
      exact ⟨_, rfl, hC, Nat.le_refl _⟩
  | false =>
    by_cases hbad : checkD d pos = 0 ∧ s.length = 64
    · obtain ⟨h0, h64⟩ := hbad
      obtain ⟨_, hp0, hpl⟩ := checkD_zero h0
      obtain ⟨q, rfl⟩ : ∃ q : Nat, pos = q := ⟨pos.toNat, by omega⟩
      have hq : q < d.now.length := by omega
      have hr : writeD d q s = ((failsD (wroteD d q s)).1, if (failsD (wroteD d q s)).2 then 91 else 0) := by
        unfold writeD
        rw [if_pos h0, if_pos h64, Int.toNat_natCast]
      rw [hr]
      obtain ⟨s0, hs0, _⟩ := get_drop hq
      have b1 : decide ((q : Int) < 0) = false := by simp
      have b2 : decide ((d.now.length : Int) ≤ (q : Int)) = false := by simp only [decide_eq_false_iff_not]; omega
      have d64 : decide ((s.length : Int) = 64) = true := by simp only [decide_eq_true_eq]; omega
      have dl : decide ((q : Int) < (d.now.length : Int)) = true := by simp only [decide_eq_true_eq]; omega
      have g0 : (0 : Int) ≤ (q : Int) := by omega
      have hgm : (d.now.map AVal.str)[q]? = some (.str s0) := get_map hs0
      have hset : (d.now.map AVal.str).set q (.str s) = (d.now.set q s).map .str := by rw [List.map_set]
      have hbuild := build140 q s ti140
      rcases h with ⟨hw, ga, gb, rfl⟩ | ⟨hw, ga, gb, gc, rfl⟩
      · have hC : RIsCan (rcanW (wroteD d q s) ga gb 0) (wroteD d q s) := .inr ⟨by simp [wroteD], ga, gb, 0, rfl⟩
        obtain ⟨us, H', hc, hp, hd, hl⟩ := rcan_obj (f := 100) (args := []) rfl rfl rfl rfl rfl rfl hC (rcounts_can (d := wroteD d q s) (show (wroteD d q s).down = false from hdn) hC)
        simp only [rcanW, rdiskB, wroteD, hw, hdn, Bool.not_false, List.length_set, List.nil_append, List.length_cons, List.length_nil, List.map_cons, List.map_nil, Nat.reduceAdd, Nat.zero_add] at hc hp
        simp only [go_sem, Nat.reduceAdd, Nat.reduceSub, Nat.reduceMul, Nat.reduceDiv, Nat.reduceMod, Nat.reducePow, Nat.reduceLeDiff, Nat.reduceLT, Nat.reduceEqDiff, Nat.reduceBEq, Nat.reduceBNe, Int.reduceAdd, Int.reduceSub, Int.reduceMul, Int.reducePow, Int.reduceLE, Int.reduceLT, Int.reduceEq, Int.reduceToNat, Int.reduceNeg, reduceCtorEq, Nat.add_zero, Nat.zero_add, beq_self_eq_true, Try.f37, rcanD, rdiskB, hdn, b1, b2, d64, dl, g0, Int.toNat_natCast, hgm, hset, hbuild, append130n, hc, hp]
        cases hf : (failsD (wroteD d q s)).2 with
        | true =>
          simp only [wroteD, hw, hdn, List.nil_append] at hf hd ⊢
          simp only [go_sem, Nat.reduceAdd, Nat.reduceSub, Nat.reduceMul, Nat.reduceDiv, Nat.reduceMod, Nat.reducePow, Nat.reduceLeDiff, Nat.reduceLT, Nat.reduceEqDiff, Nat.reduceBEq, Nat.reduceBNe, Int.reduceAdd, Int.reduceSub, Int.reduceMul, Int.reducePow, Int.reduceLE, Int.reduceLT, Int.reduceEq, Int.reduceToNat, Int.reduceNeg, reduceCtorEq, Nat.add_zero, Nat.zero_add, beq_self_eq_true, hf, unwind, modeEx, resultsOf, one]
          exact ⟨_, rfl, hd, Nat.le_trans (Nat.le_succ 3) hl⟩
        | false =>
          simp only [wroteD, hw, hdn, List.nil_append] at hf hd ⊢
          simp only [go_sem, Nat.reduceAdd, Nat.reduceSub, Nat.reduceMul, Nat.reduceDiv, Nat.reduceMod, Nat.reducePow, Nat.reduceLeDiff, Nat.reduceLT, Nat.reduceEqDiff, Nat.reduceBEq, Nat.reduceBNe, Int.reduceAdd, Int.reduceSub, Int.reduceMul, Int.reducePow, Int.reduceLE, Int.reduceLT, Int.reduceEq, Int.reduceToNat, Int.reduceNeg, reduceCtorEq, Nat.add_zero, Nat.zero_add, beq_self_eq_true, hf, unwind, modeEx, resultsOf, one]
          exact ⟨_, rfl, hd, Nat.le_trans (Nat.le_succ 3) hl⟩
      · have ha := fun nx => append130 (nx := nx) (w := (q, s)) (id := 3) (gc := gc) (H := [rdiskB d (.ref 1 ga 0 d.safe.length false) (.ref 2 gb 0 d.now.length false) (.ref 3 gc 0 d.wr.length false), .cells ga 1 true (d.safe.map .str), .cells gb 1 true ((d.now.set q s).map .str), .cells gc 2 true (d.wr.map rwrV)]) hw hwl rfl
        simp only [rdiskB, hdn, Bool.not_false] at ha
        have hC : RIsCan (rcanW (wroteD d q s) ga gb (gc + 1)) (wroteD d q s) := .inr ⟨by simp [wroteD], ga, gb, gc + 1, rfl⟩
        obtain ⟨us, H', hc, hp, hd, hl⟩ := rcan_obj (f := 100) (args := []) rfl rfl rfl rfl rfl rfl hC (rcounts_can (d := wroteD d q s) (show (wroteD d q s).down = false from hdn) hC)
        simp only [rcanW, rdiskB, wroteD, hdn, Bool.not_false, List.length_set, List.length_append, List.length_cons, List.length_nil, List.map_cons, List.map_nil, Nat.reduceAdd, Nat.zero_add] at hc hp
        simp only [go_sem, Nat.reduceAdd, Nat.reduceSub, Nat.reduceMul, Nat.reduceDiv, Nat.reduceMod, Nat.reducePow, Nat.reduceLeDiff, Nat.reduceLT, Nat.reduceEqDiff, Nat.reduceBEq, Nat.reduceBNe, Int.reduceAdd, Int.reduceSub, Int.reduceMul, Int.reducePow, Int.reduceLE, Int.reduceLT, Int.reduceEq, Int.reduceToNat, Int.reduceNeg, reduceCtorEq, Nat.add_zero, Nat.zero_add, beq_self_eq_true, Try.f37, rcanW, rdiskB, hdn, b1, b2, d64, dl, g0, Int.toNat_natCast, hgm, hset, hbuild, ha, hc, hp]
        cases hf : (failsD (wroteD d q s)).2 with
        | true =>
          simp only [wroteD, hdn] at hf hd ⊢
          simp only [go_sem, Nat.reduceAdd, Nat.reduceSub, Nat.reduceMul, Nat.reduceDiv, Nat.reduceMod, Nat.reducePow, Nat.reduceLeDiff, Nat.reduceLT, Nat.reduceEqDiff, Nat.reduceBEq, Nat.reduceBNe, Int.reduceAdd, Int.reduceSub, Int.reduceMul, Int.reducePow, Int.reduceLE, Int.reduceLT, Int.reduceEq, Int.reduceToNat, Int.reduceNeg, reduceCtorEq, Nat.add_zero, Nat.zero_add, beq_self_eq_true, hf, unwind, modeEx, resultsOf, one]
          exact ⟨_, rfl, hd, hl⟩
        | false =>
          simp only [wroteD, hdn] at hf hd ⊢
          simp only [go_sem, Nat.reduceAdd, Nat.reduceSub, Nat.reduceMul, Nat.reduceDiv, Nat.reduceMod, Nat.reducePow, Nat.reduceLeDiff, Nat.reduceLT, Nat.reduceEqDiff, Nat.reduceBEq, Nat.reduceBNe, Int.reduceAdd, Int.reduceSub, Int.reduceMul, Int.reducePow, Int.reduceLE, Int.reduceLT, Int.reduceEq, Int.reduceToNat, Int.reduceNeg, reduceCtorEq, Nat.add_zero, Nat.zero_add, beq_self_eq_true, hf, unwind, modeEx, resultsOf, one]
          exact ⟨_, rfl, hd, hl⟩
    · have hr : writeD d pos s = (d, 1) := by
        unfold writeD
        by_cases h0 : checkD d pos = 0
        · rw [if_pos h0, if_neg (fun h => hbad ⟨h0, h⟩)]
        · rw [if_neg h0]
          unfold checkD at h0 ⊢
          rw [hdn] at h0 ⊢
          simp only [Bool.false_eq_true, if_false] at h0 ⊢
          split
          · rfl
          · rename_i h; rw [if_neg h] at h0; exact absurd rfl h0
      rw [hr]
      have hor : pos < 0 ∨ (d.now.length : Int) ≤ pos ∨ (s.length : Int) ≠ 64 := by
        refine Classical.byContradiction fun hn => hbad ?_
        simp only [not_or, ne_eq, Classical.not_not] at hn
        refine ⟨?_, by omega⟩
        unfold checkD
        rw [hdn, if_neg (by simp), if_neg (by omega)]
      cases h1 : decide (pos < 0) with
      | true =>
        rcases h with ⟨hw, ga, gb, rfl⟩ | ⟨hw, ga, gb, gc, rfl⟩
        · have hC : RIsCan (rcanD d ga gb) d := .inl ⟨hw, ga, gb, rfl⟩
          simp only [go_sem, Nat.reduceAdd, Nat.reduceSub, Nat.reduceMul, Nat.reduceDiv, Nat.reduceMod, Nat.reducePow, Nat.reduceLeDiff, Nat.reduceLT, Nat.reduceEqDiff, Nat.reduceBEq, Nat.reduceBNe, Int.reduceAdd, Int.reduceSub, Int.reduceMul, Int.reducePow, Int.reduceLE, Int.reduceLT, Int.reduceEq, Int.reduceToNat, Int.reduceNeg, reduceCtorEq, Nat.add_zero, Nat.zero_add, beq_self_eq_true, Try.f37, rcanD, rdiskB, hdn, h1, unwind, modeEx, resultsOf, one] at hC ⊢
          exact ⟨_, rfl, hC, Nat.le_refl _⟩
        · have hC : RIsCan (rcanW d ga gb gc) d := .inr ⟨hw, ga, gb, gc, rfl⟩
          simp only [go_sem, Nat.reduceAdd, Nat.reduceSub, Nat.reduceMul, Nat.reduceDiv, Nat.reduceMod, Nat.reducePow, Nat.reduceLeDiff, Nat.reduceLT, Nat.reduceEqDiff, Nat.reduceBEq, Nat.reduceBNe, Int.reduceAdd, Int.reduceSub, Int.reduceMul, Int.reducePow, Int.reduceLE, Int.reduceLT, Int.reduceEq, Int.reduceToNat, Int.reduceNeg, reduceCtorEq, Nat.add_zero, Nat.zero_add, beq_self_eq_true, Try.f37, rcanW, rdiskB, hdn, h1, unwind, modeEx, resultsOf, one] at hC ⊢
          exact ⟨_, rfl, hC, Nat.le_refl _⟩
      | false =>
        cases h2 : decide ((d.now.length : Int) ≤ pos) with
        | true =>
          rcases h with ⟨hw, ga, gb, rfl⟩ | ⟨hw, ga, gb, gc, rfl⟩
          · have hC : RIsCan (rcanD d ga gb) d := .inl ⟨hw, ga, gb, rfl⟩
            simp only [go_sem, Nat.reduceAdd, Nat.reduceSub, Nat.reduceMul, Nat.reduceDiv, Nat.reduceMod, Nat.reducePow, Nat.reduceLeDiff, Nat.reduceLT, Nat.reduceEqDiff, Nat.reduceBEq, Nat.reduceBNe, Int.reduceAdd, Int.reduceSub, Int.reduceMul, Int.reducePow, Int.reduceLE, Int.reduceLT, Int.reduceEq, Int.reduceToNat, Int.reduceNeg, reduceCtorEq, Nat.add_zero, Nat.zero_add, beq_self_eq_true, Try.f37, rcanD, rdiskB, hdn, h1, h2, unwind, modeEx, resultsOf, one] at hC ⊢
            exact ⟨_, rfl, hC, Nat.le_refl _⟩
          · have hC : RIsCan (rcanW d ga gb gc) d := .inr ⟨hw, ga, gb, gc, rfl⟩
            simp only [go_sem, Nat.reduceAdd, Nat.reduceSub, Nat.reduceMul, Nat.reduceDiv, Nat.reduceMod, Nat.reducePow, Nat.reduceLeDiff, Nat.reduceLT, Nat.reduceEqDiff, Nat.reduceBEq, Nat.reduceBNe, Int.reduceAdd, Int.reduceSub, Int.reduceMul, Int.reducePow, Int.reduceLE, Int.reduceLT, Int.reduceEq, Int.reduceToNat, Int.reduceNeg, reduceCtorEq, Nat.add_zero, Nat.zero_add, beq_self_eq_true, Try.f37, rcanW, rdiskB, hdn, h1, h2, unwind, modeEx, resultsOf, one] at hC ⊢
            exact ⟨_, rfl, hC, Nat.le_refl _⟩
        | false =>
          have d64 : decide ((s.length : Int) = 64) = false := by
            simp only [decide_eq_false_iff_not] at h1 h2 ⊢
            rcases hor with h | h | h
            · exact absurd h h1
            · exact absurd h h2
            · exact h
          rcases h with ⟨hw, ga, gb, rfl⟩ | ⟨hw, ga, gb, gc, rfl⟩
          · have hC : RIsCan (rcanD d ga gb) d := .inl ⟨hw, ga, gb, rfl⟩
            simp only [go_sem, Nat.reduceAdd, Nat.reduceSub, Nat.reduceMul, Nat.reduceDiv, Nat.reduceMod, Nat.reducePow, Nat.reduceLeDiff, Nat.reduceLT, Nat.reduceEqDiff, Nat.reduceBEq, Nat.reduceBNe, Int.reduceAdd, Int.reduceSub, Int.reduceMul, Int.reducePow, Int.reduceLE, Int.reduceLT, Int.reduceEq, Int.reduceToNat, Int.reduceNeg, reduceCtorEq, Nat.add_zero, Nat.zero_add, beq_self_eq_true, Try.f37, rcanD, rdiskB, hdn, h1, h2, d64, unwind, modeEx, resultsOf, one] at hC ⊢
            exact ⟨_, rfl, hC, Nat.le_refl _⟩
          · have hC : RIsCan (rcanW d ga gb gc) d := .inr ⟨hw, ga, gb, gc, rfl⟩
            simp only [go_sem, Nat.reduceAdd, Nat.reduceSub, Nat.reduceMul, Nat.reduceDiv, Nat.reduceMod, Nat.reducePow, Nat.reduceLeDiff, Nat.reduceLT, Nat.reduceEqDiff, Nat.reduceBEq, Nat.reduceBNe, Int.reduceAdd, Int.reduceSub, Int.reduceMul, Int.reducePow, Int.reduceLE, Int.reduceLT, Int.reduceEq, Int.reduceToNat, Int.reduceNeg, reduceCtorEq, Nat.add_zero, Nat.zero_add, beq_self_eq_true, Try.f37, rcanW, rdiskB, hdn, h1, h2, d64, unwind, modeEx, resultsOf, one] at hC ⊢
            exact ⟨_, rfl, hC, Nat.le_refl _⟩
end Go.Proofs.Ytamcncpgfhfheaa.Tidy

/-
  A disk of the reference: made safe.
-/
namespace Go.Proofs.Ytamcncpgfhfheaa.Tidy
open Go Go.IntWalk
set_option maxRecDepth 10000
set_option linter.unusedSimpArgs false

def applyW (sf : List Sec) (wr : List (Nat × Sec)) : List Sec := wr.foldl (fun sf w => sf.set w.1 w.2) sf

theorem applyW_length (wr : List (Nat × Sec)) : ∀ sf : List Sec, (applyW sf wr).length = sf.length := by
  induction wr with
  | nil => intro sf; rfl
  | cons w wr ih => intro sf; simp only [applyW, List.foldl_cons] at ih ⊢; rw [ih]; simp

def rstormH (d : DiskS) (n0 n1 nw ga gb gc : Nat) (sf now : List Sec) (wr : List (Nat × Sec)) : Heap :=
  [rdiskB d (.ref 1 ga 0 n0 false) (.ref 2 gb 0 n1 false) (.ref 3 gc 0 nw false), .cells ga 1 true (sf.map .str), .cells gb 1 true (now.map .str), .cells gc 2 true (wr.map rwrV)]

set_option maxHeartbeats 2000000 in
theorem rsync_loop (d : DiskS) (n0 n1 ga gb gc : Nat) (now : List Sec) (wr : List (Nat × Sec)) (hwp : ∀ w ∈ wr, w.1 < n0) (hwl : wr.length < 2 ^ 60) :
    ∀ (m i : Nat) (sf : List Sec) (j1 j2 j4 j5 j6 j7 j8 j9 j10 j11 j12 j13 j14 j15 j16 j17 j18 j19 j20 j21 j22 j23 j24 j25 j26 j27 j28 j29 j30 j31 j32 j33 j34 j35 j36 j37 j38 j39 j40 j41 j42 j43 j44 j45 : AVal), i + m = wr.length → sf.length = n0 →
    Goes (execT env (Try.f39.at [1, 1, 0, 1, 0]) ⟨[.ptr 0 0 0 0, j1, j2, .int .i64 i, j4, j5, j6, j7, j8, j9, j10, j11, j12, j13, j14, j15, j16, j17, j18, j19, j20, j21, j22, j23, j24, j25, j26, j27, j28, j29, j30, j31, j32, j33, j34, j35, j36, j37, j38, j39, j40, j41, j42, j43, j44, j45], rstormH d n0 n1 wr.length ga gb gc sf now wr, [], 0, []⟩) fun e s => e = .exit 0 ∧
      ∃ j1 j2 j3 j4 j5 j6 j7 j8 j9 j10 j11 j12 j13 j14 j15 j16 j17 j18 j19 j20 j21 j22 j23 j24 j25 j26 j27 j28 j29 j30 j31 j32 j33 j34 j35 j36 j37 j38 j39 j40 j41 j42 j43 j44 j45, s = ⟨[.ptr 0 0 0 0, j1, j2, j3, j4, j5, j6, j7, j8, j9, j10, j11, j12, j13, j14, j15, j16, j17, j18, j19, j20, j21, j22, j23, j24, j25, j26, j27, j28, j29, j30, j31, j32, j33, j34, j35, j36, j37, j38, j39, j40, j41, j42, j43, j44, j45], rstormH d n0 n1 wr.length ga gb gc (applyW sf (wr.drop i)) now wr, [], 0, []⟩ := by
  intro m
  induction m with
  | zero =>
    intro i sf j1 j2 j4 j5 j6 j7 j8 j9 j10 j11 j12 j13 j14 j15 j16 j17 j18 j19 j20 j21 j22 j23 j24 j25 j26 j27 j28 j29 j30 j31 j32 j33 j34 j35 j36 j37 j38 j39 j40 j41 j42 j43 j44 j45 hi hsf
    have hd : decide ((i : Int) < (wr.length : Int)) = false := by simp; omega
    have hdr : wr.drop i = [] := List.drop_eq_nil_of_le (by omega)
    simp only [go_sem, Nat.reduceAdd, Nat.reduceSub, Nat.reduceMul, Nat.reduceDiv, Nat.reduceMod, Nat.reducePow, Nat.reduceLeDiff, Nat.reduceLT, Nat.reduceEqDiff, Nat.reduceBEq, Nat.reduceBNe, Int.reduceAdd, Int.reduceSub, Int.reduceMul, Int.reducePow, Int.reduceLE, Int.reduceLT, Int.reduceEq, Int.reduceToNat, Int.reduceNeg, reduceCtorEq, Nat.add_zero, Nat.zero_add, beq_self_eq_true, Try.f39, rstormH, rdiskB]
    rw [execT_loop]
    simp only [go_sem, Nat.reduceAdd, Nat.reduceSub, Nat.reduceMul, Nat.reduceDiv, Nat.reduceMod, Nat.reducePow, Nat.reduceLeDiff, Nat.reduceLT, Nat.reduceEqDiff, Nat.reduceBEq, Nat.reduceBNe, Int.reduceAdd, Int.reduceSub, Int.reduceMul, Int.reducePow, Int.reduceLE, Int.reduceLT, Int.reduceEq, Int.reduceToNat, Int.reduceNeg, reduceCtorEq, Nat.add_zero, Nat.zero_add, beq_self_eq_true, hd, hdr, applyW, List.foldl_nil]
    exact ⟨_, _, _, _, _, _, _, _, _, _, _, _, _, _, _, _, _, _, _, _, _, _, _, _, _, _, _, _, _, _, _, _, _, _, _, _, _, _, _, _, _, _, _, _, _, rfl⟩
  | succ m ih =>
    intro i sf j1 j2 j4 j5 j6 j7 j8 j9 j10 j11 j12 j13 j14 j15 j16 j17 j18 j19 j20 j21 j22 j23 j24 j25 j26 j27 j28 j29 j30 j31 j32 j33 j34 j35 j36 j37 j38 j39 j40 j41 j42 j43 j44 j45 hi hsf
    have hlt : i < wr.length := by omega
    have hd : decide ((i : Int) < (wr.length : Int)) = true := by simp; omega
    have g0 : (0 : Int) ≤ (i : Int) := by omega
    obtain ⟨w, hw, hdr⟩ := get_drop hlt
    have hp := hwp w (List.mem_of_getElem? hw)
    have hgw : (wr.map rwrV)[i]? = some (.agg [.int .i64 w.1, .str w.2]) := get_map hw
    obtain ⟨o, ho, _⟩ := get_drop (show w.1 < sf.length by omega)
    have hgo : (sf.map AVal.str)[w.1]? = some (.str o) := get_map ho
    have dw : decide ((w.1 : Int) < (n0 : Int)) = true := by simp only [decide_eq_true_eq]; omega
    have gw : (0 : Int) ≤ (w.1 : Int) := by omega
    have hset : (sf.map AVal.str).set w.1 (.str w.2) = (sf.set w.1 w.2).map .str := by rw [List.map_set]
    have ih' := ih (i + 1) (sf.set w.1 w.2)
    have hfold : applyW sf (w :: wr.drop (i + 1)) = applyW (sf.set w.1 w.2) (wr.drop (i + 1)) := rfl
    simp only [go_sem, Nat.reduceAdd, Nat.reduceSub, Nat.reduceMul, Nat.reduceDiv, Nat.reduceMod, Nat.reducePow, Nat.reduceLeDiff, Nat.reduceLT, Nat.reduceEqDiff, Nat.reduceBEq, Nat.reduceBNe, Int.reduceAdd, Int.reduceSub, Int.reduceMul, Int.reducePow, Int.reduceLE, Int.reduceLT, Int.reduceEq, Int.reduceToNat, Int.reduceNeg, reduceCtorEq, Nat.add_zero, Nat.zero_add, beq_self_eq_true, Try.f39, rstormH, rdiskB] at ih' ⊢
    rw [execT_loop, hdr, hfold]
    simp only [go_sem, Nat.reduceAdd, Nat.reduceSub, Nat.reduceMul, Nat.reduceDiv, Nat.reduceMod, Nat.reducePow, Nat.reduceLeDiff, Nat.reduceLT, Nat.reduceEqDiff, Nat.reduceBEq, Nat.reduceBNe, Int.reduceAdd, Int.reduceSub, Int.reduceMul, Int.reducePow, Int.reduceLE, Int.reduceLT, Int.reduceEq, Int.reduceToNat, Int.reduceNeg, reduceCtorEq, Nat.add_zero, Nat.zero_add, beq_self_eq_true, hd, g0, Int.toNat_natCast, hgw, dw, gw, hgo, hset]
    rw [apart_ok]
    · simp only [go_sem, Nat.reduceAdd, Nat.reduceSub, Nat.reduceMul, Nat.reduceDiv, Nat.reduceMod, Nat.reducePow, Nat.reduceLeDiff, Nat.reduceLT, Nat.reduceEqDiff, Nat.reduceBEq, Nat.reduceBNe, Int.reduceAdd, Int.reduceSub, Int.reduceMul, Int.reducePow, Int.reduceLE, Int.reduceLT, Int.reduceEq, Int.reduceToNat, Int.reduceNeg, reduceCtorEq, Nat.add_zero, Nat.zero_add, beq_self_eq_true, wrap_succ (show i < 2 ^ 63 - 1 by omega)]
      exact ih' _ _ _ _ _ _ _ _ _ _ _ _ _ _ _ _ _ _ _ _ _ _ _ _ _ _ _ _ _ _ _ _ _ _ _ _ _ _ _ _ _ _ _ _ (by omega) (by simpa using hsf)
    · kernel_rfl

set_option maxHeartbeats 2000000 in
theorem rsync_run (d : DiskS) (hcur : d.now = applyW d.safe d.wr) (hwp : ∀ w ∈ d.wr, w.1 < d.safe.length) (hwl : d.wr.length < 2 ^ 60) : ∀ C, RIsCan C d → ∃ H' F', runT env 39 [.ptr 0 0 0 0] C 0 = some (.ret (.int .i64 (syncD d).2), H') ∧ RDiskAt H' 0 (syncD d).1 F' ∧ C.length ≤ H'.length := by
  intro C h
  rw [run_unfold fn39 rfl]
  unfold syncD
  have z0 : decide ((0 : Int) < ((0 : Nat) : Int)) = false := by decide
  cases hdn : d.down with
  | true =>
    simp only [if_true]
    rcases h with ⟨hw, ga, gb, rfl⟩ | ⟨hw, ga, gb, gc, rfl⟩
    · have hat := rcan_reach (show RIsCan (rcanD d ga gb) d from .inl ⟨hw, ga, gb, rfl⟩)
      simp only [go_sem, Nat.reduceAdd, Nat.reduceSub, Nat.reduceMul, Nat.reduceDiv, Nat.reduceMod, Nat.reducePow, Nat.reduceLeDiff, Nat.reduceLT, Nat.reduceEqDiff, Nat.reduceBEq, Nat.reduceBNe, Int.reduceAdd, Int.reduceSub, Int.reduceMul, Int.reducePow, Int.reduceLE, Int.reduceLT, Int.reduceEq, Int.reduceToNat, Int.reduceNeg, reduceCtorEq, Nat.add_zero, Nat.zero_add, beq_self_eq_true, Try.f39, rcanD, rdiskB, hdn, unwind, modeEx, resultsOf, one] at hat ⊢
      exact ⟨_, _, rfl, hat, Nat.le_refl _⟩
    · have hat := rcan_reach (show RIsCan (rcanW d ga gb gc) d from .inr ⟨hw, ga, gb, gc, rfl⟩)
      simp only [go_sem, Nat.reduceAdd, Nat.reduceSub, Nat.reduceMul, Nat.reduceDiv, Nat.reduceMod, Nat.reducePow, Nat.reduceLeDiff, Nat.reduceLT, Nat.reduceEqDiff, Nat.reduceBEq, Nat.reduceBNe, Int.reduceAdd, Int.reduceSub, Int.reduceMul, Int.reducePow, Int.reduceLE, Int.reduceLT, Int.reduceEq, Int.reduceToNat, Int.reduceNeg, reduceCtorEq, Nat.add_zero, Nat.zero_add, beq_self_eq_true, Try.f39, rcanW, rdiskB, hdn, unwind, modeEx, resultsOf, one] at hat ⊢
      exact ⟨_, _, rfl, hat, Nat.le_refl _⟩
  | false =>
    simp only [Bool.false_eq_true, if_false]
    obtain ⟨f1, f2, f3⟩ := failsD_same d
    obtain ⟨us, C1, hc, hp, hd, hl1⟩ := rcan_obj (f := 100) (args := []) rfl rfl rfl rfl rfl rfl h (rcounts_can hdn h)
    cases hf : (failsD d).2 with
    | true =>
      simp only [if_true]
      rw [hf] at hc
      rcases h with ⟨hw, ga, gb, rfl⟩ | ⟨hw, ga, gb, gc, rfl⟩
      · simp only [rcanD, rdiskB, List.length_cons, List.length_nil, Nat.reduceAdd, Nat.zero_add, hdn, Bool.not_false] at hc hp
        simp only [go_sem, Nat.reduceAdd, Nat.reduceSub, Nat.reduceMul, Nat.reduceDiv, Nat.reduceMod, Nat.reducePow, Nat.reduceLeDiff, Nat.reduceLT, Nat.reduceEqDiff, Nat.reduceBEq, Nat.reduceBNe, Int.reduceAdd, Int.reduceSub, Int.reduceMul, Int.reducePow, Int.reduceLE, Int.reduceLT, Int.reduceEq, Int.reduceToNat, Int.reduceNeg, reduceCtorEq, Nat.add_zero, Nat.zero_add, beq_self_eq_true, Try.f39, rcanD, rdiskB, hdn, hc, hp, unwind, modeEx, resultsOf, one]
        exact ⟨_, _, rfl, rcan_reach hd, hl1⟩
      · simp only [rcanW, rdiskB, List.length_cons, List.length_nil, Nat.reduceAdd, Nat.zero_add, hdn, Bool.not_false] at hc hp
        simp only [go_sem, Nat.reduceAdd, Nat.reduceSub, Nat.reduceMul, Nat.reduceDiv, Nat.reduceMod, Nat.reducePow, Nat.reduceLeDiff, Nat.reduceLT, Nat.reduceEqDiff, Nat.reduceBEq, Nat.reduceBNe, Int.reduceAdd, Int.reduceSub, Int.reduceMul, Int.reducePow, Int.reduceLE, Int.reduceLT, Int.reduceEq, Int.reduceToNat, Int.reduceNeg, reduceCtorEq, Nat.add_zero, Nat.zero_add, beq_self_eq_true, Try.f39, rcanW, rdiskB, hdn, hc, hp, unwind, modeEx, resultsOf, one]
        exact ⟨_, _, rfl, rcan_reach hd, hl1⟩
    | false =>
      simp only [Bool.false_eq_true, if_false]
      rw [hf] at hc
      generalize failsD d = D at *
      obtain ⟨d1, b⟩ := D
      simp only at hf f1 f2 f3 hd ⊢
      rcases hd with ⟨hw1, ga1, gb1, rfl⟩ | ⟨hw1, ga1, gb1, gc1, rfl⟩
      · rcases h with ⟨hw, ga, gb, rfl⟩ | ⟨hw, ga, gb, gc, rfl⟩
        · have hsn : d1.now = d1.safe := by rw [f1, f2, hcur, hw]; rfl
          simp only [rcanD, rdiskB, List.length_cons, List.length_nil, Nat.reduceAdd, Nat.zero_add, hdn, Bool.not_false] at hc hp
          simp only [go_sem, Nat.reduceAdd, Nat.reduceSub, Nat.reduceMul, Nat.reduceDiv, Nat.reduceMod, Nat.reducePow, Nat.reduceLeDiff, Nat.reduceLT, Nat.reduceEqDiff, Nat.reduceBEq, Nat.reduceBNe, Int.reduceAdd, Int.reduceSub, Int.reduceMul, Int.reducePow, Int.reduceLE, Int.reduceLT, Int.reduceEq, Int.reduceToNat, Int.reduceNeg, reduceCtorEq, Nat.add_zero, Nat.zero_add, beq_self_eq_true, Try.f39, rcanD, rdiskB, hdn, hc, hp]
          rw [execT_loop]
          simp only [go_sem, Nat.reduceAdd, Nat.reduceSub, Nat.reduceMul, Nat.reduceDiv, Nat.reduceMod, Nat.reducePow, Nat.reduceLeDiff, Nat.reduceLT, Nat.reduceEqDiff, Nat.reduceBEq, Nat.reduceBNe, Int.reduceAdd, Int.reduceSub, Int.reduceMul, Int.reducePow, Int.reduceLE, Int.reduceLT, Int.reduceEq, Int.reduceToNat, Int.reduceNeg, reduceCtorEq, Nat.add_zero, Nat.zero_add, beq_self_eq_true, z0, unwind, modeEx, resultsOf, one]
          refine ⟨_, [0, 1, 2], rfl, ⟨1, ga1, 2, gb1, _, ?_, ?_, rfl, .inl ⟨rfl, rfl, rfl⟩, by decide⟩, Nat.le_refl 3⟩
          · simp only [List.getElem?_cons_zero, rdiskB, hsn]
          · simp only [List.getElem?_cons_zero, List.getElem?_cons_succ, hsn]
        · exact absurd (f3.symm.trans hw1) hw
      · rcases h with ⟨hw, ga, gb, rfl⟩ | ⟨hw, ga, gb, gc, rfl⟩
        · exact absurd (f3.trans hw) hw1
        · obtain ⟨e, s, hx, rfl, j1, j2, j3, j4, j5, j6, j7, j8, j9, j10, j11, j12, j13, j14, j15, j16, j17, j18, j19, j20, j21, j22, j23, j24, j25, j26, j27, j28, j29, j30, j31, j32, j33, j34, j35, j36, j37, j38, j39, j40, j41, j42, j43, j44, j45, rfl⟩ := rsync_loop d1 d1.safe.length d1.now.length ga1 gb1 gc1 d1.now d1.wr (by rw [f3, f1]; exact hwp) (by rw [f3]; exact hwl) d1.wr.length 0 d1.safe _ _ _ _ _ _ _ _ _ _ _ _ _ _ _ _ _ _ _ _ _ _ _ _ _ _ _ _ _ _ _ _ _ _ _ _ _ _ _ _ _ _ _ _ (by omega) rfl
          have hsn : d1.now = applyW d1.safe d1.wr := by rw [f1, f2, f3]; exact hcur
          have hln := applyW_length d1.wr d1.safe
          simp only [go_sem, Nat.reduceAdd, Nat.reduceSub, Nat.reduceMul, Nat.reduceDiv, Nat.reduceMod, Nat.reducePow, Nat.reduceLeDiff, Nat.reduceLT, Nat.reduceEqDiff, Nat.reduceBEq, Nat.reduceBNe, Int.reduceAdd, Int.reduceSub, Int.reduceMul, Int.reducePow, Int.reduceLE, Int.reduceLT, Int.reduceEq, Int.reduceToNat, Int.reduceNeg, reduceCtorEq, Nat.add_zero, Nat.zero_add, beq_self_eq_true, Try.f39, Int.ofNat_zero, Int.natCast_zero, rstormH, rdiskB, List.drop_zero] at hx
          simp only [rcanW, rdiskB, List.length_cons, List.length_nil, Nat.reduceAdd, Nat.zero_add, hdn, Bool.not_false] at hc hp
          simp only [go_sem, Nat.reduceAdd, Nat.reduceSub, Nat.reduceMul, Nat.reduceDiv, Nat.reduceMod, Nat.reducePow, Nat.reduceLeDiff, Nat.reduceLT, Nat.reduceEqDiff, Nat.reduceBEq, Nat.reduceBNe, Int.reduceAdd, Int.reduceSub, Int.reduceMul, Int.reducePow, Int.reduceLE, Int.reduceLT, Int.reduceEq, Int.reduceToNat, Int.reduceNeg, reduceCtorEq, Nat.add_zero, Nat.zero_add, beq_self_eq_true, Try.f39, rcanW, rdiskB, hdn, hc, hp]
          rw [hx]
          simp only [go_sem, Nat.reduceAdd, Nat.reduceSub, Nat.reduceMul, Nat.reduceDiv, Nat.reduceMod, Nat.reducePow, Nat.reduceLeDiff, Nat.reduceLT, Nat.reduceEqDiff, Nat.reduceBEq, Nat.reduceBNe, Int.reduceAdd, Int.reduceSub, Int.reduceMul, Int.reducePow, Int.reduceLE, Int.reduceLT, Int.reduceEq, Int.reduceToNat, Int.reduceNeg, reduceCtorEq, Nat.add_zero, Nat.zero_add, beq_self_eq_true, unwind, modeEx, resultsOf, one]
          refine ⟨_, [0, 1, 2], rfl, ⟨1, ga1, 2, gb1, _, ?_, ?_, rfl, .inl ⟨rfl, rfl, rfl⟩, by decide⟩, Nat.le_refl 4⟩
          · simp only [List.getElem?_cons_zero, rdiskB]
            rw [show d1.now.length = d1.safe.length by rw [hsn, hln]]
          · simp only [List.getElem?_cons_zero, List.getElem?_cons_succ, hsn]
end Go.Proofs.Ytamcncpgfhfheaa.Tidy

/-
  A disk: new, and after the power has gone off.
-/
namespace Go.Proofs.Ytamcncpgfhfheaa.Tidy
open Go Go.IntWalk
set_option maxRecDepth 10000
set_option linter.unusedSimpArgs false

theorem newdisk_call (n : Nat) (h1 : 1 ≤ n) (h2 : n ≤ 4096) (ro : Nat) (H : Heap) (nx : Nat) : callT env 33 [.int .i64 n] ro H nx = some (.ret (.tuple [.ptr (nx + 2) 0 0 0, .int .i64 0]),
    .ups [(nx, .cells 0 64 true ((newD n).safe.map secV)), (nx + 1, .cells 0 64 true ((newD n).now.map secV)), (nx + 2, diskB (newD n) (.ref nx 0 0 (newD n).safe.length false) (.ref (nx + 1) 0 0 (newD n).now.length false) (.lit true 0 []))]) := by
  obtain ⟨te, ht, e1, e2, e3, e4, e5, e6⟩ := ti136'
  have d1 : decide ((n : Int) < 1) = false := by simp only [decide_eq_false_iff_not]; omega
  have d2 : decide (4096 < (n : Int)) = false := by simp only [decide_eq_false_iff_not]; omega
  have g0 : (0 : Int) ≤ (n : Int) := by omega
  have hb : n * (64 + 1) ≤ maxBytes := by unfold maxBytes; omega
  have hz : List.replicate n te.zero = (List.replicate n (List.replicate 64 (0 : UInt8))).map secV := by rw [e6, List.map_replicate]
  have hrun : runT env 33 [.int .i64 n] [] 0 = some (.ret (.tuple [.ptr 2 0 0 0, .int .i64 0]), [.cells 0 64 true ((newD n).safe.map secV), .cells 0 64 true ((newD n).now.map secV), diskB (newD n) (.ref 0 0 0 (newD n).safe.length false) (.ref 1 0 0 (newD n).now.length false) (.lit true 0 [])]) := by
    rw [run_unfold fn33 rfl]
    rw [ti136] at ht
    cases ht
    simp only [go_sem, Nat.reduceAdd, Nat.reduceSub, Nat.reduceMul, Nat.reduceDiv, Nat.reduceMod, Nat.reducePow, Nat.reduceLeDiff, Nat.reduceLT, Nat.reduceEqDiff, Nat.reduceBEq, Nat.reduceBNe, Int.reduceAdd, Int.reduceSub, Int.reduceMul, Int.reducePow, Int.reduceLE, Int.reduceLT, Int.reduceEq, Int.reduceToNat, Int.reduceNeg, reduceCtorEq, Nat.add_zero, Nat.zero_add, beq_self_eq_true, Try.f33, d1, d2, g0, Int.toNat_natCast, hb, build, fill, places, Option.isSome_some]
    rw [apart_ok]
    · simp only [go_sem, Nat.reduceAdd, Nat.reduceSub, Nat.reduceMul, Nat.reduceDiv, Nat.reduceMod, Nat.reducePow, Nat.reduceLeDiff, Nat.reduceLT, Nat.reduceEqDiff, Nat.reduceBEq, Nat.reduceBNe, Int.reduceAdd, Int.reduceSub, Int.reduceMul, Int.reducePow, Int.reduceLE, Int.reduceLT, Int.reduceEq, Int.reduceToNat, Int.reduceNeg, reduceCtorEq, Nat.add_zero, Nat.zero_add, beq_self_eq_true, unwind, modeEx, resultsOf, one, hz]
      simp [newD, diskB]
    · kernel_rfl
  rw [call_of_run rfl rfl hrun]
  have hu : uniq (List.filter (fun j => decide (List.length ([] : List Nat) ≤ j) && decide (j < List.length [Blk.cells 0 64 true ((newD n).safe.map secV), .cells 0 64 true ((newD n).now.map secV), diskB (newD n) (.ref 0 0 0 (newD n).safe.length false) (.ref 1 0 0 (newD n).now.length false) (.lit true 0 [])])) [0, 1, 2]) = [0, 1, 2] := rfl
  simp only [callBack, hint33, keepOf, Bool.false_eq_true, if_false, hu]
  rfl

theorem newdisk_none (n : Int) (h : n < 1 ∨ 4096 < n) (ro : Nat) (H : Heap) (nx : Nat) : callT env 33 [.int .i64 n] ro H nx = some (.ret (.tuple [.nilptr, .int .i64 1]), .ups []) := by
  have hrun : runT env 33 [.int .i64 n] [] 0 = some (.ret (.tuple [.nilptr, .int .i64 1]), []) := by
    rw [run_unfold fn33 rfl]
    cases d1 : decide (n < 1) with
    | true => simp only [go_sem, Nat.reduceAdd, Nat.reduceSub, Nat.reduceMul, Nat.reduceDiv, Nat.reduceMod, Nat.reducePow, Nat.reduceLeDiff, Nat.reduceLT, Nat.reduceEqDiff, Nat.reduceBEq, Nat.reduceBNe, Int.reduceAdd, Int.reduceSub, Int.reduceMul, Int.reducePow, Int.reduceLE, Int.reduceLT, Int.reduceEq, Int.reduceToNat, Int.reduceNeg, reduceCtorEq, Nat.add_zero, Nat.zero_add, beq_self_eq_true, Try.f33, d1, unwind, modeEx, resultsOf, one]
    | false =>
      have d2 : decide (4096 < n) = true := by simp only [decide_eq_false_iff_not] at d1; simp only [decide_eq_true_eq]; omega
      simp only [go_sem, Nat.reduceAdd, Nat.reduceSub, Nat.reduceMul, Nat.reduceDiv, Nat.reduceMod, Nat.reducePow, Nat.reduceLeDiff, Nat.reduceLT, Nat.reduceEqDiff, Nat.reduceBEq, Nat.reduceBNe, Int.reduceAdd, Int.reduceSub, Int.reduceMul, Int.reducePow, Int.reduceLE, Int.reduceLT, Int.reduceEq, Int.reduceToNat, Int.reduceNeg, reduceCtorEq, Nat.add_zero, Nat.zero_add, beq_self_eq_true, Try.f33, d1, d2, unwind, modeEx, resultsOf, one]
  rw [call_of_run rfl rfl hrun]
  rfl

/-- which write is the last one that survives -/
def lastFrom (keep : Sec) : Nat → Nat → Int → Int
  | 0, _, acc => acc
  | m + 1, i, acc => lastFrom keep m (i + 1) (if i < keep.length ∧ keep.getD i 0 ≠ 0 then i else acc)

theorem lastFrom_spec (keep : Sec) : ∀ (m i : Nat) (acc : Int), lastFrom keep m i acc = acc ∨ ∃ r : Nat, lastFrom keep m i acc = r ∧ i ≤ r ∧ r < i + m ∧ r < keep.length ∧ keep.getD r 0 ≠ 0
  | 0, i, acc => .inl rfl
  | m + 1, i, acc => by
    simp only [lastFrom]
    rcases lastFrom_spec keep m (i + 1) (if i < keep.length ∧ keep.getD i 0 ≠ 0 then i else acc) with h | ⟨r, h, h1, h2, h3⟩
    · rw [h]
      split
      · rename_i hc
        exact .inr ⟨i, rfl, by omega, by omega, hc⟩
      · exact .inl rfl
    · exact .inr ⟨r, h, by omega, by omega, h3⟩

/-- what survives of the writes -/
def tornAt (keep : Sec) (last : Int) : List (Nat × Sec) → Nat → List Sec → List Sec
  | [], _, sf => sf
  | w :: ws, i, sf => tornAt keep last ws (i + 1) (if (i : Int) = last then sf.set w.1 (w.2.take (min (keep.getD i 0).toNat 64) ++ (sf.getD w.1 []).drop (min (keep.getD i 0).toNat 64)) else
      if (i : Int) < last ∧ keep.getD i 0 ≠ 0 then sf.set w.1 w.2 else sf)

def restartD (d : DiskS) (keep : Sec) : DiskS :=
  { safe := tornAt keep (lastFrom keep d.wr.length 0 (-1)) d.wr 0 d.safe, now := tornAt keep (lastFrom keep d.wr.length 0 (-1)) d.wr 0 d.safe, wr := [], armed := 0, down := false, falls := if d.down then d.falls else IntKind.i64.wrap (d.falls + 1) }

theorem last_loop (keep : Sec) (v0 v18 : AVal) (n : Nat) (hn : n < 2 ^ 62) (H : Heap) (ro : Nat) : ∀ (m i : Nat) (acc : Int) (j2 j3 j5 j6 j7 j8 j9 j10 j11 j12 j13 j14 j15 j16 j17 j21 j22 j23 j24 j25 j26 j27 j28 j29 j30 j31 j32 j33 j34 j35 j36 j37 j38 j39 j40 j41 j42 j43 j44 j45 j46 j47 j48 j49 j50 j51 j52 j53 j54 j55 j56 j57 j58 j59 j60 j61 j62 j63 j64 j65 j66 j67 j68 j69 j70 j71 j72 j73 j74 j75 j76 j77 j78 j79 j80 j81 j82 j83 j84 j85 j86 j87 j88 j89 j90 j91 j92 j93 j94 j95 j96 j97 j98 j99 j100 j101 : AVal), i + m = n →
    Goes (execT env (Try.f44.at [1, 1, 0, 1, 0]) ⟨[v0, .str keep, j2, j3, .int .i64 acc, j5, j6, j7, j8, j9, j10, j11, j12, j13, j14, j15, j16, j17, v18, .int .i64 n, .int .i64 i, j21, j22, j23, j24, j25, j26, j27, j28, j29, j30, j31, j32, j33, j34, j35, j36, j37, j38, j39, j40, j41, j42, j43, j44, j45, j46, j47, j48, j49, j50, j51, j52, j53, j54, j55, j56, j57, j58, j59, j60, j61, j62, j63, j64, j65, j66, j67, j68, j69, j70, j71, j72, j73, j74, j75, j76, j77, j78, j79, j80, j81, j82, j83, j84, j85, j86, j87, j88, j89, j90, j91, j92, j93, j94, j95, j96, j97, j98, j99, j100, j101], H, [], ro, []⟩) fun e s => e = .exit 0 ∧
      ∃ j2 j3 j5 j6 j7 j8 j9 j10 j11 j12 j13 j14 j15 j16 j17 j18 j19 j20 j21 j22 j23 j24 j25 j26 j27 j28 j29 j30 j31 j32 j33 j34 j35 j36 j37 j38 j39 j40 j41 j42 j43 j44 j45 j46 j47 j48 j49 j50 j51 j52 j53 j54 j55 j56 j57 j58 j59 j60 j61 j62 j63 j64 j65 j66 j67 j68 j69 j70 j71 j72 j73 j74 j75 j76 j77 j78 j79 j80 j81 j82 j83 j84 j85 j86 j87 j88 j89 j90 j91 j92 j93 j94 j95 j96 j97 j98 j99 j100 j101, s = ⟨[v0, .str keep, j2, j3, .int .i64 (lastFrom keep m i acc), j5, j6, j7, j8, j9, j10, j11, j12, j13, j14, j15, j16, j17, j18, j19, j20, j21, j22, j23, j24, j25, j26, j27, j28, j29, j30, j31, j32, j33, j34, j35, j36, j37, j38, j39, j40, j41, j42, j43, j44, j45, j46, j47, j48, j49, j50, j51, j52, j53, j54, j55, j56, j57, j58, j59, j60, j61, j62, j63, j64, j65, j66, j67, j68, j69, j70, j71, j72, j73, j74, j75, j76, j77, j78, j79, j80, j81, j82, j83, j84, j85, j86, j87, j88, j89, j90, j91, j92, j93, j94, j95, j96, j97, j98, j99, j100, j101], H, [], ro, []⟩ := by
  intro m
  induction m with
  | zero =>
    intro i acc j2 j3 j5 j6 j7 j8 j9 j10 j11 j12 j13 j14 j15 j16 j17 j21 j22 j23 j24 j25 j26 j27 j28 j29 j30 j31 j32 j33 j34 j35 j36 j37 j38 j39 j40 j41 j42 j43 j44 j45 j46 j47 j48 j49 j50 j51 j52 j53 j54 j55 j56 j57 j58 j59 j60 j61 j62 j63 j64 j65 j66 j67 j68 j69 j70 j71 j72 j73 j74 j75 j76 j77 j78 j79 j80 j81 j82 j83 j84 j85 j86 j87 j88 j89 j90 j91 j92 j93 j94 j95 j96 j97 j98 j99 j100 j101 hi
    have hd : decide ((i : Int) < (n : Int)) = false := by simp; omega
    simp only [go_sem, Nat.reduceAdd, Nat.reduceSub, Nat.reduceMul, Nat.reduceDiv, Nat.reduceMod, Nat.reducePow, Nat.reduceLeDiff, Nat.reduceLT, Nat.reduceEqDiff, Nat.reduceBEq, Nat.reduceBNe, Int.reduceAdd, Int.reduceSub, Int.reduceMul, Int.reducePow, Int.reduceLE, Int.reduceLT, Int.reduceEq, Int.reduceToNat, Int.reduceNeg, reduceCtorEq, Nat.add_zero, Nat.zero_add, beq_self_eq_true, Try.f44]
    rw [execT_loop]
    simp only [go_sem, Nat.reduceAdd, Nat.reduceSub, Nat.reduceMul, Nat.reduceDiv, Nat.reduceMod, Nat.reducePow, Nat.reduceLeDiff, Nat.reduceLT, Nat.reduceEqDiff, Nat.reduceBEq, Nat.reduceBNe, Int.reduceAdd, Int.reduceSub, Int.reduceMul, Int.reducePow, Int.reduceLE, Int.reduceLT, Int.reduceEq, Int.reduceToNat, Int.reduceNeg, reduceCtorEq, Nat.add_zero, Nat.zero_add, beq_self_eq_true, hd, lastFrom]
    exact ⟨_, _, _, _, _, _, _, _, _, _, _, _, _, _, _, _, _, _, _, _, _, _, _, _, _, _, _, _, _, _, _, _, _, _, _, _, _, _, _, _, _, _, _, _, _, _, _, _, _, _, _, _, _, _, _, _, _, _, _, _, _, _, _, _, _, _, _, _, _, _, _, _, _, _, _, _, _, _, _, _, _, _, _, _, _, _, _, _, _, _, _, _, _, _, _, _, _, _, _, rfl⟩
  | succ m ih =>
    intro i acc j2 j3 j5 j6 j7 j8 j9 j10 j11 j12 j13 j14 j15 j16 j17 j21 j22 j23 j24 j25 j26 j27 j28 j29 j30 j31 j32 j33 j34 j35 j36 j37 j38 j39 j40 j41 j42 j43 j44 j45 j46 j47 j48 j49 j50 j51 j52 j53 j54 j55 j56 j57 j58 j59 j60 j61 j62 j63 j64 j65 j66 j67 j68 j69 j70 j71 j72 j73 j74 j75 j76 j77 j78 j79 j80 j81 j82 j83 j84 j85 j86 j87 j88 j89 j90 j91 j92 j93 j94 j95 j96 j97 j98 j99 j100 j101 hi
    have hd : decide ((i : Int) < (n : Int)) = true := by simp; omega
    have g0 : (0 : Int) ≤ (i : Int) := by omega
    have ih' := ih (i + 1)
    simp only [go_sem, Nat.reduceAdd, Nat.reduceSub, Nat.reduceMul, Nat.reduceDiv, Nat.reduceMod, Nat.reducePow, Nat.reduceLeDiff, Nat.reduceLT, Nat.reduceEqDiff, Nat.reduceBEq, Nat.reduceBNe, Int.reduceAdd, Int.reduceSub, Int.reduceMul, Int.reducePow, Int.reduceLE, Int.reduceLT, Int.reduceEq, Int.reduceToNat, Int.reduceNeg, reduceCtorEq, Nat.add_zero, Nat.zero_add, beq_self_eq_true, Try.f44] at ih' ⊢
    rw [execT_loop]
    by_cases hk : i < keep.length
    · have dk : decide ((i : Int) < (keep.length : Int)) = true := by simp only [decide_eq_true_eq]; omega
      obtain ⟨b, hb, _⟩ := get_drop hk
      have hgd : keep.getD i 0 = b := by rw [List.getD_eq_getElem?_getD, hb]; rfl
      by_cases hz : b = 0
      · subst hz
        have dz : decide (((0 : UInt8).toNat : Int) = 0) = true := by decide
        simp only [go_sem, Nat.reduceAdd, Nat.reduceSub, Nat.reduceMul, Nat.reduceDiv, Nat.reduceMod, Nat.reducePow, Nat.reduceLeDiff, Nat.reduceLT, Nat.reduceEqDiff, Nat.reduceBEq, Nat.reduceBNe, Int.reduceAdd, Int.reduceSub, Int.reduceMul, Int.reducePow, Int.reduceLE, Int.reduceLT, Int.reduceEq, Int.reduceToNat, Int.reduceNeg, reduceCtorEq, Nat.add_zero, Nat.zero_add, beq_self_eq_true, hd, dk, g0, Int.toNat_natCast, hb, dz, wrap_succ (show i < 2 ^ 63 - 1 by omega), lastFrom, hgd, hk, ne_eq, not_true_eq_false, and_false]
        exact ih' acc _ _ _ _ _ _ _ _ _ _ _ _ _ _ _ _ _ _ _ _ _ _ _ _ _ _ _ _ _ _ _ _ _ _ _ _ _ _ _ _ _ _ _ _ _ _ _ _ _ _ _ _ _ _ _ _ _ _ _ _ _ _ _ _ _ _ _ _ _ _ _ _ _ _ _ _ _ _ _ _ _ _ _ _ _ _ _ _ _ _ _ _ _ _ _ _ (by omega)
      · have dz : decide ((b.toNat : Int) = 0) = false := by
          simp only [decide_eq_false_iff_not]
          intro h
          exact hz (UInt8.toNat_inj.1 (by rw [show (0 : UInt8).toNat = 0 from rfl]; omega))
        simp only [go_sem, Nat.reduceAdd, Nat.reduceSub, Nat.reduceMul, Nat.reduceDiv, Nat.reduceMod, Nat.reducePow, Nat.reduceLeDiff, Nat.reduceLT, Nat.reduceEqDiff, Nat.reduceBEq, Nat.reduceBNe, Int.reduceAdd, Int.reduceSub, Int.reduceMul, Int.reducePow, Int.reduceLE, Int.reduceLT, Int.reduceEq, Int.reduceToNat, Int.reduceNeg, reduceCtorEq, Nat.add_zero, Nat.zero_add, beq_self_eq_true, hd, dk, g0, Int.toNat_natCast, hb, dz, wrap_succ (show i < 2 ^ 63 - 1 by omega), lastFrom, hgd, hk, ne_eq, hz, not_false_eq_true]
        exact ih' i _ _ _ _ _ _ _ _ _ _ _ _ _ _ _ _ _ _ _ _ _ _ _ _ _ _ _ _ _ _ _ _ _ _ _ _ _ _ _ _ _ _ _ _ _ _ _ _ _ _ _ _ _ _ _ _ _ _ _ _ _ _ _ _ _ _ _ _ _ _ _ _ _ _ _ _ _ _ _ _ _ _ _ _ _ _ _ _ _ _ _ _ _ _ _ _ (by omega)
    · have dk : decide ((i : Int) < (keep.length : Int)) = false := by simp only [decide_eq_false_iff_not]; omega
      simp only [go_sem, Nat.reduceAdd, Nat.reduceSub, Nat.reduceMul, Nat.reduceDiv, Nat.reduceMod, Nat.reducePow, Nat.reduceLeDiff, Nat.reduceLT, Nat.reduceEqDiff, Nat.reduceBEq, Nat.reduceBNe, Int.reduceAdd, Int.reduceSub, Int.reduceMul, Int.reducePow, Int.reduceLE, Int.reduceLT, Int.reduceEq, Int.reduceToNat, Int.reduceNeg, reduceCtorEq, Nat.add_zero, Nat.zero_add, beq_self_eq_true, hd, dk, wrap_succ (show i < 2 ^ 63 - 1 by omega), lastFrom, hk, false_and]
      exact ih' acc _ _ _ _ _ _ _ _ _ _ _ _ _ _ _ _ _ _ _ _ _ _ _ _ _ _ _ _ _ _ _ _ _ _ _ _ _ _ _ _ _ _ _ _ _ _ _ _ _ _ _ _ _ _ _ _ _ _ _ _ _ _ _ _ _ _ _ _ _ _ _ _ _ _ _ _ _ _ _ _ _ _ _ _ _ _ _ _ _ _ _ _ _ _ _ _ (by omega)

theorem put65 (n : Nat) (s : Sec) (hs : s.length = 64) : putList (.int .i64 n :: [.int .u8 (0), .int .u8 (0), .int .u8 (0), .int .u8 (0), .int .u8 (0), .int .u8 (0), .int .u8 (0), .int .u8 (0), .int .u8 (0), .int .u8 (0), .int .u8 (0), .int .u8 (0), .int .u8 (0), .int .u8 (0), .int .u8 (0), .int .u8 (0), .int .u8 (0), .int .u8 (0), .int .u8 (0), .int .u8 (0), .int .u8 (0), .int .u8 (0), .int .u8 (0), .int .u8 (0), .int .u8 (0), .int .u8 (0), .int .u8 (0), .int .u8 (0), .int .u8 (0), .int .u8 (0), .int .u8 (0), .int .u8 (0), .int .u8 (0), .int .u8 (0), .int .u8 (0), .int .u8 (0), .int .u8 (0), .int .u8 (0), .int .u8 (0), .int .u8 (0), .int .u8 (0), .int .u8 (0), .int .u8 (0), .int .u8 (0), .int .u8 (0), .int .u8 (0), .int .u8 (0), .int .u8 (0), .int .u8 (0), .int .u8 (0), .int .u8 (0), .int .u8 (0), .int .u8 (0), .int .u8 (0), .int .u8 (0), .int .u8 (0), .int .u8 (0), .int .u8 (0), .int .u8 (0), .int .u8 (0), .int .u8 (0), .int .u8 (0), .int .u8 (0), .int .u8 (0)]) 1 (cellsB s) = .int .i64 n :: cellsB s := by
  have := putList_append [AVal.int .i64 n] (cellsB s) [.int .u8 (0), .int .u8 (0), .int .u8 (0), .int .u8 (0), .int .u8 (0), .int .u8 (0), .int .u8 (0), .int .u8 (0), .int .u8 (0), .int .u8 (0), .int .u8 (0), .int .u8 (0), .int .u8 (0), .int .u8 (0), .int .u8 (0), .int .u8 (0), .int .u8 (0), .int .u8 (0), .int .u8 (0), .int .u8 (0), .int .u8 (0), .int .u8 (0), .int .u8 (0), .int .u8 (0), .int .u8 (0), .int .u8 (0), .int .u8 (0), .int .u8 (0), .int .u8 (0), .int .u8 (0), .int .u8 (0), .int .u8 (0), .int .u8 (0), .int .u8 (0), .int .u8 (0), .int .u8 (0), .int .u8 (0), .int .u8 (0), .int .u8 (0), .int .u8 (0), .int .u8 (0), .int .u8 (0), .int .u8 (0), .int .u8 (0), .int .u8 (0), .int .u8 (0), .int .u8 (0), .int .u8 (0), .int .u8 (0), .int .u8 (0), .int .u8 (0), .int .u8 (0), .int .u8 (0), .int .u8 (0), .int .u8 (0), .int .u8 (0), .int .u8 (0), .int .u8 (0), .int .u8 (0), .int .u8 (0), .int .u8 (0), .int .u8 (0), .int .u8 (0), .int .u8 (0)] (by rw [cellsB_length, hs]; exact Nat.le_refl _)
  simp only [List.length_singleton, List.singleton_append] at this
  rw [this, cellsB_length, hs]
  simp

theorem putTake (o s : Sec) (k : Nat) (ho : o.length = 64) (hs : s.length = 64) : putList (cellsB o) 0 (List.take k (cellsB s)) = cellsB (s.take k ++ o.drop k) := by
  have := putList_append [] (List.take k (cellsB s)) (cellsB o) (by rw [List.length_take, cellsB_length, cellsB_length]; omega)
  simp only [List.nil_append, List.length_nil] at this
  rw [this, List.length_take, cellsB_length, hs]
  unfold cellsB
  rw [List.map_append, List.map_take, List.map_drop]
  congr 1
  by_cases hk : k ≤ 64
  · rw [Nat.min_eq_left hk]
  · rw [List.drop_eq_nil_of_le (by simp; omega), List.drop_eq_nil_of_le (by simp; omega)]
end Go.Proofs.Ytamcncpgfhfheaa.Tidy

/-
  A disk whose power is turned on again.
-/
namespace Go.Proofs.Ytamcncpgfhfheaa.Tidy
open Go Go.IntWalk
set_option maxRecDepth 10000
set_option linter.unusedSimpArgs false

def stormH (d : DiskS) (n0 n1 nw ga gb gc : Nat) (sf now : List Sec) (wr : List (Nat × Sec)) : Heap :=
  [diskB d (.ref 1 ga 0 n0 false) (.ref 2 gb 0 n1 false) (.ref 3 gc 0 nw false), .cells ga 64 true (sf.map secV), .cells gb 64 true (now.map secV), .cells gc 65 true (wr.map wrV)]

theorem minL64 (b : Nat) : minL .i64 (b : Int) [.int .i64 64] = some ((min b 64 : Nat) : Int) := by
  simp only [minL, if_true]
  by_cases h : (64 : Int) < (b : Int)
  · rw [if_pos h, show min b 64 = 64 by omega]; rfl
  · rw [if_neg h, show min b 64 = b by omega]

attribute [go_sem] under_cellsB

set_option maxHeartbeats 4000000 in
theorem torn_loop (keep : Sec) (last : Int) (hlast : last < keep.length) (d : DiskS) (n0 n1 ga gb gc : Nat) (now : List Sec) (wr : List (Nat × Sec)) (hwp : ∀ w ∈ wr, w.1 < n0) (hws : ∀ w ∈ wr, w.2.length = 64) (hwl : wr.length < 2 ^ 60) :
    ∀ (m i : Nat) (sf : List Sec) (j2 j3 j5 j6 j7 j8 j9 j10 j11 j12 j13 j14 j15 j16 j17 j18 j19 j20 j21 j22 j23 j24 j25 j26 j27 j28 j29 j30 j31 j32 j33 j34 j35 j36 j37 j41 j42 j43 j44 j45 j46 j47 j48 j49 j50 j51 j52 j53 j54 j55 j56 j57 j58 j59 j60 j61 j62 j63 j64 j65 j66 j67 j68 j69 j70 j71 j72 j73 j74 j75 j76 j77 j78 j79 j80 j81 j82 j83 j84 j85 j86 j87 j88 j89 j90 j91 j92 j93 j94 j95 j96 j97 j98 j99 j100 j101 : AVal), i + m = wr.length → sf.length = n0 → (∀ s ∈ sf, s.length = 64) →
    Goes (execT env (Try.f44.at [1, 1, 1, 0, 1, 0]) ⟨[.ptr 0 0 0 0, .str keep, j2, j3, .int .i64 last, j5, j6, j7, j8, j9, j10, j11, j12, j13, j14, j15, j16, j17, j18, j19, j20, j21, j22, j23, j24, j25, j26, j27, j28, j29, j30, j31, j32, j33, j34, j35, j36, j37, .ref 3 gc 0 wr.length false, .int .i64 wr.length, .int .i64 i, j41, j42, j43, j44, j45, j46, j47, j48, j49, j50, j51, j52, j53, j54, j55, j56, j57, j58, j59, j60, j61, j62, j63, j64, j65, j66, j67, j68, j69, j70, j71, j72, j73, j74, j75, j76, j77, j78, j79, j80, j81, j82, j83, j84, j85, j86, j87, j88, j89, j90, j91, j92, j93, j94, j95, j96, j97, j98, j99, j100, j101], stormH d n0 n1 wr.length ga gb gc sf now wr, [], 0, []⟩) fun e s => e = .exit 2 ∧
      ∃ j2 j3 j4 j5 j6 j7 j8 j9 j10 j11 j12 j13 j14 j15 j16 j17 j18 j19 j20 j21 j22 j23 j24 j25 j26 j27 j28 j29 j30 j31 j32 j33 j34 j35 j36 j37 j38 j39 j40 j41 j42 j43 j44 j45 j46 j47 j48 j49 j50 j51 j52 j53 j54 j55 j56 j57 j58 j59 j60 j61 j62 j63 j64 j65 j66 j67 j68 j69 j70 j71 j72 j73 j74 j75 j76 j77 j78 j79 j80 j81 j82 j83 j84 j85 j86 j87 j88 j89 j90 j91 j92 j93 j94 j95 j96 j97 j98 j99 j100 j101, s = ⟨[.ptr 0 0 0 0, .str keep, j2, j3, j4, j5, j6, j7, j8, j9, j10, j11, j12, j13, j14, j15, j16, j17, j18, j19, j20, j21, j22, j23, j24, j25, j26, j27, j28, j29, j30, j31, j32, j33, j34, j35, j36, j37, j38, j39, j40, j41, j42, j43, j44, j45, j46, j47, j48, j49, j50, j51, j52, j53, j54, j55, j56, j57, j58, j59, j60, j61, j62, j63, j64, j65, j66, j67, j68, j69, j70, j71, j72, j73, j74, j75, j76, j77, j78, j79, j80, j81, j82, j83, j84, j85, j86, j87, j88, j89, j90, j91, j92, j93, j94, j95, j96, j97, j98, j99, j100, j101], stormH d n0 n1 wr.length ga gb gc (tornAt keep last (wr.drop i) i sf) now wr, [], 0, []⟩ := by
  intro m
  induction m with
  | zero =>
    intro i sf j2 j3 j5 j6 j7 j8 j9 j10 j11 j12 j13 j14 j15 j16 j17 j18 j19 j20 j21 j22 j23 j24 j25 j26 j27 j28 j29 j30 j31 j32 j33 j34 j35 j36 j37 j41 j42 j43 j44 j45 j46 j47 j48 j49 j50 j51 j52 j53 j54 j55 j56 j57 j58 j59 j60 j61 j62 j63 j64 j65 j66 j67 j68 j69 j70 j71 j72 j73 j74 j75 j76 j77 j78 j79 j80 j81 j82 j83 j84 j85 j86 j87 j88 j89 j90 j91 j92 j93 j94 j95 j96 j97 j98 j99 j100 j101 hi hsf h64
    have hd : decide ((i : Int) < (wr.length : Int)) = false := by simp; omega
    have hdr : wr.drop i = [] := List.drop_eq_nil_of_le (by omega)
    simp only [go_sem, Nat.reduceAdd, Nat.reduceSub, Nat.reduceMul, Nat.reduceDiv, Nat.reduceMod, Nat.reducePow, Nat.reduceLeDiff, Nat.reduceLT, Nat.reduceEqDiff, Nat.reduceBEq, Nat.reduceBNe, Int.reduceAdd, Int.reduceSub, Int.reduceMul, Int.reducePow, Int.reduceLE, Int.reduceLT, Int.reduceEq, Int.reduceToNat, Int.reduceNeg, reduceCtorEq, Nat.add_zero, Nat.zero_add, beq_self_eq_true, Try.f44]
    rw [execT_loop]
    simp only [go_sem, Nat.reduceAdd, Nat.reduceSub, Nat.reduceMul, Nat.reduceDiv, Nat.reduceMod, Nat.reducePow, Nat.reduceLeDiff, Nat.reduceLT, Nat.reduceEqDiff, Nat.reduceBEq, Nat.reduceBNe, Int.reduceAdd, Int.reduceSub, Int.reduceMul, Int.reducePow, Int.reduceLE, Int.reduceLT, Int.reduceEq, Int.reduceToNat, Int.reduceNeg, reduceCtorEq, Nat.add_zero, Nat.zero_add, beq_self_eq_true, hd, hdr, tornAt]
    exact ⟨_, _, _, _, _, _, _, _, _, _, _, _, _, _, _, _, _, _, _, _, _, _, _, _, _, _, _, _, _, _, _, _, _, _, _, _, _, _, _, _, _, _, _, _, _, _, _, _, _, _, _, _, _, _, _, _, _, _, _, _, _, _, _, _, _, _, _, _, _, _, _, _, _, _, _, _, _, _, _, _, _, _, _, _, _, _, _, _, _, _, _, _, _, _, _, _, _, _, _, _, rfl⟩
  | succ m ih =>
    intro i sf j2 j3 j5 j6 j7 j8 j9 j10 j11 j12 j13 j14 j15 j16 j17 j18 j19 j20 j21 j22 j23 j24 j25 j26 j27 j28 j29 j30 j31 j32 j33 j34 j35 j36 j37 j41 j42 j43 j44 j45 j46 j47 j48 j49 j50 j51 j52 j53 j54 j55 j56 j57 j58 j59 j60 j61 j62 j63 j64 j65 j66 j67 j68 j69 j70 j71 j72 j73 j74 j75 j76 j77 j78 j79 j80 j81 j82 j83 j84 j85 j86 j87 j88 j89 j90 j91 j92 j93 j94 j95 j96 j97 j98 j99 j100 j101 hi hsf h64
    have hlt : i < wr.length := by omega
    have hd : decide ((i : Int) < (wr.length : Int)) = true := by simp; omega
    have g0 : (0 : Int) ≤ (i : Int) := by omega
    obtain ⟨w, hw, hdr⟩ := get_drop hlt
    have hwm : w ∈ wr := List.mem_of_getElem? hw
    have hp := hwp w hwm
    have hs := hws w hwm
    have hcl : (cellsB w.2).length = 64 := by rw [cellsB_length]; exact hs
    have htk : List.take 64 (cellsB w.2) = cellsB w.2 := List.take_of_length_le (by omega)
    have hgw : (wr.map wrV)[i]? = some (.agg (.int .i64 w.1 :: cellsB w.2)) := get_map hw
    obtain ⟨o, ho, _⟩ := get_drop (show w.1 < sf.length by omega)
    have hos := h64 o (List.mem_of_getElem? ho)
    have hol : (cellsB o).length = 64 := by rw [cellsB_length]; exact hos
    have hgo : (sf.map secV)[w.1]? = some (.agg (cellsB o)) := get_map ho
    have hod : sf.getD w.1 [] = o := by rw [List.getD_eq_getElem?_getD, ho]; rfl
    have dw : decide ((w.1 : Int) < (n0 : Int)) = true := by simp only [decide_eq_true_eq]; omega
    have gw : (0 : Int) ≤ (w.1 : Int) := by omega
    have h65 := put65 w.1 w.2 hs
    have hpa := putList_all (cellsB w.2) (cellsB o) (by omega)
    have hset : (sf.map secV).set w.1 (.agg (cellsB w.2)) = (sf.set w.1 w.2).map secV := by rw [List.map_set]; rfl
    rw [hdr]
    simp only [tornAt]
    by_cases hl : (i : Int) = last
    · have dl : decide ((i : Int) = last) = true := by simpa using hl
      have hk : i < keep.length := by omega
      obtain ⟨b, hb, _⟩ := get_drop hk
      have hgd : keep.getD i 0 = b := by rw [List.getD_eq_getElem?_getD, hb]; rfl
      have hwb : IntKind.i64.wrap (b.toNat : Int) = (b.toNat : Int) := i64_in _ (by have := b.toNat_lt; omega)
      have hmin := minL64 b.toNat
      have hm64 : min b.toNat 64 ≤ 64 := Nat.min_le_right _ _
      have gm : (0 : Int) ≤ ((min b.toNat 64 : Nat) : Int) := by omega
      have hpt := putTake o w.2 (min b.toNat 64) hos hs
      have hset2 : (sf.map secV).set w.1 (.agg (cellsB (w.2.take (min b.toNat 64) ++ o.drop (min b.toNat 64)))) = (sf.set w.1 (w.2.take (min b.toNat 64) ++ o.drop (min b.toNat 64))).map secV := by rw [List.map_set]; rfl
      have hall1 : (List.take (min b.toNat 64) (cellsB w.2)).all AVal.oneC = true := List.all_eq_true.2 fun x hx => List.all_eq_true.1 (oneC_cellsB w.2) x (List.mem_of_mem_take hx)
      have hall2 : (List.take (min b.toNat 64) (cellsB w.2)).all noRef = true := List.all_eq_true.2 fun x hx => List.all_eq_true.1 (noRef_cellsB w.2) x (List.mem_of_mem_take hx)
      have ih' := ih (i + 1) (sf.set w.1 (w.2.take (min b.toNat 64) ++ o.drop (min b.toNat 64)))
      simp only [go_sem, Nat.reduceAdd, Nat.reduceSub, Nat.reduceMul, Nat.reduceDiv, Nat.reduceMod, Nat.reducePow, Nat.reduceLeDiff, Nat.reduceLT, Nat.reduceEqDiff, Nat.reduceBEq, Nat.reduceBNe, Int.reduceAdd, Int.reduceSub, Int.reduceMul, Int.reducePow, Int.reduceLE, Int.reduceLT, Int.reduceEq, Int.reduceToNat, Int.reduceNeg, reduceCtorEq, Nat.add_zero, Nat.zero_add, beq_self_eq_true, Try.f44, stormH, diskB] at ih' ⊢
      rw [execT_loop, if_pos hl, hgd, hod]
      generalize min b.toNat 64 = k at *
      simp only [go_sem, Nat.reduceAdd, Nat.reduceSub, Nat.reduceMul, Nat.reduceDiv, Nat.reduceMod, Nat.reducePow, Nat.reduceLeDiff, Nat.reduceLT, Nat.reduceEqDiff, Nat.reduceBEq, Nat.reduceBNe, Int.reduceAdd, Int.reduceSub, Int.reduceMul, Int.reducePow, Int.reduceLE, Int.reduceLT, Int.reduceEq, Int.reduceToNat, Int.reduceNeg, reduceCtorEq, Nat.add_zero, Nat.zero_add, beq_self_eq_true, hd, g0, Int.toNat_natCast, hgw, hcl, htk, h65, dl, dw, gw, hb, hwb, hmin, gm, hgo, hol, hm64, sliceOp, hpt, hset2, hall1, hall2, Nat.zero_le, Nat.sub_zero]
      rw [apart_ok]
      · simp only [go_sem, Nat.reduceAdd, Nat.reduceSub, Nat.reduceMul, Nat.reduceDiv, Nat.reduceMod, Nat.reducePow, Nat.reduceLeDiff, Nat.reduceLT, Nat.reduceEqDiff, Nat.reduceBEq, Nat.reduceBNe, Int.reduceAdd, Int.reduceSub, Int.reduceMul, Int.reducePow, Int.reduceLE, Int.reduceLT, Int.reduceEq, Int.reduceToNat, Int.reduceNeg, reduceCtorEq, Nat.add_zero, Nat.zero_add, beq_self_eq_true, wrap_succ (show i < 2 ^ 63 - 1 by omega), trunc, underB]
        refine ih' _ _ _ _ _ _ _ _ _ _ _ _ _ _ _ _ _ _ _ _ _ _ _ _ _ _ _ _ _ _ _ _ _ _ _ _ _ _ _ _ _ _ _ _ _ _ _ _ _ _ _ _ _ _ _ _ _ _ _ _ _ _ _ _ _ _ _ _ _ _ _ _ _ _ _ _ _ _ _ _ _ _ _ _ _ _ _ _ _ _ _ _ _ _ _ _ (by omega) (by simpa using hsf) ?_
        intro x hx
        rcases List.mem_or_eq_of_mem_set hx with hx | rfl
        · exact h64 x hx
        · rw [List.length_append, List.length_take, List.length_drop]; omega
      · kernel_rfl
    · have dl : decide ((i : Int) = last) = false := by simpa using hl
      by_cases hll : (i : Int) < last
      · have dll : decide ((i : Int) < last) = true := by simpa using hll
        have hk : i < keep.length := by omega
        obtain ⟨b, hb, _⟩ := get_drop hk
        have hgd : keep.getD i 0 = b := by rw [List.getD_eq_getElem?_getD, hb]; rfl
        by_cases hz : b = 0
        · subst hz
          have dz : decide (((0 : UInt8).toNat : Int) = 0) = true := by decide
          have ih' := ih (i + 1) sf
          simp only [go_sem, Nat.reduceAdd, Nat.reduceSub, Nat.reduceMul, Nat.reduceDiv, Nat.reduceMod, Nat.reducePow, Nat.reduceLeDiff, Nat.reduceLT, Nat.reduceEqDiff, Nat.reduceBEq, Nat.reduceBNe, Int.reduceAdd, Int.reduceSub, Int.reduceMul, Int.reducePow, Int.reduceLE, Int.reduceLT, Int.reduceEq, Int.reduceToNat, Int.reduceNeg, reduceCtorEq, Nat.add_zero, Nat.zero_add, beq_self_eq_true, Try.f44, stormH, diskB] at ih' ⊢
          rw [execT_loop, if_neg hl, hgd, if_neg (by simp)]
          simp only [go_sem, Nat.reduceAdd, Nat.reduceSub, Nat.reduceMul, Nat.reduceDiv, Nat.reduceMod, Nat.reducePow, Nat.reduceLeDiff, Nat.reduceLT, Nat.reduceEqDiff, Nat.reduceBEq, Nat.reduceBNe, Int.reduceAdd, Int.reduceSub, Int.reduceMul, Int.reducePow, Int.reduceLE, Int.reduceLT, Int.reduceEq, Int.reduceToNat, Int.reduceNeg, reduceCtorEq, Nat.add_zero, Nat.zero_add, beq_self_eq_true, hd, g0, Int.toNat_natCast, hgw, hcl, htk, h65, dl, dll, hb, dz, wrap_succ (show i < 2 ^ 63 - 1 by omega), trunc, underB]
          exact ih' _ _ _ _ _ _ _ _ _ _ _ _ _ _ _ _ _ _ _ _ _ _ _ _ _ _ _ _ _ _ _ _ _ _ _ _ _ _ _ _ _ _ _ _ _ _ _ _ _ _ _ _ _ _ _ _ _ _ _ _ _ _ _ _ _ _ _ _ _ _ _ _ _ _ _ _ _ _ _ _ _ _ _ _ _ _ _ _ _ _ _ _ _ _ _ _ (by omega) hsf h64
        · have dz : decide ((b.toNat : Int) = 0) = false := by
            simp only [decide_eq_false_iff_not]
            intro h
            exact hz (UInt8.toNat_inj.1 (by rw [show (0 : UInt8).toNat = 0 from rfl]; omega))
          have ih' := ih (i + 1) (sf.set w.1 w.2)
          simp only [go_sem, Nat.reduceAdd, Nat.reduceSub, Nat.reduceMul, Nat.reduceDiv, Nat.reduceMod, Nat.reducePow, Nat.reduceLeDiff, Nat.reduceLT, Nat.reduceEqDiff, Nat.reduceBEq, Nat.reduceBNe, Int.reduceAdd, Int.reduceSub, Int.reduceMul, Int.reducePow, Int.reduceLE, Int.reduceLT, Int.reduceEq, Int.reduceToNat, Int.reduceNeg, reduceCtorEq, Nat.add_zero, Nat.zero_add, beq_self_eq_true, Try.f44, stormH, diskB] at ih' ⊢
          rw [execT_loop, if_neg hl, hgd, if_pos ⟨hll, hz⟩]
          simp only [go_sem, Nat.reduceAdd, Nat.reduceSub, Nat.reduceMul, Nat.reduceDiv, Nat.reduceMod, Nat.reducePow, Nat.reduceLeDiff, Nat.reduceLT, Nat.reduceEqDiff, Nat.reduceBEq, Nat.reduceBNe, Int.reduceAdd, Int.reduceSub, Int.reduceMul, Int.reducePow, Int.reduceLE, Int.reduceLT, Int.reduceEq, Int.reduceToNat, Int.reduceNeg, reduceCtorEq, Nat.add_zero, Nat.zero_add, beq_self_eq_true, hd, g0, Int.toNat_natCast, hgw, hcl, htk, h65, dl, dll, hb, dz, dw, gw, hgo, hol, hpa, hset]
          rw [apart_ok]
          · simp only [go_sem, Nat.reduceAdd, Nat.reduceSub, Nat.reduceMul, Nat.reduceDiv, Nat.reduceMod, Nat.reducePow, Nat.reduceLeDiff, Nat.reduceLT, Nat.reduceEqDiff, Nat.reduceBEq, Nat.reduceBNe, Int.reduceAdd, Int.reduceSub, Int.reduceMul, Int.reducePow, Int.reduceLE, Int.reduceLT, Int.reduceEq, Int.reduceToNat, Int.reduceNeg, reduceCtorEq, Nat.add_zero, Nat.zero_add, beq_self_eq_true, wrap_succ (show i < 2 ^ 63 - 1 by omega), trunc, underB]
            refine ih' _ _ _ _ _ _ _ _ _ _ _ _ _ _ _ _ _ _ _ _ _ _ _ _ _ _ _ _ _ _ _ _ _ _ _ _ _ _ _ _ _ _ _ _ _ _ _ _ _ _ _ _ _ _ _ _ _ _ _ _ _ _ _ _ _ _ _ _ _ _ _ _ _ _ _ _ _ _ _ _ _ _ _ _ _ _ _ _ _ _ _ _ _ _ _ _ (by omega) (by simpa using hsf) ?_
            intro x hx
            rcases List.mem_or_eq_of_mem_set hx with hx | rfl
            · exact h64 x hx
            · exact hs
          · kernel_rfl
      · have dll : decide ((i : Int) < last) = false := by simpa using hll
        have ih' := ih (i + 1) sf
        simp only [go_sem, Nat.reduceAdd, Nat.reduceSub, Nat.reduceMul, Nat.reduceDiv, Nat.reduceMod, Nat.reducePow, Nat.reduceLeDiff, Nat.reduceLT, Nat.reduceEqDiff, Nat.reduceBEq, Nat.reduceBNe, Int.reduceAdd, Int.reduceSub, Int.reduceMul, Int.reducePow, Int.reduceLE, Int.reduceLT, Int.reduceEq, Int.reduceToNat, Int.reduceNeg, reduceCtorEq, Nat.add_zero, Nat.zero_add, beq_self_eq_true, Try.f44, stormH, diskB] at ih' ⊢
        rw [execT_loop, if_neg hl, if_neg (by rintro ⟨h, _⟩; exact hll h)]
        simp only [go_sem, Nat.reduceAdd, Nat.reduceSub, Nat.reduceMul, Nat.reduceDiv, Nat.reduceMod, Nat.reducePow, Nat.reduceLeDiff, Nat.reduceLT, Nat.reduceEqDiff, Nat.reduceBEq, Nat.reduceBNe, Int.reduceAdd, Int.reduceSub, Int.reduceMul, Int.reducePow, Int.reduceLE, Int.reduceLT, Int.reduceEq, Int.reduceToNat, Int.reduceNeg, reduceCtorEq, Nat.add_zero, Nat.zero_add, beq_self_eq_true, hd, g0, Int.toNat_natCast, hgw, hcl, htk, h65, dl, dll, wrap_succ (show i < 2 ^ 63 - 1 by omega), trunc, underB]
        exact ih' _ _ _ _ _ _ _ _ _ _ _ _ _ _ _ _ _ _ _ _ _ _ _ _ _ _ _ _ _ _ _ _ _ _ _ _ _ _ _ _ _ _ _ _ _ _ _ _ _ _ _ _ _ _ _ _ _ _ _ _ _ _ _ _ _ _ _ _ _ _ _ _ _ _ _ _ _ _ _ _ _ _ _ _ _ _ _ _ _ _ _ _ _ _ _ _ (by omega) hsf h64
end Go.Proofs.Ytamcncpgfhfheaa.Tidy

/-
  A disk of the reference whose power is turned on again: the loops.
-/
namespace Go.Proofs.Ytamcncpgfhfheaa.Tidy
open Go Go.IntWalk
set_option maxRecDepth 10000
set_option linter.unusedSimpArgs false

theorem lastFrom_over (keep : Sec) : ∀ (m i : Nat) (acc : Int), keep.length ≤ i → lastFrom keep m i acc = acc
  | 0, _, _, _ => rfl
  | m + 1, i, acc, h => by
    simp only [lastFrom]
    rw [if_neg (by omega)]
    exact lastFrom_over keep m (i + 1) acc (by omega)

theorem tornAt_over (keep : Sec) (last : Int) : ∀ (ws : List (Nat × Sec)) (i : Nat) (sf : List Sec), last < i → tornAt keep last ws i sf = sf
  | [], _, _, _ => rfl
  | w :: ws, i, sf, h => by
    simp only [tornAt]
    rw [if_neg (by omega), if_neg (by omega)]
    exact tornAt_over keep last ws (i + 1) sf (by omega)

set_option maxHeartbeats 2000000 in
theorem rlast_loop (keep : Sec) (d : DiskS) (n0 n1 ga gb gc : Nat) (sf now : List Sec) (wr : List (Nat × Sec)) (hn : wr.length < 2 ^ 60) : ∀ (m i : Nat) (acc : Int) (j2 j3 j6 j7 j8 j9 j10 j11 j12 j13 j14 j15 j16 j17 j18 j19 j20 j21 j22 j23 j24 j25 j26 j27 j28 j29 j30 j31 j32 j33 j34 j35 j36 j37 j38 j39 j40 j41 j42 j43 j44 j45 j46 j47 j48 j49 j50 j51 j52 j53 j54 j55 j56 j57 j58 j59 j60 j61 j62 j63 j64 j65 j66 j67 j68 j69 j70 j71 j72 j73 j74 j75 j76 j77 j78 j79 j80 j81 j82 j83 j84 j85 j86 j87 j88 j89 j90 j91 j92 j93 j94 j95 j96 j97 j98 j99 j100 j101 j102 j103 j104 j105 j106 j107 j108 j109 j110 j111 j112 j113 j114 j115 j116 j117 j118 j119 j120 j121 j122 j123 j124 j125 j126 : AVal), i + m = wr.length →
    Goes (execT env (Try.f45.at [1, 1, 0, 1, 0]) ⟨[.ptr 0 0 0 0, .str keep, j2, j3, .int .i64 acc, .int .i64 i, j6, j7, j8, j9, j10, j11, j12, j13, j14, j15, j16, j17, j18, j19, j20, j21, j22, j23, j24, j25, j26, j27, j28, j29, j30, j31, j32, j33, j34, j35, j36, j37, j38, j39, j40, j41, j42, j43, j44, j45, j46, j47, j48, j49, j50, j51, j52, j53, j54, j55, j56, j57, j58, j59, j60, j61, j62, j63, j64, j65, j66, j67, j68, j69, j70, j71, j72, j73, j74, j75, j76, j77, j78, j79, j80, j81, j82, j83, j84, j85, j86, j87, j88, j89, j90, j91, j92, j93, j94, j95, j96, j97, j98, j99, j100, j101, j102, j103, j104, j105, j106, j107, j108, j109, j110, j111, j112, j113, j114, j115, j116, j117, j118, j119, j120, j121, j122, j123, j124, j125, j126], rstormH d n0 n1 wr.length ga gb gc sf now wr, [], 0, []⟩) fun e s => e = .exit 0 ∧
      ∃ j2 j3 j5 j6 j7 j8 j9 j10 j11 j12 j13 j14 j15 j16 j17 j18 j19 j20 j21 j22 j23 j24 j25 j26 j27 j28 j29 j30 j31 j32 j33 j34 j35 j36 j37 j38 j39 j40 j41 j42 j43 j44 j45 j46 j47 j48 j49 j50 j51 j52 j53 j54 j55 j56 j57 j58 j59 j60 j61 j62 j63 j64 j65 j66 j67 j68 j69 j70 j71 j72 j73 j74 j75 j76 j77 j78 j79 j80 j81 j82 j83 j84 j85 j86 j87 j88 j89 j90 j91 j92 j93 j94 j95 j96 j97 j98 j99 j100 j101 j102 j103 j104 j105 j106 j107 j108 j109 j110 j111 j112 j113 j114 j115 j116 j117 j118 j119 j120 j121 j122 j123 j124 j125 j126, s = ⟨[.ptr 0 0 0 0, .str keep, j2, j3, .int .i64 (lastFrom keep m i acc), j5, j6, j7, j8, j9, j10, j11, j12, j13, j14, j15, j16, j17, j18, j19, j20, j21, j22, j23, j24, j25, j26, j27, j28, j29, j30, j31, j32, j33, j34, j35, j36, j37, j38, j39, j40, j41, j42, j43, j44, j45, j46, j47, j48, j49, j50, j51, j52, j53, j54, j55, j56, j57, j58, j59, j60, j61, j62, j63, j64, j65, j66, j67, j68, j69, j70, j71, j72, j73, j74, j75, j76, j77, j78, j79, j80, j81, j82, j83, j84, j85, j86, j87, j88, j89, j90, j91, j92, j93, j94, j95, j96, j97, j98, j99, j100, j101, j102, j103, j104, j105, j106, j107, j108, j109, j110, j111, j112, j113, j114, j115, j116, j117, j118, j119, j120, j121, j122, j123, j124, j125, j126], rstormH d n0 n1 wr.length ga gb gc sf now wr, [], 0, []⟩ := by
  intro m
  induction m with
  | zero =>
    intro i acc j2 j3 j6 j7 j8 j9 j10 j11 j12 j13 j14 j15 j16 j17 j18 j19 j20 j21 j22 j23 j24 j25 j26 j27 j28 j29 j30 j31 j32 j33 j34 j35 j36 j37 j38 j39 j40 j41 j42 j43 j44 j45 j46 j47 j48 j49 j50 j51 j52 j53 j54 j55 j56 j57 j58 j59 j60 j61 j62 j63 j64 j65 j66 j67 j68 j69 j70 j71 j72 j73 j74 j75 j76 j77 j78 j79 j80 j81 j82 j83 j84 j85 j86 j87 j88 j89 j90 j91 j92 j93 j94 j95 j96 j97 j98 j99 j100 j101 j102 j103 j104 j105 j106 j107 j108 j109 j110 j111 j112 j113 j114 j115 j116 j117 j118 j119 j120 j121 j122 j123 j124 j125 j126 hi
    have hd : decide ((i : Int) < (wr.length : Int)) = false := by simp; omega
    simp only [go_sem, Nat.reduceAdd, Nat.reduceSub, Nat.reduceMul, Nat.reduceDiv, Nat.reduceMod, Nat.reducePow, Nat.reduceLeDiff, Nat.reduceLT, Nat.reduceEqDiff, Nat.reduceBEq, Nat.reduceBNe, Int.reduceAdd, Int.reduceSub, Int.reduceMul, Int.reducePow, Int.reduceLE, Int.reduceLT, Int.reduceEq, Int.reduceToNat, Int.reduceNeg, reduceCtorEq, Nat.add_zero, Nat.zero_add, beq_self_eq_true, Try.f45, rstormH, rdiskB]
    rw [execT_loop]
    simp only [go_sem, Nat.reduceAdd, Nat.reduceSub, Nat.reduceMul, Nat.reduceDiv, Nat.reduceMod, Nat.reducePow, Nat.reduceLeDiff, Nat.reduceLT, Nat.reduceEqDiff, Nat.reduceBEq, Nat.reduceBNe, Int.reduceAdd, Int.reduceSub, Int.reduceMul, Int.reducePow, Int.reduceLE, Int.reduceLT, Int.reduceEq, Int.reduceToNat, Int.reduceNeg, reduceCtorEq, Nat.add_zero, Nat.zero_add, beq_self_eq_true, hd, lastFrom]
    exact ⟨_, _, _, _, _, _, _, _, _, _, _, _, _, _, _, _, _, _, _, _, _, _, _, _, _, _, _, _, _, _, _, _, _, _, _, _, _, _, _, _, _, _, _, _, _, _, _, _, _, _, _, _, _, _, _, _, _, _, _, _, _, _, _, _, _, _, _, _, _, _, _, _, _, _, _, _, _, _, _, _, _, _, _, _, _, _, _, _, _, _, _, _, _, _, _, _, _, _, _, _, _, _, _, _, _, _, _, _, _, _, _, _, _, _, _, _, _, _, _, _, _, _, _, _, rfl⟩
  | succ m ih =>
    intro i acc j2 j3 j6 j7 j8 j9 j10 j11 j12 j13 j14 j15 j16 j17 j18 j19 j20 j21 j22 j23 j24 j25 j26 j27 j28 j29 j30 j31 j32 j33 j34 j35 j36 j37 j38 j39 j40 j41 j42 j43 j44 j45 j46 j47 j48 j49 j50 j51 j52 j53 j54 j55 j56 j57 j58 j59 j60 j61 j62 j63 j64 j65 j66 j67 j68 j69 j70 j71 j72 j73 j74 j75 j76 j77 j78 j79 j80 j81 j82 j83 j84 j85 j86 j87 j88 j89 j90 j91 j92 j93 j94 j95 j96 j97 j98 j99 j100 j101 j102 j103 j104 j105 j106 j107 j108 j109 j110 j111 j112 j113 j114 j115 j116 j117 j118 j119 j120 j121 j122 j123 j124 j125 j126 hi
    have hd : decide ((i : Int) < (wr.length : Int)) = true := by simp; omega
    have g0 : (0 : Int) ≤ (i : Int) := by omega
    have ih' := ih (i + 1)
    simp only [go_sem, Nat.reduceAdd, Nat.reduceSub, Nat.reduceMul, Nat.reduceDiv, Nat.reduceMod, Nat.reducePow, Nat.reduceLeDiff, Nat.reduceLT, Nat.reduceEqDiff, Nat.reduceBEq, Nat.reduceBNe, Int.reduceAdd, Int.reduceSub, Int.reduceMul, Int.reducePow, Int.reduceLE, Int.reduceLT, Int.reduceEq, Int.reduceToNat, Int.reduceNeg, reduceCtorEq, Nat.add_zero, Nat.zero_add, beq_self_eq_true, Try.f45, rstormH, rdiskB] at ih' ⊢
    rw [execT_loop]
    by_cases hk : i < keep.length
    · have dk : decide ((i : Int) < (keep.length : Int)) = true := by simp only [decide_eq_true_eq]; omega
      obtain ⟨b, hb, _⟩ := get_drop hk
      have hgd : keep.getD i 0 = b := by rw [List.getD_eq_getElem?_getD, hb]; rfl
      by_cases hz : b = 0
      · subst hz
        have dz : decide (((0 : UInt8).toNat : Int) = 0) = true := by decide
        simp only [go_sem, Nat.reduceAdd, Nat.reduceSub, Nat.reduceMul, Nat.reduceDiv, Nat.reduceMod, Nat.reducePow, Nat.reduceLeDiff, Nat.reduceLT, Nat.reduceEqDiff, Nat.reduceBEq, Nat.reduceBNe, Int.reduceAdd, Int.reduceSub, Int.reduceMul, Int.reducePow, Int.reduceLE, Int.reduceLT, Int.reduceEq, Int.reduceToNat, Int.reduceNeg, reduceCtorEq, Nat.add_zero, Nat.zero_add, beq_self_eq_true, hd, dk, g0, Int.toNat_natCast, hb, dz, wrap_succ (show i < 2 ^ 63 - 1 by omega), lastFrom, hgd, hk, ne_eq, not_true_eq_false, and_false]
        exact ih' acc _ _ _ _ _ _ _ _ _ _ _ _ _ _ _ _ _ _ _ _ _ _ _ _ _ _ _ _ _ _ _ _ _ _ _ _ _ _ _ _ _ _ _ _ _ _ _ _ _ _ _ _ _ _ _ _ _ _ _ _ _ _ _ _ _ _ _ _ _ _ _ _ _ _ _ _ _ _ _ _ _ _ _ _ _ _ _ _ _ _ _ _ _ _ _ _ _ _ _ _ _ _ _ _ _ _ _ _ _ _ _ _ _ _ _ _ _ _ _ _ _ _ _ (by omega)
      · have dz : decide ((b.toNat : Int) = 0) = false := by
          simp only [decide_eq_false_iff_not]
          intro h
          exact hz (UInt8.toNat_inj.1 (by rw [show (0 : UInt8).toNat = 0 from rfl]; omega))
        simp only [go_sem, Nat.reduceAdd, Nat.reduceSub, Nat.reduceMul, Nat.reduceDiv, Nat.reduceMod, Nat.reducePow, Nat.reduceLeDiff, Nat.reduceLT, Nat.reduceEqDiff, Nat.reduceBEq, Nat.reduceBNe, Int.reduceAdd, Int.reduceSub, Int.reduceMul, Int.reducePow, Int.reduceLE, Int.reduceLT, Int.reduceEq, Int.reduceToNat, Int.reduceNeg, reduceCtorEq, Nat.add_zero, Nat.zero_add, beq_self_eq_true, hd, dk, g0, Int.toNat_natCast, hb, dz, wrap_succ (show i < 2 ^ 63 - 1 by omega), lastFrom, hgd, hk, ne_eq, hz, not_false_eq_true]
        exact ih' i _ _ _ _ _ _ _ _ _ _ _ _ _ _ _ _ _ _ _ _ _ _ _ _ _ _ _ _ _ _ _ _ _ _ _ _ _ _ _ _ _ _ _ _ _ _ _ _ _ _ _ _ _ _ _ _ _ _ _ _ _ _ _ _ _ _ _ _ _ _ _ _ _ _ _ _ _ _ _ _ _ _ _ _ _ _ _ _ _ _ _ _ _ _ _ _ _ _ _ _ _ _ _ _ _ _ _ _ _ _ _ _ _ _ _ _ _ _ _ _ _ _ _ (by omega)
    · have dk : decide ((i : Int) < (keep.length : Int)) = false := by simp only [decide_eq_false_iff_not]; omega
      rw [lastFrom_over keep (m + 1) i acc (by omega)]
      simp only [go_sem, Nat.reduceAdd, Nat.reduceSub, Nat.reduceMul, Nat.reduceDiv, Nat.reduceMod, Nat.reducePow, Nat.reduceLeDiff, Nat.reduceLT, Nat.reduceEqDiff, Nat.reduceBEq, Nat.reduceBNe, Int.reduceAdd, Int.reduceSub, Int.reduceMul, Int.reducePow, Int.reduceLE, Int.reduceLT, Int.reduceEq, Int.reduceToNat, Int.reduceNeg, reduceCtorEq, Nat.add_zero, Nat.zero_add, beq_self_eq_true, hd, dk]
      exact ⟨_, _, _, _, _, _, _, _, _, _, _, _, _, _, _, _, _, _, _, _, _, _, _, _, _, _, _, _, _, _, _, _, _, _, _, _, _, _, _, _, _, _, _, _, _, _, _, _, _, _, _, _, _, _, _, _, _, _, _, _, _, _, _, _, _, _, _, _, _, _, _, _, _, _, _, _, _, _, _, _, _, _, _, _, _, _, _, _, _, _, _, _, _, _, _, _, _, _, _, _, _, _, _, _, _, _, _, _, _, _, _, _, _, _, _, _, _, _, _, _, _, _, _, _, rfl⟩

set_option maxHeartbeats 4000000 in
theorem rtorn_loop (keep : Sec) (last : Int) (hlast : last < keep.length) (hlz : ∀ r : Nat, (r : Int) = last → keep.getD r 0 ≠ 0) (d : DiskS) (n0 n1 ga gb gc : Nat) (now : List Sec) (wr : List (Nat × Sec)) (hlw : last < wr.length) (hwp : ∀ w ∈ wr, w.1 < n0) (hws : ∀ w ∈ wr, w.2.length = 64) (hwl : wr.length < 2 ^ 60) :
    ∀ (m i : Nat) (sf : List Sec) (j2 j3 j5 j7 j8 j9 j10 j11 j12 j13 j14 j15 j16 j17 j18 j19 j20 j21 j22 j23 j24 j25 j26 j27 j28 j29 j30 j31 j32 j33 j34 j35 j36 j37 j38 j39 j40 j41 j42 j43 j44 j45 j46 j47 j48 j49 j50 j51 j52 j53 j54 j55 j56 j57 j58 j59 j60 j61 j62 j63 j64 j65 j66 j67 j68 j69 j70 j71 j72 j73 j74 j75 j76 j77 j78 j79 j80 j81 j82 j83 j84 j85 j86 j87 j88 j89 j90 j91 j92 j93 j94 j95 j96 j97 j98 j99 j100 j101 j102 j103 j104 j105 j106 j107 j108 j109 j110 j111 j112 j113 j114 j115 j116 j117 j118 j119 j120 j121 j122 j123 j124 j125 j126 : AVal), i + m = wr.length → sf.length = n0 → (∀ s ∈ sf, s.length = 64) →
    Goes (execT env (Try.f45.at [1, 1, 1, 0, 1, 0]) ⟨[.ptr 0 0 0 0, .str keep, j2, j3, .int .i64 last, j5, .int .i64 i, j7, j8, j9, j10, j11, j12, j13, j14, j15, j16, j17, j18, j19, j20, j21, j22, j23, j24, j25, j26, j27, j28, j29, j30, j31, j32, j33, j34, j35, j36, j37, j38, j39, j40, j41, j42, j43, j44, j45, j46, j47, j48, j49, j50, j51, j52, j53, j54, j55, j56, j57, j58, j59, j60, j61, j62, j63, j64, j65, j66, j67, j68, j69, j70, j71, j72, j73, j74, j75, j76, j77, j78, j79, j80, j81, j82, j83, j84, j85, j86, j87, j88, j89, j90, j91, j92, j93, j94, j95, j96, j97, j98, j99, j100, j101, j102, j103, j104, j105, j106, j107, j108, j109, j110, j111, j112, j113, j114, j115, j116, j117, j118, j119, j120, j121, j122, j123, j124, j125, j126], rstormH d n0 n1 wr.length ga gb gc sf now wr, [], 0, []⟩) fun e s => e = .exit 2 ∧
      ∃ j2 j3 j4 j5 j6 j7 j8 j9 j10 j11 j12 j13 j14 j15 j16 j17 j18 j19 j20 j21 j22 j23 j24 j25 j26 j27 j28 j29 j30 j31 j32 j33 j34 j35 j36 j37 j38 j39 j40 j41 j42 j43 j44 j45 j46 j47 j48 j49 j50 j51 j52 j53 j54 j55 j56 j57 j58 j59 j60 j61 j62 j63 j64 j65 j66 j67 j68 j69 j70 j71 j72 j73 j74 j75 j76 j77 j78 j79 j80 j81 j82 j83 j84 j85 j86 j87 j88 j89 j90 j91 j92 j93 j94 j95 j96 j97 j98 j99 j100 j101 j102 j103 j104 j105 j106 j107 j108 j109 j110 j111 j112 j113 j114 j115 j116 j117 j118 j119 j120 j121 j122 j123 j124 j125 j126, s = ⟨[.ptr 0 0 0 0, .str keep, j2, j3, j4, j5, j6, j7, j8, j9, j10, j11, j12, j13, j14, j15, j16, j17, j18, j19, j20, j21, j22, j23, j24, j25, j26, j27, j28, j29, j30, j31, j32, j33, j34, j35, j36, j37, j38, j39, j40, j41, j42, j43, j44, j45, j46, j47, j48, j49, j50, j51, j52, j53, j54, j55, j56, j57, j58, j59, j60, j61, j62, j63, j64, j65, j66, j67, j68, j69, j70, j71, j72, j73, j74, j75, j76, j77, j78, j79, j80, j81, j82, j83, j84, j85, j86, j87, j88, j89, j90, j91, j92, j93, j94, j95, j96, j97, j98, j99, j100, j101, j102, j103, j104, j105, j106, j107, j108, j109, j110, j111, j112, j113, j114, j115, j116, j117, j118, j119, j120, j121, j122, j123, j124, j125, j126], rstormH d n0 n1 wr.length ga gb gc (tornAt keep last (wr.drop i) i sf) now wr, [], 0, []⟩ := by
  intro m
  induction m with
  | zero =>
    intro i sf j2 j3 j5 j7 j8 j9 j10 j11 j12 j13 j14 j15 j16 j17 j18 j19 j20 j21 j22 j23 j24 j25 j26 j27 j28 j29 j30 j31 j32 j33 j34 j35 j36 j37 j38 j39 j40 j41 j42 j43 j44 j45 j46 j47 j48 j49 j50 j51 j52 j53 j54 j55 j56 j57 j58 j59 j60 j61 j62 j63 j64 j65 j66 j67 j68 j69 j70 j71 j72 j73 j74 j75 j76 j77 j78 j79 j80 j81 j82 j83 j84 j85 j86 j87 j88 j89 j90 j91 j92 j93 j94 j95 j96 j97 j98 j99 j100 j101 j102 j103 j104 j105 j106 j107 j108 j109 j110 j111 j112 j113 j114 j115 j116 j117 j118 j119 j120 j121 j122 j123 j124 j125 j126 hi hsf h64
    have hd : decide ((i : Int) ≤ last) = false := by simp; omega
    have hdr : wr.drop i = [] := List.drop_eq_nil_of_le (by omega)
    simp only [go_sem, Nat.reduceAdd, Nat.reduceSub, Nat.reduceMul, Nat.reduceDiv, Nat.reduceMod, Nat.reducePow, Nat.reduceLeDiff, Nat.reduceLT, Nat.reduceEqDiff, Nat.reduceBEq, Nat.reduceBNe, Int.reduceAdd, Int.reduceSub, Int.reduceMul, Int.reducePow, Int.reduceLE, Int.reduceLT, Int.reduceEq, Int.reduceToNat, Int.reduceNeg, reduceCtorEq, Nat.add_zero, Nat.zero_add, beq_self_eq_true, Try.f45, rstormH, rdiskB]
    rw [execT_loop]
    simp only [go_sem, Nat.reduceAdd, Nat.reduceSub, Nat.reduceMul, Nat.reduceDiv, Nat.reduceMod, Nat.reducePow, Nat.reduceLeDiff, Nat.reduceLT, Nat.reduceEqDiff, Nat.reduceBEq, Nat.reduceBNe, Int.reduceAdd, Int.reduceSub, Int.reduceMul, Int.reducePow, Int.reduceLE, Int.reduceLT, Int.reduceEq, Int.reduceToNat, Int.reduceNeg, reduceCtorEq, Nat.add_zero, Nat.zero_add, beq_self_eq_true, hd, hdr, tornAt]
    exact ⟨_, _, _, _, _, _, _, _, _, _, _, _, _, _, _, _, _, _, _, _, _, _, _, _, _, _, _, _, _, _, _, _, _, _, _, _, _, _, _, _, _, _, _, _, _, _, _, _, _, _, _, _, _, _, _, _, _, _, _, _, _, _, _, _, _, _, _, _, _, _, _, _, _, _, _, _, _, _, _, _, _, _, _, _, _, _, _, _, _, _, _, _, _, _, _, _, _, _, _, _, _, _, _, _, _, _, _, _, _, _, _, _, _, _, _, _, _, _, _, _, _, _, _, _, _, rfl⟩
  | succ m ih =>
    intro i sf j2 j3 j5 j7 j8 j9 j10 j11 j12 j13 j14 j15 j16 j17 j18 j19 j20 j21 j22 j23 j24 j25 j26 j27 j28 j29 j30 j31 j32 j33 j34 j35 j36 j37 j38 j39 j40 j41 j42 j43 j44 j45 j46 j47 j48 j49 j50 j51 j52 j53 j54 j55 j56 j57 j58 j59 j60 j61 j62 j63 j64 j65 j66 j67 j68 j69 j70 j71 j72 j73 j74 j75 j76 j77 j78 j79 j80 j81 j82 j83 j84 j85 j86 j87 j88 j89 j90 j91 j92 j93 j94 j95 j96 j97 j98 j99 j100 j101 j102 j103 j104 j105 j106 j107 j108 j109 j110 j111 j112 j113 j114 j115 j116 j117 j118 j119 j120 j121 j122 j123 j124 j125 j126 hi hsf h64
    by_cases hle : (i : Int) ≤ last
    rotate_left
    · have hd : decide ((i : Int) ≤ last) = false := by simpa using hle
      rw [tornAt_over keep last _ _ _ (by omega)]
      simp only [go_sem, Nat.reduceAdd, Nat.reduceSub, Nat.reduceMul, Nat.reduceDiv, Nat.reduceMod, Nat.reducePow, Nat.reduceLeDiff, Nat.reduceLT, Nat.reduceEqDiff, Nat.reduceBEq, Nat.reduceBNe, Int.reduceAdd, Int.reduceSub, Int.reduceMul, Int.reducePow, Int.reduceLE, Int.reduceLT, Int.reduceEq, Int.reduceToNat, Int.reduceNeg, reduceCtorEq, Nat.add_zero, Nat.zero_add, beq_self_eq_true, Try.f45, rstormH, rdiskB]
      rw [execT_loop]
      simp only [go_sem, Nat.reduceAdd, Nat.reduceSub, Nat.reduceMul, Nat.reduceDiv, Nat.reduceMod, Nat.reducePow, Nat.reduceLeDiff, Nat.reduceLT, Nat.reduceEqDiff, Nat.reduceBEq, Nat.reduceBNe, Int.reduceAdd, Int.reduceSub, Int.reduceMul, Int.reducePow, Int.reduceLE, Int.reduceLT, Int.reduceEq, Int.reduceToNat, Int.reduceNeg, reduceCtorEq, Nat.add_zero, Nat.zero_add, beq_self_eq_true, hd]
      exact ⟨_, _, _, _, _, _, _, _, _, _, _, _, _, _, _, _, _, _, _, _, _, _, _, _, _, _, _, _, _, _, _, _, _, _, _, _, _, _, _, _, _, _, _, _, _, _, _, _, _, _, _, _, _, _, _, _, _, _, _, _, _, _, _, _, _, _, _, _, _, _, _, _, _, _, _, _, _, _, _, _, _, _, _, _, _, _, _, _, _, _, _, _, _, _, _, _, _, _, _, _, _, _, _, _, _, _, _, _, _, _, _, _, _, _, _, _, _, _, _, _, _, _, _, _, _, rfl⟩
    have hlt : i < wr.length := by omega
    have hd : decide ((i : Int) ≤ last) = true := by simpa using hle
    have g0 : (0 : Int) ≤ (i : Int) := by omega
    have dlw : decide ((i : Int) < (wr.length : Int)) = true := by simp only [decide_eq_true_eq]; omega
    obtain ⟨w, hw, hdr⟩ := get_drop hlt
    have hwm : w ∈ wr := List.mem_of_getElem? hw
    have hp := hwp w hwm
    have hs := hws w hwm
    have hgw : (wr.map rwrV)[i]? = some (.agg [.int .i64 w.1, .str w.2]) := get_map hw
    obtain ⟨o, ho, _⟩ := get_drop (show w.1 < sf.length by omega)
    have hos := h64 o (List.mem_of_getElem? ho)
    have hgo : (sf.map AVal.str)[w.1]? = some (.str o) := get_map ho
    have hod : sf.getD w.1 [] = o := by rw [List.getD_eq_getElem?_getD, ho]; rfl
    have dw : decide ((w.1 : Int) < (n0 : Int)) = true := by simp only [decide_eq_true_eq]; omega
    have gw : (0 : Int) ≤ (w.1 : Int) := by omega
    have hk : i < keep.length := by omega
    obtain ⟨b, hb, _⟩ := get_drop hk
    have hgd : keep.getD i 0 = b := by rw [List.getD_eq_getElem?_getD, hb]; rfl
    have hset : ∀ s : Sec, (sf.map AVal.str).set w.1 (.str s) = (sf.set w.1 s).map .str := fun s => by rw [List.map_set]
    rw [hdr]
    simp only [tornAt]
    by_cases hz : b = 0
    · have hl : ¬ (i : Int) = last := fun h => hlz i h (by rw [hgd, hz])
      subst hz
      have dz : decide (((0 : UInt8).toNat : Int) = 0) = true := by decide
      have ih' := ih (i + 1) sf
      simp only [go_sem, Nat.reduceAdd, Nat.reduceSub, Nat.reduceMul, Nat.reduceDiv, Nat.reduceMod, Nat.reducePow, Nat.reduceLeDiff, Nat.reduceLT, Nat.reduceEqDiff, Nat.reduceBEq, Nat.reduceBNe, Int.reduceAdd, Int.reduceSub, Int.reduceMul, Int.reducePow, Int.reduceLE, Int.reduceLT, Int.reduceEq, Int.reduceToNat, Int.reduceNeg, reduceCtorEq, Nat.add_zero, Nat.zero_add, beq_self_eq_true, Try.f45, rstormH, rdiskB] at ih' ⊢
      rw [execT_loop, if_neg hl, hgd, if_neg (by simp)]
      simp only [go_sem, Nat.reduceAdd, Nat.reduceSub, Nat.reduceMul, Nat.reduceDiv, Nat.reduceMod, Nat.reducePow, Nat.reduceLeDiff, Nat.reduceLT, Nat.reduceEqDiff, Nat.reduceBEq, Nat.reduceBNe, Int.reduceAdd, Int.reduceSub, Int.reduceMul, Int.reducePow, Int.reduceLE, Int.reduceLT, Int.reduceEq, Int.reduceToNat, Int.reduceNeg, reduceCtorEq, Nat.add_zero, Nat.zero_add, beq_self_eq_true, hd, g0, Int.toNat_natCast, hb, dz, wrap_succ (show i < 2 ^ 63 - 1 by omega)]
      exact ih' _ _ _ _ _ _ _ _ _ _ _ _ _ _ _ _ _ _ _ _ _ _ _ _ _ _ _ _ _ _ _ _ _ _ _ _ _ _ _ _ _ _ _ _ _ _ _ _ _ _ _ _ _ _ _ _ _ _ _ _ _ _ _ _ _ _ _ _ _ _ _ _ _ _ _ _ _ _ _ _ _ _ _ _ _ _ _ _ _ _ _ _ _ _ _ _ _ _ _ _ _ _ _ _ _ _ _ _ _ _ _ _ _ _ _ _ _ _ _ _ _ _ _ (by omega) hsf h64
    · have dz : decide ((b.toNat : Int) = 0) = false := by
        simp only [decide_eq_false_iff_not]
        intro h
        exact hz (UInt8.toNat_inj.1 (by rw [show (0 : UInt8).toNat = 0 from rfl]; omega))
      by_cases hl : (i : Int) = last
      · have dl : decide ((i : Int) = last) = true := by simpa using hl
        have hwb : IntKind.i64.wrap (b.toNat : Int) = (b.toNat : Int) := i64_in _ (by have := b.toNat_lt; omega)
        have hmin := minL64 b.toNat
        have hm64 : min b.toNat 64 ≤ 64 := Nat.min_le_right _ _
        have gm : (0 : Int) ≤ ((min b.toNat 64 : Nat) : Int) := by omega
        have ih' := ih (i + 1) (sf.set w.1 (w.2.take (min b.toNat 64) ++ o.drop (min b.toNat 64)))
        simp only [go_sem, Nat.reduceAdd, Nat.reduceSub, Nat.reduceMul, Nat.reduceDiv, Nat.reduceMod, Nat.reducePow, Nat.reduceLeDiff, Nat.reduceLT, Nat.reduceEqDiff, Nat.reduceBEq, Nat.reduceBNe, Int.reduceAdd, Int.reduceSub, Int.reduceMul, Int.reducePow, Int.reduceLE, Int.reduceLT, Int.reduceEq, Int.reduceToNat, Int.reduceNeg, reduceCtorEq, Nat.add_zero, Nat.zero_add, beq_self_eq_true, Try.f45, rstormH, rdiskB] at ih' ⊢
        rw [execT_loop, if_pos hl, hgd, hod]
        generalize min b.toNat 64 = k at *
        have hmx : k + (64 - k) ≤ maxBytes := by unfold maxBytes; omega
        have htk : List.take (64 - k) (List.drop k o) = List.drop k o := List.take_of_length_le (by rw [List.length_drop]; omega)
        have hlk : (List.take k w.2).length = k := by rw [List.length_take]; omega
        have hld : (List.drop k o).length = 64 - k := by rw [List.length_drop]; omega
        simp only [go_sem, Nat.reduceAdd, Nat.reduceSub, Nat.reduceMul, Nat.reduceDiv, Nat.reduceMod, Nat.reducePow, Nat.reduceLeDiff, Nat.reduceLT, Nat.reduceEqDiff, Nat.reduceBEq, Nat.reduceBNe, Int.reduceAdd, Int.reduceSub, Int.reduceMul, Int.reducePow, Int.reduceLE, Int.reduceLT, Int.reduceEq, Int.reduceToNat, Int.reduceNeg, reduceCtorEq, Nat.add_zero, Nat.zero_add, beq_self_eq_true, hd, g0, Int.toNat_natCast, hgw, dl, dlw, dw, gw, hb, dz, hwb, hmin, gm, hgo, hm64, sliceOp, hs, hos, Nat.zero_le, Nat.sub_zero, htk, hlk, hld, hmx, hset]
        rw [apart_ok]
        · simp only [go_sem, Nat.reduceAdd, Nat.reduceSub, Nat.reduceMul, Nat.reduceDiv, Nat.reduceMod, Nat.reducePow, Nat.reduceLeDiff, Nat.reduceLT, Nat.reduceEqDiff, Nat.reduceBEq, Nat.reduceBNe, Int.reduceAdd, Int.reduceSub, Int.reduceMul, Int.reducePow, Int.reduceLE, Int.reduceLT, Int.reduceEq, Int.reduceToNat, Int.reduceNeg, reduceCtorEq, Nat.add_zero, Nat.zero_add, beq_self_eq_true, wrap_succ (show i < 2 ^ 63 - 1 by omega), trunc, underB]
          refine ih' _ _ _ _ _ _ _ _ _ _ _ _ _ _ _ _ _ _ _ _ _ _ _ _ _ _ _ _ _ _ _ _ _ _ _ _ _ _ _ _ _ _ _ _ _ _ _ _ _ _ _ _ _ _ _ _ _ _ _ _ _ _ _ _ _ _ _ _ _ _ _ _ _ _ _ _ _ _ _ _ _ _ _ _ _ _ _ _ _ _ _ _ _ _ _ _ _ _ _ _ _ _ _ _ _ _ _ _ _ _ _ _ _ _ _ _ _ _ _ _ _ _ _ (by omega) (by simpa using hsf) ?_
          intro x hx
          rcases List.mem_or_eq_of_mem_set hx with hx | rfl
          · exact h64 x hx
          · rw [List.length_append, hlk, hld]; omega
        · kernel_rfl
      · have dl : decide ((i : Int) = last) = false := by simpa using hl
        have ih' := ih (i + 1) (sf.set w.1 w.2)
        simp only [go_sem, Nat.reduceAdd, Nat.reduceSub, Nat.reduceMul, Nat.reduceDiv, Nat.reduceMod, Nat.reducePow, Nat.reduceLeDiff, Nat.reduceLT, Nat.reduceEqDiff, Nat.reduceBEq, Nat.reduceBNe, Int.reduceAdd, Int.reduceSub, Int.reduceMul, Int.reducePow, Int.reduceLE, Int.reduceLT, Int.reduceEq, Int.reduceToNat, Int.reduceNeg, reduceCtorEq, Nat.add_zero, Nat.zero_add, beq_self_eq_true, Try.f45, rstormH, rdiskB] at ih' ⊢
        rw [execT_loop, if_neg hl, hgd, if_pos ⟨by omega, hz⟩]
        simp only [go_sem, Nat.reduceAdd, Nat.reduceSub, Nat.reduceMul, Nat.reduceDiv, Nat.reduceMod, Nat.reducePow, Nat.reduceLeDiff, Nat.reduceLT, Nat.reduceEqDiff, Nat.reduceBEq, Nat.reduceBNe, Int.reduceAdd, Int.reduceSub, Int.reduceMul, Int.reducePow, Int.reduceLE, Int.reduceLT, Int.reduceEq, Int.reduceToNat, Int.reduceNeg, reduceCtorEq, Nat.add_zero, Nat.zero_add, beq_self_eq_true, hd, g0, Int.toNat_natCast, hgw, dl, dlw, dw, gw, hb, dz, hgo, hset]
        rw [apart_ok]
        · simp only [go_sem, Nat.reduceAdd, Nat.reduceSub, Nat.reduceMul, Nat.reduceDiv, Nat.reduceMod, Nat.reducePow, Nat.reduceLeDiff, Nat.reduceLT, Nat.reduceEqDiff, Nat.reduceBEq, Nat.reduceBNe, Int.reduceAdd, Int.reduceSub, Int.reduceMul, Int.reducePow, Int.reduceLE, Int.reduceLT, Int.reduceEq, Int.reduceToNat, Int.reduceNeg, reduceCtorEq, Nat.add_zero, Nat.zero_add, beq_self_eq_true, wrap_succ (show i < 2 ^ 63 - 1 by omega), trunc, underB]
          refine ih' _ _ _ _ _ _ _ _ _ _ _ _ _ _ _ _ _ _ _ _ _ _ _ _ _ _ _ _ _ _ _ _ _ _ _ _ _ _ _ _ _ _ _ _ _ _ _ _ _ _ _ _ _ _ _ _ _ _ _ _ _ _ _ _ _ _ _ _ _ _ _ _ _ _ _ _ _ _ _ _ _ _ _ _ _ _ _ _ _ _ _ _ _ _ _ _ _ _ _ _ _ _ _ _ _ _ _ _ _ _ _ _ _ _ _ _ _ _ _ _ _ _ _ (by omega) (by simpa using hsf) ?_
          intro x hx
          rcases List.mem_or_eq_of_mem_set hx with hx | rfl
          · exact h64 x hx
          · exact hs
        · kernel_rfl
end Go.Proofs.Ytamcncpgfhfheaa.Tidy

/-
  A disk whose power is turned on again, whole.
-/
namespace Go.Proofs.Ytamcncpgfhfheaa.Tidy
open Go Go.IntWalk
set_option maxRecDepth 10000
set_option linter.unusedSimpArgs false

/-- a disk as it should be -/
structure DiskS.wf (d : DiskS) : Prop where
  pos : 1 ≤ d.safe.length
  few : d.safe.length ≤ 4096
  same : d.now.length = d.safe.length
  safe : ∀ s ∈ d.safe, s.length = 64
  now : ∀ s ∈ d.now, s.length = 64
  wr : ∀ w ∈ d.wr, w.1 < d.safe.length ∧ w.2.length = 64

theorem tornAt_length (keep : Sec) (last : Int) : ∀ (ws : List (Nat × Sec)) (i : Nat) (sf : List Sec), (tornAt keep last ws i sf).length = sf.length
  | [], _, _ => rfl
  | w :: ws, i, sf => by
    simp only [tornAt]
    rw [tornAt_length keep last ws]
    split
    · simp
    · split <;> simp

theorem last_lt (keep : Sec) (n : Nat) : lastFrom keep n 0 (-1) < keep.length := by
  rcases lastFrom_spec keep n 0 (-1) with h | ⟨r, h, _, _, h2, _⟩
  · rw [h]; omega
  · rw [h]; omega

set_option maxHeartbeats 4000000 in
theorem restart_run (d : DiskS) (hwf : d.wf) (hwl : d.wr.length < 2 ^ 60) (keep : Sec) : ∀ C, IsCan C d → ∃ H' F', runT env 44 [.ptr 0 0 0 0, .str keep] C 0 = some (.ret (.tuple []), H') ∧ DiskAt H' 0 (restartD d keep) F' ∧ C.length ≤ H'.length := by
  intro C h
  rw [run_unfold fn44 rfl]
  have z0 : decide ((0 : Int) < ((0 : Nat) : Int)) = false := by decide
  cases hdn : d.down with
  | true =>
    rcases h with ⟨hw, ga, gb, rfl⟩ | ⟨hw, ga, gb, gc, rfl⟩
    · have hsf : restartD d keep = { d with now := d.safe, wr := [], armed := 0, down := false } := by
        simp only [restartD, hw, List.length_nil, lastFrom, tornAt, hdn, if_true]
      have hcl := fun ro nx => clone_call (l := d.safe) (by intro h; have := hwf.pos; rw [h] at this; simp at this) hwf.few (H := canD d ga gb) (b := 1) (gb := ga) rfl ro nx
      simp only [canD, diskB, hdn] at hcl
      simp only [go_sem, Nat.reduceAdd, Nat.reduceSub, Nat.reduceMul, Nat.reduceDiv, Nat.reduceMod, Nat.reducePow, Nat.reduceLeDiff, Nat.reduceLT, Nat.reduceEqDiff, Nat.reduceBEq, Nat.reduceBNe, Int.reduceAdd, Int.reduceSub, Int.reduceMul, Int.reducePow, Int.reduceLE, Int.reduceLT, Int.reduceEq, Int.reduceToNat, Int.reduceNeg, reduceCtorEq, Nat.add_zero, Nat.zero_add, beq_self_eq_true, Try.f44, canD, diskB, hdn]
      rw [execT_loop]
      simp only [go_sem, Nat.reduceAdd, Nat.reduceSub, Nat.reduceMul, Nat.reduceDiv, Nat.reduceMod, Nat.reducePow, Nat.reduceLeDiff, Nat.reduceLT, Nat.reduceEqDiff, Nat.reduceBEq, Nat.reduceBNe, Int.reduceAdd, Int.reduceSub, Int.reduceMul, Int.reducePow, Int.reduceLE, Int.reduceLT, Int.reduceEq, Int.reduceToNat, Int.reduceNeg, reduceCtorEq, Nat.add_zero, Nat.zero_add, beq_self_eq_true, z0]
      rw [execT_loop]
      simp only [go_sem, Nat.reduceAdd, Nat.reduceSub, Nat.reduceMul, Nat.reduceDiv, Nat.reduceMod, Nat.reducePow, Nat.reduceLeDiff, Nat.reduceLT, Nat.reduceEqDiff, Nat.reduceBEq, Nat.reduceBNe, Int.reduceAdd, Int.reduceSub, Int.reduceMul, Int.reducePow, Int.reduceLE, Int.reduceLT, Int.reduceEq, Int.reduceToNat, Int.reduceNeg, reduceCtorEq, Nat.add_zero, Nat.zero_add, beq_self_eq_true, z0, hcl, unwind, modeEx, resultsOf, one]
      rw [hsf]
      exact ⟨_, [0, 1, 3], rfl, ⟨1, ga, 3, 0, _, rfl, rfl, rfl, .inl ⟨rfl, rfl, rfl⟩, by decide⟩, Nat.le_succ 3⟩
    · have hcl := fun ro nx => clone_call (l := tornAt keep (lastFrom keep d.wr.length 0 (-1)) d.wr 0 d.safe) (by intro h; have := hwf.pos; rw [← tornAt_length keep (lastFrom keep d.wr.length 0 (-1)) d.wr 0 d.safe, h] at this; simp at this) (by rw [tornAt_length]; exact hwf.few)
        (H := stormH d d.safe.length d.now.length d.wr.length ga gb gc (tornAt keep (lastFrom keep d.wr.length 0 (-1)) d.wr 0 d.safe) d.now d.wr) (b := 1) (gb := ga) rfl ro nx
      rw [tornAt_length] at hcl
      obtain ⟨e, s, hx, rfl, hp0⟩ := last_loop keep (.ptr 0 0 0 0) (.ref 3 gc 0 d.wr.length false) d.wr.length (by omega) (canW d ga gb gc) 0 d.wr.length 0 (-1) _ _ _ _ _ _ _ _ _ _ _ _ _ _ _ _ _ _ _ _ _ _ _ _ _ _ _ _ _ _ _ _ _ _ _ _ _ _ _ _ _ _ _ _ _ _ _ _ _ _ _ _ _ _ _ _ _ _ _ _ _ _ _ _ _ _ _ _ _ _ _ _ _ _ _ _ _ _ _ _ _ _ _ _ _ _ _ _ _ _ _ _ _ _ _ _ (by omega)
      revert hx
      have hxx := hp0
      refine Exists.elim hxx fun j2 hxx => Exists.elim hxx fun j3 hxx => Exists.elim hxx fun j5 hxx => Exists.elim hxx fun j6 hxx => Exists.elim hxx fun j7 hxx => Exists.elim hxx fun j8 hxx => Exists.elim hxx fun j9 hxx => Exists.elim hxx fun j10 hxx => Exists.elim hxx fun j11 hxx => Exists.elim hxx fun j12 hxx => Exists.elim hxx fun j13 hxx => Exists.elim hxx fun j14 hxx => Exists.elim hxx fun j15 hxx => Exists.elim hxx fun j16 hxx => Exists.elim hxx fun j17 hxx => Exists.elim hxx fun j18 hxx => Exists.elim hxx fun j19 hxx => Exists.elim hxx fun j20 hxx => Exists.elim hxx fun j21 hxx => Exists.elim hxx fun j22 hxx => Exists.elim hxx fun j23 hxx => Exists.elim hxx fun j24 hxx => Exists.elim hxx fun j25 hxx => Exists.elim hxx fun j26 hxx => Exists.elim hxx fun j27 hxx => Exists.elim hxx fun j28 hxx => Exists.elim hxx fun j29 hxx => Exists.elim hxx fun j30 hxx => Exists.elim hxx fun j31 hxx => Exists.elim hxx fun j32 hxx => Exists.elim hxx fun j33 hxx => Exists.elim hxx fun j34 hxx => Exists.elim hxx fun j35 hxx => Exists.elim hxx fun j36 hxx => Exists.elim hxx fun j37 hxx => Exists.elim hxx fun j38 hxx => Exists.elim hxx fun j39 hxx => Exists.elim hxx fun j40 hxx => Exists.elim hxx fun j41 hxx => Exists.elim hxx fun j42 hxx => Exists.elim hxx fun j43 hxx => Exists.elim hxx fun j44 hxx => Exists.elim hxx fun j45 hxx => Exists.elim hxx fun j46 hxx => Exists.elim hxx fun j47 hxx => Exists.elim hxx fun j48 hxx => Exists.elim hxx fun j49 hxx => Exists.elim hxx fun j50 hxx => Exists.elim hxx fun j51 hxx => Exists.elim hxx fun j52 hxx => Exists.elim hxx fun j53 hxx => Exists.elim hxx fun j54 hxx => Exists.elim hxx fun j55 hxx => Exists.elim hxx fun j56 hxx => Exists.elim hxx fun j57 hxx => Exists.elim hxx fun j58 hxx => Exists.elim hxx fun j59 hxx => Exists.elim hxx fun j60 hxx => Exists.elim hxx fun j61 hxx => Exists.elim hxx fun j62 hxx => Exists.elim hxx fun j63 hxx => Exists.elim hxx fun j64 hxx => Exists.elim hxx fun j65 hxx => Exists.elim hxx fun j66 hxx => Exists.elim hxx fun j67 hxx => Exists.elim hxx fun j68 hxx => Exists.elim hxx fun j69 hxx => Exists.elim hxx fun j70 hxx => Exists.elim hxx fun j71 hxx => Exists.elim hxx fun j72 hxx => Exists.elim hxx fun j73 hxx => Exists.elim hxx fun j74 hxx => Exists.elim hxx fun j75 hxx => Exists.elim hxx fun j76 hxx => Exists.elim hxx fun j77 hxx => Exists.elim hxx fun j78 hxx => Exists.elim hxx fun j79 hxx => Exists.elim hxx fun j80 hxx => Exists.elim hxx fun j81 hxx => Exists.elim hxx fun j82 hxx => Exists.elim hxx fun j83 hxx => Exists.elim hxx fun j84 hxx => Exists.elim hxx fun j85 hxx => Exists.elim hxx fun j86 hxx => Exists.elim hxx fun j87 hxx => Exists.elim hxx fun j88 hxx => Exists.elim hxx fun j89 hxx => Exists.elim hxx fun j90 hxx => Exists.elim hxx fun j91 hxx => Exists.elim hxx fun j92 hxx => Exists.elim hxx fun j93 hxx => Exists.elim hxx fun j94 hxx => Exists.elim hxx fun j95 hxx => Exists.elim hxx fun j96 hxx => Exists.elim hxx fun j97 hxx => Exists.elim hxx fun j98 hxx => Exists.elim hxx fun j99 hxx => Exists.elim hxx fun j100 hxx => Exists.elim hxx fun j101 hxx => ?_
      subst hxx
      intro hx
      obtain ⟨e, s', hy, rfl, hp1⟩ := torn_loop keep (lastFrom keep d.wr.length 0 (-1)) (last_lt keep _) d d.safe.length d.now.length ga gb gc d.now d.wr (fun w hw => (hwf.wr w hw).1) (fun w hw => (hwf.wr w hw).2) hwl d.wr.length 0 d.safe _ _ _ _ _ _ _ _ _ _ _ _ _ _ _ _ _ _ _ _ _ _ _ _ _ _ _ _ _ _ _ _ _ _ _ _ _ _ _ _ _ _ _ _ _ _ _ _ _ _ _ _ _ _ _ _ _ _ _ _ _ _ _ _ _ _ _ _ _ _ _ _ _ _ _ _ _ _ _ _ _ _ _ _ _ _ _ _ _ _ _ _ _ _ _ _ (by omega) rfl hwf.safe
      revert hy
      have hxx := hp1
      refine Exists.elim hxx fun k2 hxx => Exists.elim hxx fun k3 hxx => Exists.elim hxx fun k4 hxx => Exists.elim hxx fun k5 hxx => Exists.elim hxx fun k6 hxx => Exists.elim hxx fun k7 hxx => Exists.elim hxx fun k8 hxx => Exists.elim hxx fun k9 hxx => Exists.elim hxx fun k10 hxx => Exists.elim hxx fun k11 hxx => Exists.elim hxx fun k12 hxx => Exists.elim hxx fun k13 hxx => Exists.elim hxx fun k14 hxx => Exists.elim hxx fun k15 hxx => Exists.elim hxx fun k16 hxx => Exists.elim hxx fun k17 hxx => Exists.elim hxx fun k18 hxx => Exists.elim hxx fun k19 hxx => Exists.elim hxx fun k20 hxx => Exists.elim hxx fun k21 hxx => Exists.elim hxx fun k22 hxx => Exists.elim hxx fun k23 hxx => Exists.elim hxx fun k24 hxx => Exists.elim hxx fun k25 hxx => Exists.elim hxx fun k26 hxx => Exists.elim hxx fun k27 hxx => Exists.elim hxx fun k28 hxx => Exists.elim hxx fun k29 hxx => Exists.elim hxx fun k30 hxx => Exists.elim hxx fun k31 hxx => Exists.elim hxx fun k32 hxx => Exists.elim hxx fun k33 hxx => Exists.elim hxx fun k34 hxx => Exists.elim hxx fun k35 hxx => Exists.elim hxx fun k36 hxx => Exists.elim hxx fun k37 hxx => Exists.elim hxx fun k38 hxx => Exists.elim hxx fun k39 hxx => Exists.elim hxx fun k40 hxx => Exists.elim hxx fun k41 hxx => Exists.elim hxx fun k42 hxx => Exists.elim hxx fun k43 hxx => Exists.elim hxx fun k44 hxx => Exists.elim hxx fun k45 hxx => Exists.elim hxx fun k46 hxx => Exists.elim hxx fun k47 hxx => Exists.elim hxx fun k48 hxx => Exists.elim hxx fun k49 hxx => Exists.elim hxx fun k50 hxx => Exists.elim hxx fun k51 hxx => Exists.elim hxx fun k52 hxx => Exists.elim hxx fun k53 hxx => Exists.elim hxx fun k54 hxx => Exists.elim hxx fun k55 hxx => Exists.elim hxx fun k56 hxx => Exists.elim hxx fun k57 hxx => Exists.elim hxx fun k58 hxx => Exists.elim hxx fun k59 hxx => Exists.elim hxx fun k60 hxx => Exists.elim hxx fun k61 hxx => Exists.elim hxx fun k62 hxx => Exists.elim hxx fun k63 hxx => Exists.elim hxx fun k64 hxx => Exists.elim hxx fun k65 hxx => Exists.elim hxx fun k66 hxx => Exists.elim hxx fun k67 hxx => Exists.elim hxx fun k68 hxx => Exists.elim hxx fun k69 hxx => Exists.elim hxx fun k70 hxx => Exists.elim hxx fun k71 hxx => Exists.elim hxx fun k72 hxx => Exists.elim hxx fun k73 hxx => Exists.elim hxx fun k74 hxx => Exists.elim hxx fun k75 hxx => Exists.elim hxx fun k76 hxx => Exists.elim hxx fun k77 hxx => Exists.elim hxx fun k78 hxx => Exists.elim hxx fun k79 hxx => Exists.elim hxx fun k80 hxx => Exists.elim hxx fun k81 hxx => Exists.elim hxx fun k82 hxx => Exists.elim hxx fun k83 hxx => Exists.elim hxx fun k84 hxx => Exists.elim hxx fun k85 hxx => Exists.elim hxx fun k86 hxx => Exists.elim hxx fun k87 hxx => Exists.elim hxx fun k88 hxx => Exists.elim hxx fun k89 hxx => Exists.elim hxx fun k90 hxx => Exists.elim hxx fun k91 hxx => Exists.elim hxx fun k92 hxx => Exists.elim hxx fun k93 hxx => Exists.elim hxx fun k94 hxx => Exists.elim hxx fun k95 hxx => Exists.elim hxx fun k96 hxx => Exists.elim hxx fun k97 hxx => Exists.elim hxx fun k98 hxx => Exists.elim hxx fun k99 hxx => Exists.elim hxx fun k100 hxx => Exists.elim hxx fun k101 hxx => ?_
      subst hxx
      intro hy
      simp only [go_sem, Nat.reduceAdd, Nat.reduceSub, Nat.reduceMul, Nat.reduceDiv, Nat.reduceMod, Nat.reducePow, Nat.reduceLeDiff, Nat.reduceLT, Nat.reduceEqDiff, Nat.reduceBEq, Nat.reduceBNe, Int.reduceAdd, Int.reduceSub, Int.reduceMul, Int.reducePow, Int.reduceLE, Int.reduceLT, Int.reduceEq, Int.reduceToNat, Int.reduceNeg, reduceCtorEq, Nat.add_zero, Nat.zero_add, beq_self_eq_true, Try.f44, Int.ofNat_zero, Int.natCast_zero, canW, stormH, diskB, hdn, List.drop_zero] at hx hy hcl
      simp only [go_sem, Nat.reduceAdd, Nat.reduceSub, Nat.reduceMul, Nat.reduceDiv, Nat.reduceMod, Nat.reducePow, Nat.reduceLeDiff, Nat.reduceLT, Nat.reduceEqDiff, Nat.reduceBEq, Nat.reduceBNe, Int.reduceAdd, Int.reduceSub, Int.reduceMul, Int.reducePow, Int.reduceLE, Int.reduceLT, Int.reduceEq, Int.reduceToNat, Int.reduceNeg, reduceCtorEq, Nat.add_zero, Nat.zero_add, beq_self_eq_true, Try.f44, canW, diskB, hdn]
      rw [hx]
      simp only [go_sem, Nat.reduceAdd, Nat.reduceSub, Nat.reduceMul, Nat.reduceDiv, Nat.reduceMod, Nat.reducePow, Nat.reduceLeDiff, Nat.reduceLT, Nat.reduceEqDiff, Nat.reduceBEq, Nat.reduceBNe, Int.reduceAdd, Int.reduceSub, Int.reduceMul, Int.reducePow, Int.reduceLE, Int.reduceLT, Int.reduceEq, Int.reduceToNat, Int.reduceNeg, reduceCtorEq, Nat.add_zero, Nat.zero_add, beq_self_eq_true]
      rw [hy]
      simp only [go_sem, Nat.reduceAdd, Nat.reduceSub, Nat.reduceMul, Nat.reduceDiv, Nat.reduceMod, Nat.reducePow, Nat.reduceLeDiff, Nat.reduceLT, Nat.reduceEqDiff, Nat.reduceBEq, Nat.reduceBNe, Int.reduceAdd, Int.reduceSub, Int.reduceMul, Int.reducePow, Int.reduceLE, Int.reduceLT, Int.reduceEq, Int.reduceToNat, Int.reduceNeg, reduceCtorEq, Nat.add_zero, Nat.zero_add, beq_self_eq_true, hcl, unwind, modeEx, resultsOf, one]
      have hsf : restartD d keep = { d with safe := tornAt keep (lastFrom keep d.wr.length 0 (-1)) d.wr 0 d.safe, now := tornAt keep (lastFrom keep d.wr.length 0 (-1)) d.wr 0 d.safe, wr := [], armed := 0, down := false } := by
        simp only [restartD, hdn, if_true]
      have hlen := tornAt_length keep (lastFrom keep d.wr.length 0 (-1)) d.wr 0 d.safe
      rw [hsf]
      refine ⟨_, [0, 1, 4], rfl, ⟨1, ga, 4, 0, _, ?_, rfl, rfl, .inl ⟨rfl, rfl, rfl⟩, by decide⟩, Nat.le_succ 4⟩
      simp only [List.getElem?_cons_zero, diskB, hlen]
  | false =>
    obtain ⟨us, C1, hc, hp, hd, hl1⟩ := can_obj (f := 102) (args := []) rfl rfl rfl rfl rfl rfl h (off_can h)
    rcases h with ⟨hw, ga, gb, rfl⟩ | ⟨hw, ga, gb, gc, rfl⟩
    · rcases hd with ⟨hw1, ga1, gb1, rfl⟩ | ⟨hw1, _⟩
      rotate_left
      · exact absurd hw hw1
      have hsf : restartD d keep = { d with now := d.safe, wr := [], armed := 0, down := false, falls := IntKind.i64.wrap (d.falls + 1) } := by
        simp only [restartD, hw, List.length_nil, lastFrom, tornAt, hdn, Bool.false_eq_true, if_false]
      have hcl := fun ro nx => clone_call (l := d.safe) (by intro h; have := hwf.pos; rw [h] at this; simp at this) hwf.few (H := canD (offD d) ga1 gb1) (b := 1) (gb := ga1) rfl ro nx
      simp only [canD, diskB, hdn, offD] at hcl
      simp only [canD, diskB, offD, hdn, List.length_cons, List.length_nil, Nat.reduceAdd, Nat.zero_add] at hc hp
      simp only [go_sem, Nat.reduceAdd, Nat.reduceSub, Nat.reduceMul, Nat.reduceDiv, Nat.reduceMod, Nat.reducePow, Nat.reduceLeDiff, Nat.reduceLT, Nat.reduceEqDiff, Nat.reduceBEq, Nat.reduceBNe, Int.reduceAdd, Int.reduceSub, Int.reduceMul, Int.reducePow, Int.reduceLE, Int.reduceLT, Int.reduceEq, Int.reduceToNat, Int.reduceNeg, reduceCtorEq, Nat.add_zero, Nat.zero_add, beq_self_eq_true, Try.f44, canD, diskB, hdn, hc, hp]
      rw [execT_loop]
      simp only [go_sem, Nat.reduceAdd, Nat.reduceSub, Nat.reduceMul, Nat.reduceDiv, Nat.reduceMod, Nat.reducePow, Nat.reduceLeDiff, Nat.reduceLT, Nat.reduceEqDiff, Nat.reduceBEq, Nat.reduceBNe, Int.reduceAdd, Int.reduceSub, Int.reduceMul, Int.reducePow, Int.reduceLE, Int.reduceLT, Int.reduceEq, Int.reduceToNat, Int.reduceNeg, reduceCtorEq, Nat.add_zero, Nat.zero_add, beq_self_eq_true, z0]
      rw [execT_loop]
      simp only [go_sem, Nat.reduceAdd, Nat.reduceSub, Nat.reduceMul, Nat.reduceDiv, Nat.reduceMod, Nat.reducePow, Nat.reduceLeDiff, Nat.reduceLT, Nat.reduceEqDiff, Nat.reduceBEq, Nat.reduceBNe, Int.reduceAdd, Int.reduceSub, Int.reduceMul, Int.reducePow, Int.reduceLE, Int.reduceLT, Int.reduceEq, Int.reduceToNat, Int.reduceNeg, reduceCtorEq, Nat.add_zero, Nat.zero_add, beq_self_eq_true, z0, hcl, unwind, modeEx, resultsOf, one]
      rw [hsf]
      exact ⟨_, [0, 1, 3], rfl, ⟨1, ga1, 3, 0, _, rfl, rfl, rfl, .inl ⟨rfl, rfl, rfl⟩, by decide⟩, Nat.le_succ 3⟩
    · rcases hd with ⟨hw1, _⟩ | ⟨hw1, ga1, gb1, gc1, rfl⟩
      · exact absurd hw1 hw
      have hcl := fun ro nx => clone_call (l := tornAt keep (lastFrom keep d.wr.length 0 (-1)) d.wr 0 d.safe) (by intro h; have := hwf.pos; rw [← tornAt_length keep (lastFrom keep d.wr.length 0 (-1)) d.wr 0 d.safe, h] at this; simp at this) (by rw [tornAt_length]; exact hwf.few)
        (H := stormH (offD d) d.safe.length d.now.length d.wr.length ga1 gb1 gc1 (tornAt keep (lastFrom keep d.wr.length 0 (-1)) d.wr 0 d.safe) d.now d.wr) (b := 1) (gb := ga1) rfl ro nx
      rw [tornAt_length] at hcl
      obtain ⟨e, s, hx, rfl, hp0⟩ := last_loop keep (.ptr 0 0 0 0) (.ref 3 gc1 0 d.wr.length false) d.wr.length (by omega) (canW (offD d) ga1 gb1 gc1) 0 d.wr.length 0 (-1) _ _ _ _ _ _ _ _ _ _ _ _ _ _ _ _ _ _ _ _ _ _ _ _ _ _ _ _ _ _ _ _ _ _ _ _ _ _ _ _ _ _ _ _ _ _ _ _ _ _ _ _ _ _ _ _ _ _ _ _ _ _ _ _ _ _ _ _ _ _ _ _ _ _ _ _ _ _ _ _ _ _ _ _ _ _ _ _ _ _ _ _ _ _ _ _ (by omega)
      revert hx
      have hxx := hp0
      refine Exists.elim hxx fun j2 hxx => Exists.elim hxx fun j3 hxx => Exists.elim hxx fun j5 hxx => Exists.elim hxx fun j6 hxx => Exists.elim hxx fun j7 hxx => Exists.elim hxx fun j8 hxx => Exists.elim hxx fun j9 hxx => Exists.elim hxx fun j10 hxx => Exists.elim hxx fun j11 hxx => Exists.elim hxx fun j12 hxx => Exists.elim hxx fun j13 hxx => Exists.elim hxx fun j14 hxx => Exists.elim hxx fun j15 hxx => Exists.elim hxx fun j16 hxx => Exists.elim hxx fun j17 hxx => Exists.elim hxx fun j18 hxx => Exists.elim hxx fun j19 hxx => Exists.elim hxx fun j20 hxx => Exists.elim hxx fun j21 hxx => Exists.elim hxx fun j22 hxx => Exists.elim hxx fun j23 hxx => Exists.elim hxx fun j24 hxx => Exists.elim hxx fun j25 hxx => Exists.elim hxx fun j26 hxx => Exists.elim hxx fun j27 hxx => Exists.elim hxx fun j28 hxx => Exists.elim hxx fun j29 hxx => Exists.elim hxx fun j30 hxx => Exists.elim hxx fun j31 hxx => Exists.elim hxx fun j32 hxx => Exists.elim hxx fun j33 hxx => Exists.elim hxx fun j34 hxx => Exists.elim hxx fun j35 hxx => Exists.elim hxx fun j36 hxx => Exists.elim hxx fun j37 hxx => Exists.elim hxx fun j38 hxx => Exists.elim hxx fun j39 hxx => Exists.elim hxx fun j40 hxx => Exists.elim hxx fun j41 hxx => Exists.elim hxx fun j42 hxx => Exists.elim hxx fun j43 hxx => Exists.elim hxx fun j44 hxx => Exists.elim hxx fun j45 hxx => Exists.elim hxx fun j46 hxx => Exists.elim hxx fun j47 hxx => Exists.elim hxx fun j48 hxx => Exists.elim hxx fun j49 hxx => Exists.elim hxx fun j50 hxx => Exists.elim hxx fun j51 hxx => Exists.elim hxx fun j52 hxx => Exists.elim hxx fun j53 hxx => Exists.elim hxx fun j54 hxx => Exists.elim hxx fun j55 hxx => Exists.elim hxx fun j56 hxx => Exists.elim hxx fun j57 hxx => Exists.elim hxx fun j58 hxx => Exists.elim hxx fun j59 hxx => Exists.elim hxx fun j60 hxx => Exists.elim hxx fun j61 hxx => Exists.elim hxx fun j62 hxx => Exists.elim hxx fun j63 hxx => Exists.elim hxx fun j64 hxx => Exists.elim hxx fun j65 hxx => Exists.elim hxx fun j66 hxx => Exists.elim hxx fun j67 hxx => Exists.elim hxx fun j68 hxx => Exists.elim hxx fun j69 hxx => Exists.elim hxx fun j70 hxx => Exists.elim hxx fun j71 hxx => Exists.elim hxx fun j72 hxx => Exists.elim hxx fun j73 hxx => Exists.elim hxx fun j74 hxx => Exists.elim hxx fun j75 hxx => Exists.elim hxx fun j76 hxx => Exists.elim hxx fun j77 hxx => Exists.elim hxx fun j78 hxx => Exists.elim hxx fun j79 hxx => Exists.elim hxx fun j80 hxx => Exists.elim hxx fun j81 hxx => Exists.elim hxx fun j82 hxx => Exists.elim hxx fun j83 hxx => Exists.elim hxx fun j84 hxx => Exists.elim hxx fun j85 hxx => Exists.elim hxx fun j86 hxx => Exists.elim hxx fun j87 hxx => Exists.elim hxx fun j88 hxx => Exists.elim hxx fun j89 hxx => Exists.elim hxx fun j90 hxx => Exists.elim hxx fun j91 hxx => Exists.elim hxx fun j92 hxx => Exists.elim hxx fun j93 hxx => Exists.elim hxx fun j94 hxx => Exists.elim hxx fun j95 hxx => Exists.elim hxx fun j96 hxx => Exists.elim hxx fun j97 hxx => Exists.elim hxx fun j98 hxx => Exists.elim hxx fun j99 hxx => Exists.elim hxx fun j100 hxx => Exists.elim hxx fun j101 hxx => ?_
      subst hxx
      intro hx
      obtain ⟨e, s', hy, rfl, hp1⟩ := torn_loop keep (lastFrom keep d.wr.length 0 (-1)) (last_lt keep _) (offD d) d.safe.length d.now.length ga1 gb1 gc1 d.now d.wr (fun w hw => (hwf.wr w hw).1) (fun w hw => (hwf.wr w hw).2) hwl d.wr.length 0 d.safe _ _ _ _ _ _ _ _ _ _ _ _ _ _ _ _ _ _ _ _ _ _ _ _ _ _ _ _ _ _ _ _ _ _ _ _ _ _ _ _ _ _ _ _ _ _ _ _ _ _ _ _ _ _ _ _ _ _ _ _ _ _ _ _ _ _ _ _ _ _ _ _ _ _ _ _ _ _ _ _ _ _ _ _ _ _ _ _ _ _ _ _ _ _ _ _ (by omega) rfl hwf.safe
      revert hy
      have hxx := hp1
      refine Exists.elim hxx fun k2 hxx => Exists.elim hxx fun k3 hxx => Exists.elim hxx fun k4 hxx => Exists.elim hxx fun k5 hxx => Exists.elim hxx fun k6 hxx => Exists.elim hxx fun k7 hxx => Exists.elim hxx fun k8 hxx => Exists.elim hxx fun k9 hxx => Exists.elim hxx fun k10 hxx => Exists.elim hxx fun k11 hxx => Exists.elim hxx fun k12 hxx => Exists.elim hxx fun k13 hxx => Exists.elim hxx fun k14 hxx => Exists.elim hxx fun k15 hxx => Exists.elim hxx fun k16 hxx => Exists.elim hxx fun k17 hxx => Exists.elim hxx fun k18 hxx => Exists.elim hxx fun k19 hxx => Exists.elim hxx fun k20 hxx => Exists.elim hxx fun k21 hxx => Exists.elim hxx fun k22 hxx => Exists.elim hxx fun k23 hxx => Exists.elim hxx fun k24 hxx => Exists.elim hxx fun k25 hxx => Exists.elim hxx fun k26 hxx => Exists.elim hxx fun k27 hxx => Exists.elim hxx fun k28 hxx => Exists.elim hxx fun k29 hxx => Exists.elim hxx fun k30 hxx => Exists.elim hxx fun k31 hxx => Exists.elim hxx fun k32 hxx => Exists.elim hxx fun k33 hxx => Exists.elim hxx fun k34 hxx => Exists.elim hxx fun k35 hxx => Exists.elim hxx fun k36 hxx => Exists.elim hxx fun k37 hxx => Exists.elim hxx fun k38 hxx => Exists.elim hxx fun k39 hxx => Exists.elim hxx fun k40 hxx => Exists.elim hxx fun k41 hxx => Exists.elim hxx fun k42 hxx => Exists.elim hxx fun k43 hxx => Exists.elim hxx fun k44 hxx => Exists.elim hxx fun k45 hxx => Exists.elim hxx fun k46 hxx => Exists.elim hxx fun k47 hxx => Exists.elim hxx fun k48 hxx => Exists.elim hxx fun k49 hxx => Exists.elim hxx fun k50 hxx => Exists.elim hxx fun k51 hxx => Exists.elim hxx fun k52 hxx => Exists.elim hxx fun k53 hxx => Exists.elim hxx fun k54 hxx => Exists.elim hxx fun k55 hxx => Exists.elim hxx fun k56 hxx => Exists.elim hxx fun k57 hxx => Exists.elim hxx fun k58 hxx => Exists.elim hxx fun k59 hxx => Exists.elim hxx fun k60 hxx => Exists.elim hxx fun k61 hxx => Exists.elim hxx fun k62 hxx => Exists.elim hxx fun k63 hxx => Exists.elim hxx fun k64 hxx => Exists.elim hxx fun k65 hxx => Exists.elim hxx fun k66 hxx => Exists.elim hxx fun k67 hxx => Exists.elim hxx fun k68 hxx => Exists.elim hxx fun k69 hxx => Exists.elim hxx fun k70 hxx => Exists.elim hxx fun k71 hxx => Exists.elim hxx fun k72 hxx => Exists.elim hxx fun k73 hxx => Exists.elim hxx fun k74 hxx => Exists.elim hxx fun k75 hxx => Exists.elim hxx fun k76 hxx => Exists.elim hxx fun k77 hxx => Exists.elim hxx fun k78 hxx => Exists.elim hxx fun k79 hxx => Exists.elim hxx fun k80 hxx => Exists.elim hxx fun k81 hxx => Exists.elim hxx fun k82 hxx => Exists.elim hxx fun k83 hxx => Exists.elim hxx fun k84 hxx => Exists.elim hxx fun k85 hxx => Exists.elim hxx fun k86 hxx => Exists.elim hxx fun k87 hxx => Exists.elim hxx fun k88 hxx => Exists.elim hxx fun k89 hxx => Exists.elim hxx fun k90 hxx => Exists.elim hxx fun k91 hxx => Exists.elim hxx fun k92 hxx => Exists.elim hxx fun k93 hxx => Exists.elim hxx fun k94 hxx => Exists.elim hxx fun k95 hxx => Exists.elim hxx fun k96 hxx => Exists.elim hxx fun k97 hxx => Exists.elim hxx fun k98 hxx => Exists.elim hxx fun k99 hxx => Exists.elim hxx fun k100 hxx => Exists.elim hxx fun k101 hxx => ?_
      subst hxx
      intro hy
      simp only [go_sem, Nat.reduceAdd, Nat.reduceSub, Nat.reduceMul, Nat.reduceDiv, Nat.reduceMod, Nat.reducePow, Nat.reduceLeDiff, Nat.reduceLT, Nat.reduceEqDiff, Nat.reduceBEq, Nat.reduceBNe, Int.reduceAdd, Int.reduceSub, Int.reduceMul, Int.reducePow, Int.reduceLE, Int.reduceLT, Int.reduceEq, Int.reduceToNat, Int.reduceNeg, reduceCtorEq, Nat.add_zero, Nat.zero_add, beq_self_eq_true, Try.f44, Int.ofNat_zero, Int.natCast_zero, canW, stormH, diskB, offD, hdn, List.drop_zero] at hx hy hcl
      simp only [canW, diskB, offD, hdn, List.length_cons, List.length_nil, Nat.reduceAdd, Nat.zero_add] at hc hp
      simp only [go_sem, Nat.reduceAdd, Nat.reduceSub, Nat.reduceMul, Nat.reduceDiv, Nat.reduceMod, Nat.reducePow, Nat.reduceLeDiff, Nat.reduceLT, Nat.reduceEqDiff, Nat.reduceBEq, Nat.reduceBNe, Int.reduceAdd, Int.reduceSub, Int.reduceMul, Int.reducePow, Int.reduceLE, Int.reduceLT, Int.reduceEq, Int.reduceToNat, Int.reduceNeg, reduceCtorEq, Nat.add_zero, Nat.zero_add, beq_self_eq_true, Try.f44, canW, diskB, hdn, hc, hp]
      rw [hx]
      simp only [go_sem, Nat.reduceAdd, Nat.reduceSub, Nat.reduceMul, Nat.reduceDiv, Nat.reduceMod, Nat.reducePow, Nat.reduceLeDiff, Nat.reduceLT, Nat.reduceEqDiff, Nat.reduceBEq, Nat.reduceBNe, Int.reduceAdd, Int.reduceSub, Int.reduceMul, Int.reducePow, Int.reduceLE, Int.reduceLT, Int.reduceEq, Int.reduceToNat, Int.reduceNeg, reduceCtorEq, Nat.add_zero, Nat.zero_add, beq_self_eq_true]
      rw [hy]
      simp only [go_sem, Nat.reduceAdd, Nat.reduceSub, Nat.reduceMul, Nat.reduceDiv, Nat.reduceMod, Nat.reducePow, Nat.reduceLeDiff, Nat.reduceLT, Nat.reduceEqDiff, Nat.reduceBEq, Nat.reduceBNe, Int.reduceAdd, Int.reduceSub, Int.reduceMul, Int.reducePow, Int.reduceLE, Int.reduceLT, Int.reduceEq, Int.reduceToNat, Int.reduceNeg, reduceCtorEq, Nat.add_zero, Nat.zero_add, beq_self_eq_true, hcl, unwind, modeEx, resultsOf, one]
      have hsf : restartD d keep = { d with safe := tornAt keep (lastFrom keep d.wr.length 0 (-1)) d.wr 0 d.safe, now := tornAt keep (lastFrom keep d.wr.length 0 (-1)) d.wr 0 d.safe, wr := [], armed := 0, down := false, falls := IntKind.i64.wrap (d.falls + 1) } := by
        simp only [restartD, hdn, Bool.false_eq_true, if_false]
      have hlen := tornAt_length keep (lastFrom keep d.wr.length 0 (-1)) d.wr 0 d.safe
      rw [hsf]
      refine ⟨_, [0, 1, 4], rfl, ⟨1, ga1, 4, 0, _, ?_, rfl, rfl, .inl ⟨rfl, rfl, rfl⟩, by decide⟩, Nat.le_succ 4⟩
      simp only [List.getElem?_cons_zero, diskB, hlen]
end Go.Proofs.Ytamcncpgfhfheaa.Tidy
