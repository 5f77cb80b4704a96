/-
  What the functions that SharesClosed reaches compute; the law, run.
-/
import Derived.Test.YtgfejpngfikjiaaWb
import Derived.Test.YtgfejpngfikjiaaCe
import Derived.Test.YtgfejpngfikjiaaCf
import Derived.Test.YtgfejpngfikjiaaWa
import Derived.Test.YtgfejpngfikjiaaCb
set_option linter.all false
namespace Go.Proofs.Ytgfejpngfikjiaa.Tidy
open Go Go.IntWalk
set_option maxRecDepth 10000
set_option linter.unusedSimpArgs false
set_option maxHeartbeats 4000000

set_option maxRecDepth 10000
set_option maxHeartbeats 4000000

def Cov (m : Nat) : List Foot → List Foot → Prop
  | [], [] => True
  | a :: l, b :: l' => (a.i = b.i ∧ (∀ x ∈ a.reads, min x m ∈ b.reads) ∧ ∀ x ∈ a.writes, min x m ∈ b.writes) ∧ Cov m l l'
  | _, _ => False
theorem meets_cov {m : Nat} {a b a' b' : List Nat} (ha : ∀ x ∈ a, min x m ∈ a') (hb : ∀ x ∈ b, min x m ∈ b') (h : meets a' b' = false) : meets a b = false := by
  simp only [meets, List.any_eq_false, List.contains_iff_mem] at h ⊢
  exact fun x hx hxb => h _ (ha x hx) (hb x hxb)
theorem apart_cov {m : Nat} {bf : Array Nat} : ∀ {l l' : List Foot}, Cov m l l' → apart bf l' = true → apart bf l = true
  | [], [], _, _ => rfl
  | a :: l, b :: l', ⟨⟨e, h1, h2⟩, hc⟩, h => by
    simp only [apart, Bool.and_eq_true] at h ⊢
    refine ⟨?_, apart_cov hc h.2⟩
    have key : ∀ (l l' : List Foot), Cov m l l' → (l'.all fun c => !clash b c || (bf.getD c.i 0).testBit b.i) = true → (l.all fun c => !clash a c || (bf.getD c.i 0).testBit a.i) = true := by
      intro l
      induction l with
      | nil => intro l' _ _; rfl
      | cons c l ih =>
        intro l' hc h
        cases l' with
        | nil => exact hc.elim
        | cons c' l' =>
          obtain ⟨⟨e2, k1, k2⟩, hc⟩ := hc
          simp only [List.all_cons, Bool.and_eq_true, Bool.or_eq_true] at h ⊢
          refine ⟨?_, ih l' hc h.2⟩
          rcases h.1 with h | h
          · left
            simp only [clash, Bool.not_eq_true', Bool.or_eq_false_iff] at h ⊢
            refine ⟨?_, ?_⟩ <;> first
              | exact meets_cov h2 (fun x hx => by
                  rw [List.mem_append] at hx ⊢
                  exact hx.imp (k1 x) (k2 x)) (by first | exact h.1 | exact h.2)
              | exact meets_cov k2 h1 (by first | exact h.1 | exact h.2)
              | exact meets_cov h1 k2 (by first | exact h.1 | exact h.2)
          · right
            rw [e, e2]; exact h
    exact key _ _ hc h.1
  | [], _ :: _, h, _ => h.elim
  | _ :: _, [], h, _ => h.elim
theorem looks_some {H : Heap} : ∀ (ids seen : List Nat) (n : Nat), (∀ id ∈ ids, ∃ g sz es, H[id]? = some (.cells g sz true es)) → ids.length ≤ n → ∃ l, looks H n ids seen = some l
  | [], seen, n, _, _ => by cases n <;> exact ⟨_, rfl⟩
  | id :: ids, seen, n, hf, hl => by
    obtain ⟨n, rfl⟩ : ∃ m, n = m + 1 := ⟨n - 1, by simp at hl; omega⟩
    obtain ⟨g, sz, es, hH⟩ := hf id (by simp)
    have ih := fun seen => looks_some (H := H) ids seen n (fun x hx => hf x (by simp [hx])) (by simp at hl; omega)
    simp only [looks, hH, if_true]
    split
    · exact ih _
    · exact ih _
theorem TbAt.looks {H : Heap} {a b q ga gb g : Nat} {ps : Nat → Nat} {t : Tab} (h : TbAt H a b q ga gb g ps t) (hR : t.R ≤ 8) : ∃ l, Tidy.looks H fuel0 [a, b, q] [] = some l := by
  have hab : b ≠ a := Ne.symm h.ab
  have haq : q ≠ a := Ne.symm h.aq
  have hbq : q ≠ b := Ne.symm h.bq
  have hrl : refsL (vecA t.R fun i => AVal.ref (ps i) 0 0 t.C false) = vecA t.R ps := by
    unfold vecA
    induction (List.range t.R) with
    | nil => rfl
    | cons i l ih => simp [refsL, AVal.refs, ih]
  obtain ⟨l, hl⟩ := looks_some (H := H) (vecA t.R ps) [a, b, q] 61 (fun id hid => by
    unfold vecA at hid
    obtain ⟨i, hi, rfl⟩ := List.mem_map.1 hid
    exact ⟨_, _, _, h.row i (List.mem_range.1 hi)⟩) (by rw [vecA_length]; omega)
  refine ⟨l, ?_⟩
  unfold fuel0
  simp [Tidy.looks, h.rows, h.cols, h.acc, hab, haq, hbq, hrl, hl]

set_option maxRecDepth 10000
set_option maxHeartbeats 4000000

structure CcAt (T : TabV) (H : Heap) (B gn g : Nat) (ps : Nat → Nat) (t : Tab) : Prop where
  res : H[1]? = some (.cells 0 3 false [noTab])
  net : ∃ f, T.tab.net.In f ∧ T.tab.net.Circ f ∧ NetAt H 5 4 T.tab.R T.tab.C gn T.tab.net.n (arcB gn T.tab.net f)
  tab : TbAt H 9 10 17 0 0 g ps t
  box : H[B]? = some (.cells 0 3 false [memT T.tab 9 10 17 0 0 g])
  len : H.length = B + 1
  lt : 17 < B
  ps : ∀ i, i < T.tab.R → 6 < ps i ∧ ps i ≠ B

theorem CcAt.flow {T : TabV} {H : Heap} {B gn g : Nat} {ps : Nat → Nat} {t : Tab} (h : CcAt T H B gn g ps t) (tR : t.R = T.tab.R) {f : Nat → Int} (h1 : T.tab.net.In f) (h2 : T.tab.net.Circ f) : CcAt T ((H.set 5 (netB T.tab.R T.tab.C 4 gn T.tab.net.n)).set 4 (arcB gn T.tab.net f)) B gn g ps t := by
  have hl := h.lt
  have hlen := h.len
  have ne : ∀ (N A : Blk) (j : Nat), j ≠ 5 → j ≠ 4 → ((H.set 5 N).set 4 A)[j]? = H[j]? := fun N A j a b => by
    rw [List.getElem?_set_ne (Ne.symm b), List.getElem?_set_ne (Ne.symm a)]
  refine ⟨?_, ⟨f, h1, h2, ?_, ?_, by decide, flat_arcB _ _ _⟩, h.tab.mono fun j hj => ne _ _ _ ?_ ?_, ?_, ?_, hl, h.ps⟩
  · rw [ne _ _ _ (by decide) (by decide)]; exact h.res
  · rw [List.getElem?_set_ne (by decide), List.getElem?_set_self (by omega)]
  · rw [List.getElem?_set_self (by rw [List.length_set]; omega)]
  · rcases hj with rfl | rfl | rfl | ⟨m, hm, rfl⟩
    · decide
    · decide
    · decide
    · have := (h.ps m (by omega)).1
      omega
  · rcases hj with rfl | rfl | rfl | ⟨m, hm, rfl⟩
    · decide
    · decide
    · decide
    · have := (h.ps m (by omega)).1
      omega
  · rw [ne _ _ _ (by omega) (by omega)]; exact h.box
  · rw [List.length_set, List.length_set]; exact hlen

theorem CcAt.step {T : TabV} {H : Heap} {B gn g : Nat} {ps : Nat → Nat} {t t' : Tab} (h : CcAt T H B gn g ps t) {j : Nat} {b : Blk} (ht : TbAt (H.set j b) 9 10 17 0 0 g ps t') (h1 : 6 < j) (h3 : j ≠ B) : CcAt T (H.set j b) B gn g ps t' := by
  obtain ⟨f, a1, a2, a3⟩ := h.net
  exact ⟨by rw [List.getElem?_set_ne (by omega)]; exact h.res, ⟨f, a1, a2, by rw [List.getElem?_set_ne (by omega)]; exact a3.net, by rw [List.getElem?_set_ne (by omega)]; exact a3.arcs, a3.ne, a3.flat⟩, ht, by rw [List.getElem?_set_ne h3]; exact h.box, by rw [List.length_set]; exact h.len, h.lt, h.ps⟩

theorem cc_ask {T : TabV} (hO : T.tab.Ok) {B gn g : Nat} {ps : Nat → Nat} {j : Nat} (hj : j < T.tab.net.n) {t : Tab} {H : Heap} (hA : CcAt T H B gn g ps t) (tR : t.R = T.tab.R) :
    ∃ lo hi f', IsEnds T.tab.net [j] lo hi ∧ CcAt T ((H.set 5 (netB T.tab.R T.tab.C 4 gn T.tab.net.n)).set 4 (arcB gn T.tab.net f')) B gn g ps t ∧
      ∀ nx, callT env 82 [.ptr 5 0 0 0, .lit true 1 [.int .i64 (j : Nat)]] 0 H nx = some (.ret (.agg [.int .i64 lo, .int .i64 hi]), .ups [(5, netB T.tab.R T.tab.C 4 gn T.tab.net.n), (4, arcB gn T.tab.net f')]) := by
  obtain ⟨f, a1, a2, a3⟩ := hA.net
  obtain ⟨lo, hi, he, f', i1, i2, ec⟩ := ends_call2 (gn := gn) (cl := true) (sz := 1) (l := [j]) (netOk_tab hO) (net_pos hO) a1 a2 (.inr rfl) (fun j' h => by simp at h; omega) (by simp)
  exact ⟨lo, hi, f', he, hA.flow tR i1 i2, fun nx => ec a3 (v := .lit true 1 [.int .i64 (j : Nat)]) (lent := []) (lend_ptr rfl rfl) (by simp) nx⟩

theorem looks_na {H : Heap} {p a R C g n : Nat} {A : Blk} (h : NetAt H p a R C g n A) : looks H fuel0 [p] [] = some [p, a] := by
  have h1 := h.net
  have h2 := h.arcs
  have hne := h.ne
  obtain ⟨g', sz, fl, es, rfl, hf⟩ := h.flat
  simp only [netB] at h1
  unfold fuel0
  rcases hf with rfl | rfl
  · simp [looks, h1, h2, refsL, AVal.refs, Ne.symm hne]
  · cases fl <;> simp [looks, h1, h2, refsL, AVal.refs, Ne.symm hne]

def ccFoot : List Foot := [⟨0, [], []⟩, ⟨1, [6], []⟩, ⟨2, [], []⟩, ⟨3, [6], []⟩, ⟨4, [6], []⟩, ⟨5, [], []⟩, ⟨6, [], []⟩, ⟨7, [], []⟩, ⟨8, [], []⟩, ⟨9, [], []⟩, ⟨10, [5, 4], []⟩, ⟨11, [], []⟩, ⟨12, [5, 4], [5, 4]⟩, ⟨13, [6], []⟩, ⟨14, [6], [6]⟩]

theorem cc_inner {T : TabV} (hT : T.Wf) (hO : T.tab.Ok) (hcan : canB T.tab = true) {B gn g : Nat} {ps : Nat → Nat} {i : Nat} (hi : i < T.tab.R) : ∀ (n k : Nat) (H : Heap) (t : Tab) (j0 j1 j3 j5 j8 j9 j10 j11 j12 j13 j14 j15 j16 j17 j18 j19 j20 j21 j25 j26 j27 j28 j29 j30 j31 j32 j33 j34 j35 j36 j37 j38 j39 j40 j44 j45 j46 j47 j48 j49 j50 j51 j52 j53 j54 j55 j56 j57 j58 j59 j60 j61 j62 j63 j64 j65 j66 j67 j68 j69 j70 j71 j72 j73 j74 j75 j76 j77 j78 j79 : AVal), k + n = T.tab.C → CcAt T H B gn g ps t → Clo T.tab t (fun j => j < i + 1) (fun j m => j < i ∨ (j = i ∧ m < k)) (fun _ => False) →
    Goes (execT env (Try.f54.at [1, 1, 1, 1, 0, 1, 0, 0, 1, 1, 0, 0, 1, 1, 1, 0]) ⟨[j0, j1, .ptr 1 0 0 0, j3, .ptr 5 0 0 0, j5, .ptr B 0 0 0, .int .i64 i, j8, j9, j10, j11, j12, j13, j14, j15, j16, j17, j18, j19, j20, j21, .ref 9 0 0 T.tab.R false, .int .i64 T.tab.R, .int .i64 i, j25, j26, j27, j28, j29, j30, j31, j32, j33, j34, j35, j36, j37, j38, j39, j40, .ref (ps i) 0 0 T.tab.C false, .int .i64 T.tab.C, .int .i64 k, j44, j45, j46, j47, j48, j49, j50, j51, j52, j53, j54, j55, j56, j57, j58, j59, j60, j61, j62, j63, j64, j65, j66, j67, j68, j69, j70, j71, j72, j73, j74, j75, j76, j77, j78, j79], H, [], 0, []⟩) fun ex st =>
      ex = .exit 2 ∧ ∃ (H : Heap) (t : Tab), (CcAt T H B gn g ps t ∧ Clo T.tab t (fun j => j < i + 1) (fun j _ => j < i + 1) (fun _ => False)) ∧ FrP 80 [(2, .ptr 1 0 0 0), (4, .ptr 5 0 0 0), (6, .ptr B 0 0 0), (22, .ref 9 0 0 T.tab.R false), (23, .int .i64 T.tab.R), (24, .int .i64 i)] H [] 0 [] st := by
  have hR8 := hO.R8
  have hC8 := hO.C8
  intro n
  induction n with
  | zero =>
    intro k H t; intros; rename_i hk hA hC
    have hd : decide ((k : Int) < (T.tab.C : Int)) = false := by simp; omega
    have hk' : k = T.tab.C := by omega
    subst hk'
    simp only [go_sem, simprocAttr, Try.f54]
    rw [exec_loop]
    simp only [go_sem, simprocAttr, hd]
    exact ⟨H, t, ⟨hA, hC.mono (P' := fun j => j < i + 1) (Q' := fun j _ => j < i + 1) (S' := fun _ => False) (fun _ h => h) (fun j m hm h => by
      have h : j < i + 1 := h
      show j < i ∨ (j = i ∧ m < T.tab.C)
      omega) fun _ h => h⟩, frP (by kernel_rfl)⟩
  | succ n ih =>
    intro k H t; intros; rename_i hk hA hC
    have hkC : k < T.tab.C := by omega
    have hd : decide ((k : Int) < (T.tab.C : Int)) = true := by simp; omega
    have k0 : (0 : Int) ≤ (k : Int) := by omega
    have i0 : (0 : Int) ≤ (i : Int) := by omega
    have dR : decide ((i : Int) < (T.tab.R : Int)) = true := by simp; omega
    have tR := hC.R
    have tC := hC.C
    have hm : i * T.tab.C + k < T.tab.net.n := by
      have : i * T.tab.C + k < T.tab.R * T.tab.C := cell_lt hi hkC
      show _ < T.tab.R * T.tab.C + T.tab.R + T.tab.C
      omega
    obtain ⟨lo, hi', f', he, hA1, ec⟩ := cc_ask hO hm hA tR
    have hx : EndsP T.tab (fun s => s i k) ⟨lo, hi'⟩ := EndsP.of he fun s => brings_cell _ _ hi hkC
    obtain ⟨f, _, _, a3⟩ := hA.net
    have ac := cellArc_call a3 (i := i) (k := k) (by omega) hC8 (by omega)
    have hlen := hA.len
    have hlt := hA.lt
    have hps := hA.ps i hi
    have hit : i < t.R := by omega
    have hacc := hA.tab.acc
    rw [tR, tC] at hacc
    have hva : (vecA T.tab.R fun i => AVal.ref (ps i) 0 0 T.tab.C false)[i]? = some (.ref (ps i) 0 0 T.tab.C false) := vecA_get _ hi
    have hrow := hA1.tab.row i hit
    have l4 := hA.tab.lt.2.2.2 i hit
    have z1 : (ps i < H.length) = True := eq_true l4
    have hrl : (rowA t i).length = T.tab.C := by rw [rowA_length (by rw [hC.len, tR]) (by rw [tC]; exact hC.wid) hit, tC]
    have hget := rowA_get' hC.wid (i := i) (by rw [hC.len]; exact hi) hkC
    have wr : ∀ y : Spn, writeAt (spV y) 0 (.agg [.int .i64 lo, .int .i64 hi']) = some (spV ⟨lo, hi'⟩) := fun _ => rfl
    have hat := hA1.tab.write (k := k) (by rw [hC.len, tR]) hit ⟨lo, hi'⟩
    have hA' := hA1.step hat hps.1 hps.2
    have hC' := (hC.setCell hi hkC hx).mono (P' := fun j => j < i + 1) (Q' := fun j m => j < i ∨ (j = i ∧ m < k + 1)) (S' := fun _ => False) (fun _ h => h) (fun j m _ h => by
      have h : j < i ∨ (j = i ∧ m < k + 1) := h
      show (j < i ∨ (j = i ∧ m < k)) ∨ (j = i ∧ m = k)
      omega) fun _ h => h
    have z2 : decide (B < H.length) = true := decide_eq_true (by omega)
    have z0 : decide (5 < H.length) = true := decide_eq_true (by omega)
    have z5 : decide (4 < H.length) = true := decide_eq_true (by omega)
    have z6 : (5 < H.length) = True := eq_true (by omega)
    have z7 : (4 < H.length) = True := eq_true (by omega)
    have z3 : decide (17 < H.length) = true := decide_eq_true (by omega)
    have z4 : decide (ps i < H.length) = true := decide_eq_true l4
    have dC : decide ((k : Int) < (T.tab.C : Int)) = true := hd
    have hB : H[B]? = some (.cells 0 3 false [.agg [.ref 9 0 0 T.tab.R false, .ref 10 0 0 T.tab.C false, .ref 17 g 0 T.tab.R false]]) := hA.box
    have lk := looks_na a3
    have ih' := ih (k + 1)
    simp only [go_sem, simprocAttr, Try.f54] at ih' ⊢
    rw [exec_loop]
    simp only [go_sem, simprocAttr, hd, k0, i0, dR, Int.toNat_natCast, hB, hacc, hva, hrow, hrl, hget, wr, ac, ec, lk, z0, z1, z2, z3, z4, z5, z6, z7, Nat.zero_le, List.length_set]
    rw [apart_ok]
    · simp only [go_sem, simprocAttr, List.length_set, Nat.le_refl, wrap_succ (show k < 2 ^ 63 - 1 by omega)]
      exact ih' _ _ _ _ _ _ _ _ _ _ _ _ _ _ _ _ _ _ _ _ _ _ _ _ _ _ _ _ _ _ _ _ _ _ _ _ _ _ _ _ _ _ _ _ _ _ _ _ _ _ _ _ _ _ _ _ _ _ _ _ _ _ _ _ _ _ _ _ _ _ _ _ (by omega) hA' hC'
    · have m1 : min B 6 = 6 := by omega
      have m2 : min (ps i) 6 = 6 := by omega
      refine apart_cov (m := 6) (l' := ccFoot) ?_ (apart_of_V (by kernel_rfl))
      simp [Cov, ccFoot, m1, m2]

def ccFoot2 : List Foot := [⟨0, [], []⟩, ⟨1, [6], []⟩, ⟨2, [], []⟩, ⟨3, [], []⟩, ⟨4, [], []⟩, ⟨5, [], []⟩, ⟨6, [5, 4], []⟩, ⟨7, [], []⟩, ⟨8, [5, 4], [5, 4]⟩, ⟨9, [6], []⟩, ⟨10, [6], [6]⟩]

theorem cc_outer {T : TabV} (hT : T.Wf) (hO : T.tab.Ok) (hcan : canB T.tab = true) {B gn g : Nat} {ps : Nat → Nat} : ∀ (n i : Nat) (H : Heap) (t : Tab) (j0 j1 j3 j5 j7 j8 j9 j10 j11 j12 j13 j14 j15 j16 j17 j18 j19 j20 j21 j25 j26 j27 j28 j29 j30 j31 j32 j33 j34 j35 j36 j37 j38 j39 j40 j41 j42 j43 j44 j45 j46 j47 j48 j49 j50 j51 j52 j53 j54 j55 j56 j57 j58 j59 j60 j61 j62 j63 j64 j65 j66 j67 j68 j69 j70 j71 j72 j73 j74 j75 j76 j77 j78 j79 : AVal), i + n = T.tab.R → CcAt T H B gn g ps t → Clo T.tab t (fun j => j < i) (fun j _ => j < i) (fun _ => False) →
    Goes (execT env (Try.f54.at [1, 1, 1, 1, 0, 1, 0]) ⟨[j0, j1, .ptr 1 0 0 0, j3, .ptr 5 0 0 0, j5, .ptr B 0 0 0, j7, j8, j9, j10, j11, j12, j13, j14, j15, j16, j17, j18, j19, j20, j21, .ref 9 0 0 T.tab.R false, .int .i64 T.tab.R, .int .i64 i, j25, j26, j27, j28, j29, j30, j31, j32, j33, j34, j35, j36, j37, j38, j39, j40, j41, j42, j43, j44, j45, j46, j47, j48, j49, j50, j51, j52, j53, j54, j55, j56, j57, j58, j59, j60, j61, j62, j63, j64, j65, j66, j67, j68, j69, j70, j71, j72, j73, j74, j75, j76, j77, j78, j79], H, [], 0, []⟩) fun ex st =>
      ex = .exit 0 ∧ ∃ (H : Heap) (t : Tab), (CcAt T H B gn g ps t ∧ Clo T.tab t (fun _ => True) (fun _ _ => True) (fun _ => False)) ∧ FrP 80 [(2, .ptr 1 0 0 0), (4, .ptr 5 0 0 0), (6, .ptr B 0 0 0)] H [] 0 [] st := by
  have hR8 := hO.R8
  have hC8 := hO.C8
  intro n
  induction n with
  | zero =>
    intro i H t; intros; rename_i hi hA hC
    have hd : decide ((i : Int) < (T.tab.R : Int)) = false := by simp; omega
    simp only [go_sem, simprocAttr, Try.f54]
    rw [exec_loop]
    simp only [go_sem, simprocAttr, hd]
    have hC' : Clo T.tab t (fun _ => True) (fun _ _ => True) (fun _ => False) :=
      ⟨hC.R, hC.C, hC.len, hC.wid, fun j hj _ => hC.row j hj (by show j < i; omega), fun j k hj hk _ => hC.cell j k hj hk (by show j < i; omega), fun _ _ h => h.elim⟩
    exact ⟨H, t, ⟨hA, hC'⟩, frP (by kernel_rfl)⟩
  | succ n ih =>
    intro i H t; intros; rename_i hi hA hC
    have hiR : i < T.tab.R := by omega
    have hd : decide ((i : Int) < (T.tab.R : Int)) = true := by simp; omega
    have i0 : (0 : Int) ≤ (i : Int) := by omega
    have tR := hC.R
    have tC := hC.C
    have hm : T.tab.R * T.tab.C + i < T.tab.net.n := by
      show _ < T.tab.R * T.tab.C + T.tab.R + T.tab.C
      omega
    obtain ⟨lo, hi', f', he, hA1, ec⟩ := cc_ask hO hm hA tR
    have hx : EndsP T.tab (rowF T.tab i) ⟨lo, hi'⟩ := EndsP.of he fun s => brings_row _ _ hiR
    obtain ⟨f, _, _, a3⟩ := hA.net
    have ac := rowArc_call a3 (i := i) (by omega) hR8 hC8
    have lk := looks_na a3
    have hlen := hA.len
    have hlt := hA.lt
    have hrows := hA1.tab.rows
    have hget := rows_get' (t := t) (i := i) (by omega)
    have hrl : (t.rows.map spV).length = T.tab.R := by rw [List.length_map]; exact tR
    have wr : ∀ y : Spn, writeAt (spV y) 0 (.agg [.int .i64 lo, .int .i64 hi']) = some (spV ⟨lo, hi'⟩) := fun _ => rfl
    have hA' := hA1.step (hA1.tab.writeRow i ⟨lo, hi'⟩) (by decide) (by omega)
    have hC' := (hC.setRow hiR hx).mono (P' := fun j => j < i + 1) (Q' := fun j m => j < i ∨ (j = i ∧ m < 0)) (S' := fun _ => False) (fun j h => by
      have h : j < i + 1 := h
      show j < i ∨ j = i
      omega) (fun j m _ h => by
      have h : j < i ∨ (j = i ∧ m < 0) := h
      show j < i
      omega) fun _ h => h
    obtain ⟨e1, s1, hx1, hp1⟩ := cc_inner hT hO hcan hiR T.tab.C 0 _ _ _ _ _ _ _ _ _ _ _ _ _ _ _ _ _ _ _ _ _ _ _ _ _ _ _ _ _ _ _ _ _ _ _ _ _ _ _ _ _ _ _ _ _ _ _ _ _ _ _ _ _ _ _ _ _ _ _ _ _ _ _ _ _ _ _ _ _ _ _ _ (by omega) hA' hC'
    obtain ⟨rfl, H2, t2, ⟨hA2, hC2⟩, jp, rfl⟩ := hp1
    have hB : H[B]? = some (.cells 0 3 false [.agg [.ref 9 0 0 T.tab.R false, .ref 10 0 0 T.tab.C false, .ref 17 g 0 T.tab.R false]]) := hA.box
    have hB' : (((H.set 5 (netB T.tab.R T.tab.C 4 gn T.tab.net.n)).set 4 (arcB gn T.tab.net f')).set 9 (.cells 0 2 true ((t.rows.map spV).set i (spV ⟨lo, hi'⟩))))[B]? = some (.cells 0 3 false [.agg [.ref 9 0 0 T.tab.R false, .ref 10 0 0 T.tab.C false, .ref 17 g 0 T.tab.R false]]) := hA'.box
    have hacc := hA'.tab.acc
    rw [setRow_R, setRow_C, tR, tC] at hacc
    have hva : (vecA T.tab.R fun i => AVal.ref (ps i) 0 0 T.tab.C false)[i]? = some (.ref (ps i) 0 0 T.tab.C false) := vecA_get _ hiR
    have z0 : decide (5 < H.length) = true := decide_eq_true (by omega)
    have z1 : (9 < H.length) = True := eq_true (by omega)
    have z2 : decide (B < H.length) = true := decide_eq_true (by omega)
    have z3 : decide (9 < H.length) = true := decide_eq_true (by omega)
    have z5 : decide (4 < H.length) = true := decide_eq_true (by omega)
    have z6 : (5 < H.length) = True := eq_true (by omega)
    have z7 : (4 < H.length) = True := eq_true (by omega)
    have hl2 : (H2.length ≤ H.length) = True := eq_true (by have := hA2.len; omega)
    have ih' := ih (i + 1)
    simp only [go_sem, simprocAttr, Try.f54, Int.ofNat_zero, Int.natCast_zero] at hx1
    simp only [go_sem, simprocAttr, Try.f54] at ih' ⊢
    rw [exec_loop]
    simp only [go_sem, simprocAttr, hd, i0, Int.toNat_natCast, hB, hrows, hrl, hget, wr, ac, ec, lk, z0, z1, z2, z3, z5, z6, z7, Nat.zero_le, List.length_set]
    rw [apart_ok]
    · simp only [go_sem, simprocAttr, hB', hacc, hva, i0, hd, Int.toNat_natCast]
      rw [hx1]
      simp only [go_sem, simprocAttr, hl2, wrap_succ (show i < 2 ^ 63 - 1 by omega)]
      exact ih' _ _ _ _ _ _ _ _ _ _ _ _ _ _ _ _ _ _ _ _ _ _ _ _ _ _ _ _ _ _ _ _ _ _ _ _ _ _ _ _ _ _ _ _ _ _ _ _ _ _ _ _ _ _ _ _ _ _ _ _ _ _ _ _ _ _ _ _ _ _ _ _ _ _ _ _ (by omega) hA2 hC2
    · have m1 : min B 6 = 6 := by omega
      refine apart_cov (m := 6) (l' := ccFoot2) ?_ (apart_of_V (by kernel_rfl))
      simp [Cov, ccFoot2, m1]

set_option maxRecDepth 10000
set_option maxHeartbeats 4000000

theorem cc_cols {T : TabV} (hT : T.Wf) (hO : T.tab.Ok) (hcan : canB T.tab = true) {B gn g : Nat} {ps : Nat → Nat} : ∀ (n i : Nat) (H : Heap) (t : Tab) (j0 j1 j3 j5 j7 j8 j9 j10 j11 j12 j13 j14 j15 j16 j17 j18 j19 j20 j21 j22 j23 j24 j25 j26 j27 j28 j29 j30 j31 j32 j33 j34 j35 j36 j37 j38 j39 j40 j41 j42 j43 j44 j45 j46 j47 j48 j49 j50 j51 j52 j53 j54 j55 j56 j57 j58 j59 j60 j61 j62 j66 j67 j68 j69 j70 j71 j72 j73 j74 j75 j76 j77 j78 j79 : AVal), i + n = T.tab.C → CcAt T H B gn g ps t → Clo T.tab t (fun _ => True) (fun _ _ => True) (fun j => j < i) →
    Goes (execT env (Try.f54.at [1, 1, 1, 1, 1, 0, 1, 0]) ⟨[j0, j1, .ptr 1 0 0 0, j3, .ptr 5 0 0 0, j5, .ptr B 0 0 0, j7, j8, j9, j10, j11, j12, j13, j14, j15, j16, j17, j18, j19, j20, j21, j22, j23, j24, j25, j26, j27, j28, j29, j30, j31, j32, j33, j34, j35, j36, j37, j38, j39, j40, j41, j42, j43, j44, j45, j46, j47, j48, j49, j50, j51, j52, j53, j54, j55, j56, j57, j58, j59, j60, j61, j62, .ref 10 0 0 T.tab.C false, .int .i64 T.tab.C, .int .i64 i, j66, j67, j68, j69, j70, j71, j72, j73, j74, j75, j76, j77, j78, j79], H, [], 0, []⟩) fun ex st =>
      ex = .exit 4 ∧ ∃ (H : Heap) (t : Tab), (CcAt T H B gn g ps t ∧ ClosedT T.tab t) ∧ FrP 80 [(2, .ptr 1 0 0 0), (6, .ptr B 0 0 0)] H [] 0 [] st := by
  have hR8 := hO.R8
  have hC8 := hO.C8
  intro n
  induction n with
  | zero =>
    intro i H t; intros; rename_i hi hA hC
    have hd : decide ((i : Int) < (T.tab.C : Int)) = false := by simp; omega
    simp only [go_sem, simprocAttr, Try.f54]
    rw [exec_loop]
    simp only [go_sem, simprocAttr, hd]
    have hC' : ClosedT T.tab t :=
      ⟨hC.R, hC.C, hC.len, hC.wid, hC.row, hC.cell, fun j hj _ => hC.col j hj (by show j < i; omega)⟩
    exact ⟨H, t, ⟨hA, hC'⟩, frP (by kernel_rfl)⟩
  | succ n ih =>
    intro i H t; intros; rename_i hi hA hC
    have hiR : i < T.tab.C := by omega
    have hd : decide ((i : Int) < (T.tab.C : Int)) = true := by simp; omega
    have i0 : (0 : Int) ≤ (i : Int) := by omega
    have tR := hC.R
    have tC := hC.C
    have hm : T.tab.R * T.tab.C + T.tab.R + i < T.tab.net.n := by
      show _ < T.tab.R * T.tab.C + T.tab.R + T.tab.C
      omega
    obtain ⟨lo, hi', f', he, hA1, ec⟩ := cc_ask hO hm hA tR
    have hx : EndsP T.tab (fun s => sumN T.tab.R fun j => s j i) ⟨lo, hi'⟩ := EndsP.of he fun s => brings_col _ _ hiR
    obtain ⟨f, _, _, a3⟩ := hA.net
    have ac := colArc_call a3 (i := i) (by omega) hR8 hC8
    have lk := looks_na a3
    have hlen := hA.len
    have hlt := hA.lt
    have hcols := hA1.tab.cols
    have hget := cols_get' (t := t) (i := i) (by omega)
    have hrl : (t.cols.map spV).length = T.tab.C := by rw [List.length_map]; exact tC
    have wr : ∀ y : Spn, writeAt (spV y) 0 (.agg [.int .i64 lo, .int .i64 hi']) = some (spV ⟨lo, hi'⟩) := fun _ => rfl
    have hA' := hA1.step (hA1.tab.writeCol i ⟨lo, hi'⟩) (by decide) (by omega)
    have hC' := (hC.setCol hiR hx).mono (P' := fun _ => True) (Q' := fun _ _ => True) (S' := fun j => j < i + 1) (fun _ h => h) (fun _ _ _ h => h) (fun j h => by
      have h : j < i + 1 := h
      show j < i ∨ j = i
      omega)
    have hB : H[B]? = some (.cells 0 3 false [.agg [.ref 9 0 0 T.tab.R false, .ref 10 0 0 T.tab.C false, .ref 17 g 0 T.tab.R false]]) := hA.box
    have z0 : decide (5 < H.length) = true := decide_eq_true (by omega)
    have z1 : (10 < H.length) = True := eq_true (by omega)
    have z2 : decide (B < H.length) = true := decide_eq_true (by omega)
    have z3 : decide (10 < H.length) = true := decide_eq_true (by omega)
    have z5 : decide (4 < H.length) = true := decide_eq_true (by omega)
    have z6 : (5 < H.length) = True := eq_true (by omega)
    have z7 : (4 < H.length) = True := eq_true (by omega)
    have ih' := ih (i + 1)
    simp only [go_sem, simprocAttr, Try.f54] at ih' ⊢
    rw [exec_loop]
    simp only [go_sem, simprocAttr, hd, i0, Int.toNat_natCast, hB, hcols, hrl, hget, wr, ac, ec, lk, z0, z1, z2, z3, z5, z6, z7, Nat.zero_le, List.length_set]
    rw [apart_ok]
    · simp only [go_sem, simprocAttr, List.length_set, Nat.le_refl, wrap_succ (show i < 2 ^ 63 - 1 by omega)]
      exact ih' _ _ _ _ _ _ _ _ _ _ _ _ _ _ _ _ _ _ _ _ _ _ _ _ _ _ _ _ _ _ _ _ _ _ _ _ _ _ _ _ _ _ _ _ _ _ _ _ _ _ _ _ _ _ _ _ _ _ _ _ _ _ _ _ _ _ _ _ _ _ _ _ _ _ _ _ (by omega) hA' hC'
    · have m1 : min B 6 = 6 := by omega
      refine apart_cov (m := 6) (l' := ccFoot2) ?_ (apart_of_V (by kernel_rfl))
      simp [Cov, ccFoot2, m1]

theorem Closed_call {T : TabV} (hT : T.Wf) : ∃ v, ClAns T.tab v ∧ ∀ ro H nx, callT env 54 [T.v] ro H nx = some (.ret v, .ups []) := by
  rcases settled_call hT 0 [boxT T, .cells 0 3 false [noTab]] 2 with ⟨hok, us, hc, X, rfl⟩ | ⟨hO, hcan, us, hc, X, rfl⟩ | ⟨hO, hcan, f, gn, _, hin, hci, hc⟩
  · refine ⟨_, .inl ⟨hok, rfl⟩, ?_⟩
    have hp := putU_end X [boxT T, .cells 0 3 false [noTab]]
    have : ∃ H', runT env 54 [T.v] [] 0 = some (.ret (.tuple [noTab, .int .i64 60]), H') := by
      simp only [boxT, noTab, List.length_cons, List.length_nil, Nat.zero_add, Nat.reduceAdd, List.cons_append, List.nil_append] at hc hp ⊢
      rw [run_unfold fn54 rfl]
      simp only [go_sem, simprocAttr, Try.f54, hc, hp, unwind, modeEx, resultsOf, one]
      exact ⟨_, rfl⟩
    obtain ⟨H', h⟩ := this
    exact fun ro H nx => call_pure rfl rfl rfl tv_pure h rfl ro H nx
  · refine ⟨_, .inr (.inl ⟨hO, hcan, rfl⟩), ?_⟩
    have hp := putU_end X [boxT T, .cells 0 3 false [noTab]]
    have : ∃ H', runT env 54 [T.v] [] 0 = some (.ret (.tuple [noTab, .int .i64 31]), H') := by
      simp only [boxT, noTab, List.length_cons, List.length_nil, Nat.zero_add, Nat.reduceAdd, List.cons_append, List.nil_append] at hc hp ⊢
      rw [run_unfold fn54 rfl]
      simp only [go_sem, simprocAttr, Try.f54, hc, hp, unwind, modeEx, resultsOf, one]
      exact ⟨_, rfl⟩
    obtain ⟨H', h⟩ := this
    exact fun ro H nx => call_pure rfl rfl rfl tv_pure h rfl ro H nx
  · have hR1 := hO.R1
    obtain ⟨g, cl⟩ := clone_call hT hO
    have cl := cl 0 ([boxT T, .cells 0 3 false [noTab]] ++ setX T 2 gn f) 7
    have at0 := clone_at hO ([boxT T, .cells 0 3 false [noTab]] ++ setX T 2 gn f) g
    have H7 : ([boxT T, .cells 0 3 false [noTab]] ++ setX T 2 gn f : Heap).length = 7 := rfl
    rw [H7] at at0
    have hpu := putU_end (clX T 7 g) ([boxT T, .cells 0 3 false [noTab]] ++ setX T 2 gn f)
    rw [H7] at hpu
    have hXl := clX_len T 7 g hR1
    have at1 := at0.more [.cells 0 3 false [memT T.tab 9 10 17 0 0 g]]
    generalize hX : clX T 7 g = X at cl at0 at1 hpu hXl
    have hA : CcAt T ((([boxT T, .cells 0 3 false [noTab]] ++ setX T 2 gn f) ++ X) ++ [.cells 0 3 false [memT T.tab 9 10 17 0 0 g]]) (X.length + 7) gn g (clP' 7) T.tab := by
      refine ⟨rfl, ⟨f, hin, hci, rfl, rfl, by decide, flat_arcB _ _ _⟩, at1, get_snoc (by rw [List.length_append, H7]; omega) _, ?_, by omega, fun i hi => ?_⟩
      · rw [List.length_append, List.length_append, H7]; simp only [List.length_cons, List.length_nil]; omega
      · unfold clP'; split <;> omega
    obtain ⟨e1, s1, hx1, hp1⟩ := cc_outer hT hO hcan T.tab.R 0 _ _ _ _ _ _ _ _ _ _ _ _ _ _ _ _ _ _ _ _ _ _ _ _ _ _ _ _ _ _ _ _ _ _ _ _ _ _ _ _ _ _ _ _ _ _ _ _ _ _ _ _ _ _ _ _ _ _ _ _ _ _ _ _ _ _ _ _ _ _ _ _ _ _ _ _ (by omega) hA ((Clo.start hO).mono (fun _ h => absurd h (Nat.not_lt_zero _)) (fun _ _ _ h => absurd h (Nat.not_lt_zero _)) fun _ h => h)
    obtain ⟨rfl, Ha, ta, ⟨hA1, hC1⟩, jp, rfl⟩ := hp1
    obtain ⟨e2, s2, hx2, hp2⟩ := cc_cols hT hO hcan T.tab.C 0 _ _ _ _ _ _ _ _ _ _ _ _ _ _ _ _ _ _ _ _ _ _ _ _ _ _ _ _ _ _ _ _ _ _ _ _ _ _ _ _ _ _ _ _ _ _ _ _ _ _ _ _ _ _ _ _ _ _ _ _ _ _ _ _ _ _ _ _ _ _ _ _ _ _ _ _ (by omega) hA1 (hC1.mono (fun _ h => h) (fun _ _ _ h => h) fun _ h => absurd h (Nat.not_lt_zero _))
    obtain ⟨rfl, Hb, tb, ⟨hA2, hC2⟩, jq, rfl⟩ := hp2
    have gs := fun b : Blk => get_snoc (X := X) rfl b
    have ss := fun b b' : Blk => set_snoc (X := X) rfl b b'
    have ls := fun b : Blk => len_snoc (X := X) rfl b
    have hax := hA1.box
    have hbx := hA2.box
    have hbr := hA2.res
    have hbl := hA2.len
    have hblt := hA2.lt
    have z1 : (1 < Hb.length) = True := eq_true (by omega)
    have y3 : ∀ b, (Hb.set 1 b)[1]? = some b := fun b => List.getElem?_set_self (by omega)
    have hrun : runT env 54 [T.v] [] 0 = some (.ret (.tuple [memT T.tab 9 10 17 0 0 g, .int .i64 0]), Hb.set 1 (.cells 0 3 false [memT T.tab 9 10 17 0 0 g])) := by
      simp only [setX, boxT, netB, arcB, cellP88, memT, noTab, List.cons_append, List.nil_append, Nat.reduceAdd] at hc cl hpu hax hbx hbr ⊢
      simp only [go_sem, simprocAttr, Try.f54, setX, boxT, netB, arcB, cellP88, memT, noTab, List.cons_append, List.nil_append, Int.ofNat_zero, Int.natCast_zero, Nat.reduceAdd] at hx1 hx2
      rw [run_unfold fn54 rfl]
      simp only [go_sem, simprocAttr, Try.f54, numbered, hc, cl, hpu, gs, ss, ls, Nat.lt_add_one, Nat.zero_le]
      rw [hx1]
      simp only [go_sem, simprocAttr, hax]
      rw [hx2]
      simp only [go_sem, simprocAttr, hbx, hbr, y3, z1, unwind, modeEx, resultsOf, one]
    have tR := hC2.R
    have tC := hC2.C
    have yat : TbAt (Hb.set 1 (.cells 0 3 false [memT T.tab 9 10 17 0 0 g])) 9 10 17 0 0 g (clP' 7) tb := by
      refine hA2.tab.mono fun j hj => List.getElem?_set_ne ?_
      rcases hj with rfl | rfl | rfl | ⟨m, hm, rfl⟩
      · decide
      · decide
      · decide
      · have := (hA2.ps m (by omega)).1
        omega
    have hmt : memT T.tab 9 10 17 0 0 g = memT tb 9 10 17 0 0 g := by unfold memT; rw [tR, tC]
    have hb := yat.back (n := 1) (by rw [hC2.len, tR]) (by rw [tC]; exact hC2.wid)
    have hb : handBack (Hb.set 1 (.cells 0 3 false [memT T.tab 9 10 17 0 0 g])) 0 [] 3 (memT T.tab 9 10 17 0 0 g) = some (canon tb).v := by rw [hmt] at hb ⊢; exact hb
    refine ⟨_, .inr (.inr ⟨hO, hcan, tb, hC2, rfl⟩), fun ro H nx => ?_⟩
    refine call_back rfl rfl rfl tv_pure hrun ?_ rfl ro H nx
    unfold handBack
    simp only [mapO, hb]
    rfl

set_option maxRecDepth 10000
set_option maxHeartbeats 4000000

theorem sz_at {s : SlV} (h : s.l = [] ∨ s.sz = 2) {i : Nat} (hi : i < s.l.length) : s.sz = 2 := by
  rcases h with h | h
  · rw [h] at hi; simp at hi
  · exact h

theorem sm_loop {s u : SlV} (hs : s.l = [] ∨ s.sz = 2) (hu : u.l = [] ∨ u.sz = 2) (he : s.l = u.l) (hlen : s.l.length < 2 ^ 62) : ∀ (n i : Nat) (j2 j3 j6 j7 j8 j9 j10 j11 j12 j13 j14 j15 j16 j17 j18 j19 j20 j21 j22 j23 j24 j25 : AVal), i + n = s.l.length →
    Goes (execT env (Try.f114.at [1, 1, 0, 1, 0]) ⟨[s.v, u.v, j2, j3, .bool false, .int .i64 i, j6, j7, j8, j9, j10, j11, j12, j13, j14, j15, j16, j17, j18, j19, j20, j21, j22, j23, j24, j25], [], [], 0, []⟩) fun ex st =>
      ex = .exit 0 ∧ FrP 26 [] [] [] 0 [] st := by
  intro n
  induction n with
  | zero =>
    intro i; intros; rename_i hi
    have hd : decide ((i : Int) < (s.l.length : Int)) = false := by simp; omega
    simp only [go_sem, simprocAttr, Try.f114, SlV.v]
    rw [exec_loop]
    simp only [go_sem, simprocAttr, List.length_map, hd]
    exact frP (by kernel_rfl)
  | succ n ih =>
    intro i; intros; rename_i hi
    have hd : decide ((i : Int) < (s.l.length : Int)) = true := by simp; omega
    have i0 : (0 : Int) ≤ (i : Int) := by omega
    obtain ⟨x, hx⟩ : ∃ x, s.l[i]? = some x := ⟨s.l[i], List.getElem?_eq_getElem (by omega)⟩
    have g1 : (s.l.map spV)[i]? = some (spV x) := by rw [List.getElem?_map, hx]; rfl
    have g2 : (u.l.map spV)[i]? = some (spV x) := by rw [← he]; exact g1
    have z1 := eq_true (sz_at hs (i := i) (by omega))
    have z2 := eq_true (sz_at hu (i := i) (by rw [← he]; omega))
    have dd : ∀ x : Int, decide (x = x) = true := fun x => decide_eq_true rfl
    have ih' := ih (i + 1)
    simp only [go_sem, simprocAttr, Try.f114, SlV.v] at ih' ⊢
    rw [exec_loop]
    simp only [go_sem, simprocAttr, List.length_map, hd, i0, Int.toNat_natCast, g1, g2, z1, z2, neq_spV, dd, trunc, wrap_succ (show i < 2 ^ 63 - 1 by omega)]
    exact ih' _ _ _ _ _ _ _ _ _ _ _ _ _ _ _ _ _ _ _ _ _ _ (by omega)

theorem same_call {s u : SlV} (hs : s.l = [] ∨ s.sz = 2) (hu : u.l = [] ∨ u.sz = 2) (he : s.l = u.l) (hlen : s.l.length < 2 ^ 62) (ro : Nat) (H : Heap) (nx : Nat) : callT env 114 [s.v, u.v] ro H nx = some (.ret (.bool true), .ups []) := by
  have : ∃ H', runT env 114 [s.v, u.v] [] 0 = some (.ret (.bool true), H') := by
    obtain ⟨ex, st, hx, hp⟩ := sm_loop hs hu he hlen s.l.length 0 _ _ _ _ _ _ _ _ _ _ _ _ _ _ _ _ _ _ _ _ _ _ (by omega)
    obtain ⟨rfl, jp, rfl⟩ := hp
    have hd : decide ((s.l.length : Int) = (u.l.length : Int)) = true := by rw [he]; exact decide_eq_true rfl
    simp only [go_sem, simprocAttr, Try.f114, SlV.v, Int.ofNat_zero, Int.natCast_zero] at hx
    rw [run_unfold fn114 rfl]
    simp only [go_sem, simprocAttr, Try.f114, SlV.v, List.length_map, hd]
    rw [hx]
    simp only [go_sem, simprocAttr, unwind, modeEx, resultsOf, one]
    exact ⟨_, rfl⟩
  obtain ⟨H', h⟩ := this
  have hp : ∀ s : SlV, s.v.under 0 = true := fun s => rfl
  exact call_pure rfl rfl rfl (by simp [underL, hp]) h rfl ro H nx

theorem Sm_loop {T U : TabV} (hT : T.Wf) (hU : U.Wf) (he : T.tab = U.tab) (hl : ∀ s ∈ T.cells, s.l.length < 2 ^ 62) (hcl : T.cells.length < 2 ^ 62) : ∀ (n i : Nat) (j0 j1 j6 j7 j8 j9 j10 j11 j12 j13 j14 j15 j16 j17 j18 j19 j20 j21 j22 j23 j24 j25 j26 j27 j28 j29 j30 j31 j32 j33 j34 j35 j36 j37 j38 j39 j40 j41 j42 j43 j44 j45 j46 j47 : AVal), i + n = T.cells.length →
    Goes (execT env (Try.f52.at [1, 1, 0, 1, 0]) ⟨[j0, j1, .ptr 0 0 0 0, .ptr 1 0 0 0, .bool false, .int .i64 i, j6, j7, j8, j9, j10, j11, j12, j13, j14, j15, j16, j17, j18, j19, j20, j21, j22, j23, j24, j25, j26, j27, j28, j29, j30, j31, j32, j33, j34, j35, j36, j37, j38, j39, j40, j41, j42, j43, j44, j45, j46, j47], [boxT T, boxT U], [], 0, []⟩) fun ex st =>
      ex = .exit 0 ∧ FrP 48 [] [boxT T, boxT U] [] 0 [] st := by
  have hc : T.cells.map (·.l) = U.cells.map (·.l) := congrArg Tab.cells he
  have hlu : U.cells.length = T.cells.length := by have := congrArg List.length hc; simpa using this.symm
  intro n
  induction n with
  | zero =>
    intro i; intros; rename_i hi
    have hd : decide ((i : Int) < (T.cells.length : Int)) = false := by simp; omega
    simp only [go_sem, simprocAttr, Try.f52, boxT]
    rw [exec_loop]
    simp only [go_sem, simprocAttr, List.length_map, hd]
    exact frP (by kernel_rfl)
  | succ n ih =>
    intro i; intros; rename_i hi
    have hiT : i < T.cells.length := by omega
    have hd : decide ((i : Int) < (T.cells.length : Int)) = true := by simp; omega
    have i0 : (0 : Int) ≤ (i : Int) := by omega
    obtain ⟨s, hs⟩ : ∃ x, T.cells[i]? = some x := ⟨T.cells[i], List.getElem?_eq_getElem hiT⟩
    obtain ⟨u, hu⟩ : ∃ x, U.cells[i]? = some x := ⟨U.cells[i]'(by omega), List.getElem?_eq_getElem (by omega)⟩
    have hsu : s.l = u.l := by
      have := congrArg (fun l => l[i]?) hc
      simpa [hs, hu] using this
    have g1 : (T.cells.map SlV.v)[i]? = some s.v := by rw [List.getElem?_map, hs]; rfl
    have g2 : (U.cells.map SlV.v)[i]? = some u.v := by rw [List.getElem?_map, hu]; rfl
    have z1 : (T.sz = 1) = True := eq_true (by
      rcases hT.cells with h | h
      · rw [h] at hiT; simp at hiT
      · exact h)
    have z2 : (U.sz = 1) = True := eq_true (by
      rcases hU.cells with h | h
      · rw [h] at hlu; simp at hlu; omega
      · exact h)
    have sc := same_call (hT.each s (List.mem_of_getElem? hs)) (hU.each u (List.mem_of_getElem? hu)) hsu (hl s (List.mem_of_getElem? hs))
    have ih' := ih (i + 1)
    simp only [SlV.v] at g1 g2 sc
    simp only [go_sem, simprocAttr, Try.f52, boxT] at ih' ⊢
    rw [exec_loop]
    simp only [go_sem, simprocAttr, List.length_map, hd, i0, Int.toNat_natCast, g1, g2, z1, z2, sc, trunc, wrap_succ (show i < 2 ^ 63 - 1 by omega)]
    exact ih' _ _ _ _ _ _ _ _ _ _ _ _ _ _ _ _ _ _ _ _ _ _ _ _ _ _ _ _ _ _ _ _ _ _ _ _ _ _ _ _ _ _ _ _ (by omega)

theorem Same_call {T U : TabV} (hT : T.Wf) (hU : U.Wf) (he : T.tab = U.tab) (hr : T.rows.l.length < 2 ^ 62) (hc : T.cols.l.length < 2 ^ 62) (hl : ∀ s ∈ T.cells, s.l.length < 2 ^ 62) (hcl : T.cells.length < 2 ^ 62) (ro : Nat) (H : Heap) (nx : Nat) : callT env 52 [T.v, U.v] ro H nx = some (.ret (.bool true), .ups []) := by
  have : ∃ H', runT env 52 [T.v, U.v] [] 0 = some (.ret (.bool true), H') := by
    obtain ⟨ex, st, hx, hp⟩ := Sm_loop hT hU he hl hcl T.cells.length 0 _ _ _ _ _ _ _ _ _ _ _ _ _ _ _ _ _ _ _ _ _ _ _ _ _ _ _ _ _ _ _ _ _ _ _ _ _ _ _ _ _ _ _ _ (by omega)
    obtain ⟨rfl, jp, rfl⟩ := hp
    have s1 := same_call hT.rows hU.rows (congrArg Tab.rows he) hr
    have s2 := same_call hT.cols hU.cols (congrArg Tab.cols he) hc
    have hcc : T.cells.map (·.l) = U.cells.map (·.l) := congrArg Tab.cells he
    have hd : decide ((T.cells.length : Int) = (U.cells.length : Int)) = true := by
      have := congrArg List.length hcc
      simp only [List.length_map] at this
      rw [this]; exact decide_eq_true rfl
    simp only [SlV.v] at s1 s2
    simp only [go_sem, simprocAttr, Try.f52, boxT, Int.ofNat_zero, Int.natCast_zero] at hx
    rw [run_unfold fn52 rfl]
    simp only [go_sem, simprocAttr, Try.f52, s1, s2, List.length_map, hd]
    rw [hx]
    simp only [go_sem, simprocAttr, unwind, modeEx, resultsOf, one]
    exact ⟨_, rfl⟩
  obtain ⟨H', h⟩ := this
  exact call_pure rfl rfl rfl (by simp [underL, TabV.under]) h rfl ro H nx

set_option maxRecDepth 10000
set_option maxHeartbeats 4000000

set_option maxRecDepth 10000
set_option maxHeartbeats 4000000

set_option maxRecDepth 10000
set_option maxHeartbeats 4000000

set_option maxRecDepth 10000
set_option maxHeartbeats 4000000

set_option maxRecDepth 10000
set_option maxHeartbeats 2000000

def cellsGd (t : Tab) (x : Nat → Nat → Int) (i : Nat) : Bool := allN (fun k => (t.cell i k).has (x i k)) 0 t.C
def rowGd (t : Tab) (m : List (List Int)) (i : Nat) : Bool := decide ((m.getD i []).length = t.C) && (cellsGd t (matOf m) i && (t.row i).has (sumN t.C (matOf m i)))

def alH (T : TabV) (M : MatV) (i k : Nat) : Heap := [boxT T, .cells 0 1 true (intsV T.tab.C (cS (matOf M.m) i k))]

def Before (t : Tab) (x : Nat → Nat → Int) (i : Nat) : Prop := ∀ i', i' < i → ∀ k, k < t.C → 0 ≤ x i' k ∧ x i' k ≤ 2 ^ 30

theorem al_inner {T : TabV} {M : MatV} (hT : T.Wf) (hO : T.tab.Ok) (hM : M.Wf) {i : Nat} (hi : i < T.tab.R) {b : SlI} (hb : M.rows[i]? = some b) (hw : b.l.length = T.tab.C) (hB : Before T.tab (matOf M.m) i) : ∀ (n k : Nat) (j0 j1 j3 j4 j8 j10 j11 j12 j13 j14 j15 j16 j17 j18 j19 j20 j21 j22 j23 j27 j28 j29 j30 j31 j32 j33 j34 j35 j36 j40 j41 j42 j43 j44 j45 j46 j47 j48 j49 j50 j51 j52 j53 j54 j55 j56 j57 j58 j59 j60 j61 j62 j63 j64 j65 j66 j67 j68 j69 j70 j71 j72 j73 j74 j75 j76 j77 j78 j79 j80 j81 j82 j83 j84 j85 j86 j87 j88 j89 j90 j91 j92 j93 : AVal), k + n = T.tab.C → (∀ j, j < k → 0 ≤ matOf M.m i j ∧ matOf M.m i j ≤ 2 ^ 30) →
    Goes (execT env (Try.f39.at [1, 1, 1, 1, 0, 1, 0, 0, 1, 1, 0, 0, 1, 1, 1, 0, 1, 0]) ⟨[j0, j1, .ptr 0 0 0 0, j3, j4, .func 101 [] [], .ref 1 0 0 T.tab.C false, .int .i64 i, j8, .int .i64 (sumN k (matOf M.m i)), j10, j11, j12, j13, j14, j15, j16, j17, j18, j19, j20, j21, j22, j23, .lit M.cl M.sz (M.rows.map SlI.v), .int .i64 T.tab.R, .int .i64 i, j27, j28, j29, j30, j31, j32, j33, j34, j35, j36, .lit b.cl b.sz (b.l.map (AVal.int .i64)), .int .i64 T.tab.C, .int .i64 k, j40, j41, j42, j43, j44, j45, j46, j47, j48, j49, j50, j51, j52, j53, j54, j55, j56, j57, j58, j59, j60, j61, j62, j63, j64, j65, j66, j67, j68, j69, j70, j71, j72, j73, j74, j75, j76, j77, j78, j79, j80, j81, j82, j83, j84, j85, j86, j87, j88, j89, j90, j91, j92, j93], alH T M i k, [], 0, []⟩) fun ex st =>
      if allN (fun k => (T.tab.cell i k).has (matOf M.m i k)) k n then ex = .exit 2 ∧ (∀ j, j < T.tab.C → 0 ≤ matOf M.m i j ∧ matOf M.m i j ≤ 2 ^ 30) ∧ FrP 94 [(2, .ptr 0 0 0 0), (5, .func 101 [] []), (6, .ref 1 0 0 T.tab.C false), (7, .int .i64 i), (9, .int .i64 (sumN T.tab.C (matOf M.m i))), (24, .lit M.cl M.sz (M.rows.map SlI.v)), (25, .int .i64 T.tab.R), (26, .int .i64 i)] (alH T M i T.tab.C) [] 0 [] st
      else ex = .ret ∧ ∃ (H : Heap), FrP 94 [(4, .bool false)] H [] 0 [] st := by
  have hR8 := hO.R8
  have hC8 := hO.C8
  intro n
  induction n with
  | zero =>
    intro k; intros; rename_i hk hj
    have hd : decide ((k : Int) < (T.tab.C : Int)) = false := by simp; omega
    have : k = T.tab.C := by omega
    subst this
    simp only [go_sem, simprocAttr, Try.f39]
    rw [exec_loop]
    simp only [go_sem, simprocAttr, hd]
    exact ⟨hj, frP (by kernel_rfl)⟩
  | succ n ih =>
    intro k; intros; rename_i hk hj
    have hkC : k < T.tab.C := by omega
    have hd : decide ((k : Int) < (T.tab.C : Int)) = true := by simp; omega
    have h0 : (0 : Int) ≤ (k : Int) := by omega
    have h0i : (0 : Int) ≤ (i : Int) := by omega
    obtain ⟨c, hcm, hc1, hc2, hc3, _, _⟩ := TabV.at hT hO hi hkC
    obtain ⟨x, hx, _⟩ := get_drop (show k < b.l.length by omega)
    have hz := sz_of (hM.each b (List.mem_of_getElem? hb)) hx
    have hx' : (b.l.map (AVal.int .i64))[k]? = some (.int .i64 x) := by simp [hx]
    have hm := matOf_get hb hx
    cases hp : (T.tab.cell i k).has (matOf M.m i k) with
    | false =>
      have hp' := hp
      rw [hm] at hp'
      simp only [go_sem, simprocAttr, Try.f39, alH, boxT]
      rw [exec_loop]
      simp only [go_sem, simprocAttr, hd, h0, h0i, Int.toNat_natCast, hc1, hc2, hc3, hx', hz, hp', allN, hp]
      exact ⟨_, frP (by kernel_rfl)⟩
    | true =>
      have hp' := hp
      rw [hm] at hp'
      have hxb := hO.cell_ok hi hkC
      have hxh := Spn.has_iff.1 hp
      have b1 := sumN_bd (n := k) (f := matOf M.m i) (B := 2 ^ 30) hj
      have b2 := sumN_bd (n := i) (f := fun i => matOf M.m i k) (B := 2 ^ 30) fun j hj => hB j hj k hkC
      have g2 : (intsV T.tab.C (cS (matOf M.m) i k))[k]? = some (.int .i64 (sumN i fun i => matOf M.m i k)) := by rw [intsV_get hkC]; simp [cS]
      have w1 : IntKind.i64.wrap (sumN k (matOf M.m i) + x) = sumN (k + 1) (matOf M.m i) := by rw [i64_in _ (by omega)]; simp only [sumN, hm]
      have w2 : IntKind.i64.wrap (sumN i (fun i => matOf M.m i k) + x) = sumN i (fun i => matOf M.m i k) + x := i64_in _ (by omega)
      have s2 : (intsV T.tab.C (cS (matOf M.m) i k)).set k (.int .i64 (sumN i (fun i => matOf M.m i k) + x)) = intsV T.tab.C (cS (matOf M.m) i (k + 1)) := intsV_set fun j hj => by
        unfold cS
        by_cases e : j = k
        · subst e; rw [if_pos (by omega), if_pos rfl]; simp only [sumN]; rw [hm]
        · rw [if_neg e]
          by_cases e2 : j < k
          · rw [if_pos e2, if_pos (by omega)]
          · rw [if_neg e2, if_neg (by omega)]
      have ih' := ih (k + 1)
      simp only [go_sem, simprocAttr, Try.f39, hz, alH, boxT] at ih' ⊢
      rw [exec_loop]
      simp only [go_sem, simprocAttr, hd, h0, h0i, Int.toNat_natCast, hc1, hc2, hc3, hx', hz, hp', allN, hp, g2, w1, w2, s2, wrap_succ (show k < 2 ^ 63 - 1 by omega)]
      refine ih' _ _ _ _ _ _ _ _ _ _ _ _ _ _ _ _ _ _ _ _ _ _ _ _ _ _ _ _ _ _ _ _ _ _ _ _ _ _ _ _ _ _ _ _ _ _ _ _ _ _ _ _ _ _ _ _ _ _ _ _ _ _ _ _ _ _ _ _ _ _ _ _ _ _ _ _ _ _ _ _ _ _ _ (by omega) fun j hj' => ?_
      by_cases e : j = k
      · subst e; omega
      · exact hj j (by omega)

theorem al_outer {T : TabV} {M : MatV} (hT : T.Wf) (hO : T.tab.Ok) (hM : M.Wf) (hl : M.rows.length = T.tab.R) : ∀ (n i : Nat) (j0 j1 j3 j4 j7 j8 j9 j10 j11 j12 j13 j14 j15 j16 j17 j18 j19 j20 j21 j22 j23 j27 j28 j29 j30 j31 j32 j33 j34 j35 j36 j37 j38 j39 j40 j41 j42 j43 j44 j45 j46 j47 j48 j49 j50 j51 j52 j53 j54 j55 j56 j57 j58 j59 j60 j61 j62 j63 j64 j65 j66 j67 j68 j69 j70 j71 j72 j73 j74 j75 j76 j77 j78 j79 j80 j81 j82 j83 j84 j85 j86 j87 j88 j89 j90 j91 j92 j93 : AVal), i + n = T.tab.R → Before T.tab (matOf M.m) i →
    Goes (execT env (Try.f39.at [1, 1, 1, 1, 0, 1, 0]) ⟨[j0, j1, .ptr 0 0 0 0, j3, j4, .func 101 [] [], .ref 1 0 0 T.tab.C false, j7, j8, j9, j10, j11, j12, j13, j14, j15, j16, j17, j18, j19, j20, j21, j22, j23, .lit M.cl M.sz (M.rows.map SlI.v), .int .i64 T.tab.R, .int .i64 i, j27, j28, j29, j30, j31, j32, j33, j34, j35, j36, j37, j38, j39, j40, j41, j42, j43, j44, j45, j46, j47, j48, j49, j50, j51, j52, j53, j54, j55, j56, j57, j58, j59, j60, j61, j62, j63, j64, j65, j66, j67, j68, j69, j70, j71, j72, j73, j74, j75, j76, j77, j78, j79, j80, j81, j82, j83, j84, j85, j86, j87, j88, j89, j90, j91, j92, j93], alH T M i 0, [], 0, []⟩) fun ex st =>
      if allN (rowGd T.tab M.m) i n then ex = .exit 0 ∧ Before T.tab (matOf M.m) T.tab.R ∧ FrP 94 [(2, .ptr 0 0 0 0), (5, .func 101 [] []), (6, .ref 1 0 0 T.tab.C false)] (alH T M T.tab.R 0) [] 0 [] st
      else ex = .ret ∧ ∃ (H : Heap), FrP 94 [(4, .bool false)] H [] 0 [] st := by
  have hR8 := hO.R8
  have hC8 := hO.C8
  intro n
  induction n with
  | zero =>
    intro i; intros; rename_i hi hB
    have hd : decide ((i : Int) < (T.tab.R : Int)) = false := by simp; omega
    have : i = T.tab.R := by omega
    subst this
    simp only [go_sem, simprocAttr, Try.f39]
    rw [exec_loop]
    simp only [go_sem, simprocAttr, hd]
    exact ⟨hB, frP (by kernel_rfl)⟩
  | succ n ih =>
    intro i; intros; rename_i hi hB
    have hiR : i < T.tab.R := by omega
    have hd : decide ((i : Int) < (T.tab.R : Int)) = true := by simp; omega
    have h0i : (0 : Int) ≤ (i : Int) := by omega
    obtain ⟨b, hb, _⟩ := get_drop (show i < M.rows.length by omega)
    have hz := sz_of hM.sz hb
    have hbm : b ∈ M.rows := List.mem_of_getElem? hb
    have hb' : (M.rows.map SlI.v)[i]? = some (.lit b.cl b.sz (b.l.map (AVal.int .i64))) := by simp [hb, SlI.v]
    have hbl : (M.m.getD i []).length = b.l.length := by simp [MatV.m, hb]
    have hbb := hM.le b hbm
    have lc : T.cols.l.length = T.tab.C := rfl
    have el : decide ((b.l.length : Int) = (T.tab.C : Int)) = decide (b.l.length = T.tab.C) := decide_eq_decide.2 (by omega)
    obtain ⟨r1, r2⟩ := TabV.rowAt hT hiR
    cases hw : decide (b.l.length = T.tab.C) with
    | false =>
      have hg : rowGd T.tab M.m i = false := by unfold rowGd; rw [hbl, hw]; rfl
      simp only [go_sem, simprocAttr, Try.f39, alH, boxT]
      rw [exec_loop]
      simp only [go_sem, simprocAttr, hd, h0i, Int.toNat_natCast, hb', hz, List.length_map, lc, el, hw, allN, hg]
      exact ⟨_, frP (by kernel_rfl)⟩
    | true =>
      have hwl := of_decide_eq_true hw
      obtain ⟨ex, st, hx, hp⟩ := al_inner hT hO hM hiR hb hwl hB T.tab.C 0 _ _ _ _ _ _ _ _ _ _ _ _ _ _ _ _ _ _ _ _ _ _ _ _ _ _ _ _ _ _ _ _ _ _ _ _ _ _ _ _ _ _ _ _ _ _ _ _ _ _ _ _ _ _ _ _ _ _ _ _ _ _ _ _ _ _ _ _ _ _ _ _ _ _ _ _ _ _ _ _ _ _ _ (by omega) (fun j hj => by omega)
      have hs0 : sumN 0 (matOf M.m i) = 0 := rfl
      have dcc : decide ((T.tab.C : Int) = (T.tab.C : Int)) = true := decide_eq_true rfl
      simp only [go_sem, simprocAttr, Try.f39, hz, Int.ofNat_zero, Int.natCast_zero, hs0, alH, boxT] at hx
      cases hr : cellsGd T.tab (matOf M.m) i with
      | false =>
        have hr' : allN (fun k => (T.tab.cell i k).has (matOf M.m i k)) 0 T.tab.C = false := hr
        have hg : rowGd T.tab M.m i = false := by unfold rowGd; rw [hbl, hw, hr]; rfl
        rw [hr', if_neg (by simp)] at hp
        obtain ⟨rfl, H, jp, rfl⟩ := hp
        simp only [go_sem, simprocAttr, Try.f39, hz, alH, boxT]
        rw [exec_loop]
        simp only [go_sem, simprocAttr, hd, h0i, Int.toNat_natCast, hb', hz, List.length_map, lc, hwl, dcc]
        rw [hx]
        simp only [go_sem, simprocAttr, allN, hg]
        exact ⟨_, frP (by kernel_rfl)⟩
      | true =>
        have hr' : allN (fun k => (T.tab.cell i k).has (matOf M.m i k)) 0 T.tab.C = true := hr
        rw [hr', if_pos rfl] at hp
        obtain ⟨rfl, hnow, jp, rfl⟩ := hp
        cases hs : (T.tab.row i).has (sumN T.tab.C (matOf M.m i)) with
        | false =>
          have hg : rowGd T.tab M.m i = false := by unfold rowGd; rw [hbl, hw, hr, hs]; rfl
          simp only [go_sem, simprocAttr, Try.f39, hz, alH, boxT]
          rw [exec_loop]
          simp only [go_sem, simprocAttr, hd, h0i, Int.toNat_natCast, hb', hz, List.length_map, lc, hwl, dcc]
          rw [hx]
          simp only [go_sem, simprocAttr, alH, boxT, allN, hg, h0i, Int.toNat_natCast, r1, r2, hs]
          exact ⟨_, frP (by kernel_rfl)⟩
        | true =>
          have hg : rowGd T.tab M.m i = true := by unfold rowGd; rw [hbl, hw, hr, hs]; rfl
          have q2 : intsV T.tab.C (cS (matOf M.m) i T.tab.C) = intsV T.tab.C (cS (matOf M.m) (i + 1) 0) := by
            refine intsV_congr fun j hj => ?_
            unfold cS
            rw [if_pos hj, if_neg (by omega)]
          have ih' := ih (i + 1)
          simp only [go_sem, simprocAttr, Try.f39, hz, alH, boxT] at ih' ⊢
          rw [exec_loop]
          simp only [go_sem, simprocAttr, hd, h0i, Int.toNat_natCast, hb', hz, List.length_map, lc, hwl, dcc]
          rw [hx]
          simp only [go_sem, simprocAttr, hz, alH, boxT, allN, hg, h0i, Int.toNat_natCast, r1, r2, hs, q2, wrap_succ (show i < 2 ^ 63 - 1 by omega)]
          refine ih' _ _ _ _ _ _ _ _ _ _ _ _ _ _ _ _ _ _ _ _ _ _ _ _ _ _ _ _ _ _ _ _ _ _ _ _ _ _ _ _ _ _ _ _ _ _ _ _ _ _ _ _ _ _ _ _ _ _ _ _ _ _ _ _ _ _ _ _ _ _ _ _ _ _ _ _ _ _ _ _ _ _ _ _ _ _ _ _ (by omega) fun i' hi' k hk => ?_
          by_cases e : i' = i
          · subst e; exact hnow k hk
          · exact hB i' (by omega) k hk

theorem al_cols {T : TabV} (hT : T.Wf) (hO : T.tab.Ok) (f : Nat → Int) : ∀ (n i : Nat) (j0 j1 j3 j4 j6 j7 j8 j9 j10 j11 j12 j13 j14 j15 j16 j17 j18 j19 j20 j21 j22 j23 j24 j25 j26 j27 j28 j29 j30 j31 j32 j33 j34 j35 j36 j37 j38 j39 j40 j41 j42 j43 j44 j45 j46 j47 j48 j49 j50 j51 j52 j53 j54 j55 j56 j57 j58 j59 j60 j61 j62 j63 j64 j65 j66 j67 j68 j69 j70 j71 j72 j73 j74 j75 j76 j80 j81 j82 j83 j84 j85 j86 j87 j88 j89 j90 j91 j92 j93 : AVal), i + n = T.tab.C →
    Goes (execT env (Try.f39.at [1, 1, 1, 1, 1, 0, 1, 0]) ⟨[j0, j1, .ptr 0 0 0 0, j3, j4, .func 101 [] [], j6, j7, j8, j9, j10, j11, j12, j13, j14, j15, j16, j17, j18, j19, j20, j21, j22, j23, j24, j25, j26, j27, j28, j29, j30, j31, j32, j33, j34, j35, j36, j37, j38, j39, j40, j41, j42, j43, j44, j45, j46, j47, j48, j49, j50, j51, j52, j53, j54, j55, j56, j57, j58, j59, j60, j61, j62, j63, j64, j65, j66, j67, j68, j69, j70, j71, j72, j73, j74, j75, j76, .ref 1 0 0 T.tab.C false, .int .i64 T.tab.C, .int .i64 i, j80, j81, j82, j83, j84, j85, j86, j87, j88, j89, j90, j91, j92, j93], [boxT T, .cells 0 1 true (intsV T.tab.C f)], [], 0, []⟩) fun ex st =>
      if allN (fun i => (T.tab.col i).has (f i)) i n then ex = .exit 4 ∧ ∃ (H : Heap), FrP 94 [] H [] 0 [] st
      else ex = .ret ∧ ∃ (H : Heap), FrP 94 [(4, .bool false)] H [] 0 [] st := by
  have hC8 := hO.C8
  intro n
  induction n with
  | zero =>
    intro i; intros; rename_i hi
    have hd : decide ((i : Int) < (T.tab.C : Int)) = false := by simp; omega
    simp only [go_sem, simprocAttr, Try.f39]
    rw [exec_loop]
    simp only [go_sem, simprocAttr, hd]
    exact ⟨_, frP (by kernel_rfl)⟩
  | succ n ih =>
    intro i; intros; rename_i hi
    have hiC : i < T.tab.C := by omega
    have hd : decide ((i : Int) < (T.tab.C : Int)) = true := by simp; omega
    have h0i : (0 : Int) ≤ (i : Int) := by omega
    obtain ⟨r1, r2⟩ := TabV.colAt hT hiC
    have g1 := intsV_get (f := f) hiC
    cases hp : (T.tab.col i).has (f i) with
    | false =>
      simp only [go_sem, simprocAttr, Try.f39, boxT]
      rw [exec_loop]
      simp only [go_sem, simprocAttr, hd, h0i, Int.toNat_natCast, r1, r2, g1, allN, hp]
      exact ⟨_, frP (by kernel_rfl)⟩
    | true =>
      have ih' := ih (i + 1)
      simp only [go_sem, simprocAttr, Try.f39, boxT] at ih' ⊢
      rw [exec_loop]
      simp only [go_sem, simprocAttr, hd, h0i, Int.toNat_natCast, r1, r2, g1, allN, hp, wrap_succ (show i < 2 ^ 63 - 1 by omega)]
      exact ih' _ _ _ _ _ _ _ _ _ _ _ _ _ _ _ _ _ _ _ _ _ _ _ _ _ _ _ _ _ _ _ _ _ _ _ _ _ _ _ _ _ _ _ _ _ _ _ _ _ _ _ _ _ _ _ _ _ _ _ _ _ _ _ _ _ _ _ _ _ _ _ _ _ _ _ _ _ _ _ _ _ _ _ _ _ _ _ _ _ (by omega)

def alwB (t : Tab) (m : List (List Int)) : Bool := dimsB t m && fitsB t (matOf m)

def alw' (t : Tab) (m : List (List Int)) : Bool := decide (m.length = t.R) && (allN (rowGd t m) 0 t.R && allN (fun k => (t.col k).has (sumN t.R fun i => matOf m i k)) 0 t.C)

theorem alw_eq (t : Tab) (m : List (List Int)) : alwB t m = alw' t m := by
  rw [Bool.eq_iff_iff]
  unfold alwB alw' dimsB fitsB
  simp only [Bool.and_eq_true, decide_eq_true_eq, allN_iff, List.all_eq_true, rowGd, cellsGd]
  constructor
  · rintro ⟨⟨h1, h2⟩, h3, h4, h5⟩
    refine ⟨h1, fun j a b => ⟨?_, h3 j a b, h4 j a b⟩, h5⟩
    exact h2 _ (getD_mem (by omega) [])
  · rintro ⟨h1, h2, h3⟩
    refine ⟨⟨h1, fun l hl => ?_⟩, fun j a b => (h2 j a b).2.1, fun j a b => (h2 j a b).2.2, h3⟩
    obtain ⟨i, hi, e⟩ := List.getElem_of_mem hl
    have := (h2 i (by omega) (by omega)).1
    rw [List.getD_eq_getElem?_getD, List.getElem?_eq_getElem hi] at this
    simpa [e] using this

theorem allowed_call {T : TabV} {M : MatV} (hT : T.Wf) (hO : T.tab.Ok) (hM : M.Wf) (ro : Nat) (H : Heap) (nx : Nat) : callT env 39 [T.v, M.v] ro H nx = some (.ret (.bool (alwB T.tab M.m)), .ups []) := by
  have hC8 := hO.C8
  have hR8 := hO.R8
  have : ∃ H', runT env 39 [T.v, M.v] [] 0 = some (.ret (.bool (alwB T.tab M.m)), H') := by
    rw [alw_eq]
    unfold alw'
    have hll := hM.len
    have lr : T.rows.l.length = T.tab.R := rfl
    have lc : T.cols.l.length = T.tab.C := rfl
    have lm : M.m.length = M.rows.length := by simp [MatV.m]
    have el : decide ((M.rows.length : Int) = (T.tab.R : Int)) = decide (M.rows.length = T.tab.R) := decide_eq_decide.2 (by omega)
    rw [lm, run_unfold fn39 rfl]
    cases h1 : decide (M.rows.length = T.tab.R) with
    | false =>
      simp only [go_sem, simprocAttr, Try.f39, MatV.v, List.length_map, lr, el, h1, unwind, modeEx, resultsOf, one]
      exact ⟨_, rfl⟩
    | true =>
      have h1' := of_decide_eq_true h1
      have d1 : decide ((T.tab.R : Int) = (T.tab.R : Int)) = true := decide_eq_true rfl
      have c0 : (0 : Int) ≤ (T.tab.C : Int) := by omega
      have m1 : T.tab.C * 9 ≤ maxBytes := by unfold maxBytes; omega
      have e0 : intsV T.tab.C (cS (matOf M.m) 0 0) = List.replicate T.tab.C (AVal.int .i64 0) := by
        rw [intsV_rep]
        exact intsV_congr fun j hj => by unfold cS; rw [if_neg (by omega)]; rfl
      obtain ⟨ex, st, hx, hp⟩ := al_outer hT hO hM h1' T.tab.R 0 _ _ _ _ _ _ _ _ _ _ _ _ _ _ _ _ _ _ _ _ _ _ _ _ _ _ _ _ _ _ _ _ _ _ _ _ _ _ _ _ _ _ _ _ _ _ _ _ _ _ _ _ _ _ _ _ _ _ _ _ _ _ _ _ _ _ _ _ _ _ _ _ _ _ _ _ _ _ _ _ _ _ _ _ _ _ _ _ (by omega) (fun i' hi' => by omega)
      simp only [go_sem, simprocAttr, Try.f39, Int.ofNat_zero, Int.natCast_zero, alH, boxT, e0] at hx
      simp only [go_sem, simprocAttr, Try.f39, MatV.v, List.length_map, lr, lc, h1', d1, Int.toNat_natCast, c0, m1]
      rw [hx]
      cases hr : allN (rowGd T.tab M.m) 0 T.tab.R with
      | false =>
        rw [hr, if_neg (by simp)] at hp
        obtain ⟨rfl, H2, jp, rfl⟩ := hp
        simp only [go_sem, simprocAttr, unwind, modeEx, resultsOf, one]
        exact ⟨_, rfl⟩
      | true =>
        rw [hr, if_pos rfl] at hp
        obtain ⟨rfl, hB, jp, rfl⟩ := hp
        obtain ⟨ex2, st2, hx2, hp2⟩ := al_cols hT hO (cS (matOf M.m) T.tab.R 0) T.tab.C 0 _ _ _ _ _ _ _ _ _ _ _ _ _ _ _ _ _ _ _ _ _ _ _ _ _ _ _ _ _ _ _ _ _ _ _ _ _ _ _ _ _ _ _ _ _ _ _ _ _ _ _ _ _ _ _ _ _ _ _ _ _ _ _ _ _ _ _ _ _ _ _ _ _ _ _ _ _ _ _ _ _ _ _ _ _ _ _ _ _ (by omega)
        have e2 : allN (fun i => (T.tab.col i).has (cS (matOf M.m) T.tab.R 0 i)) 0 T.tab.C = allN (fun k => (T.tab.col k).has (sumN T.tab.R fun i => matOf M.m i k)) 0 T.tab.C := allN_congr fun j _ _ => by unfold cS; rw [if_neg (by omega)]
        rw [e2] at hp2
        simp only [go_sem, simprocAttr, Try.f39, Int.ofNat_zero, Int.natCast_zero, boxT] at hx2
        simp only [go_sem, simprocAttr, alH, boxT]
        rw [hx2]
        cases h3 : allN (fun k => (T.tab.col k).has (sumN T.tab.R fun i => matOf M.m i k)) 0 T.tab.C with
        | false =>
          rw [h3, if_neg (by simp)] at hp2
          obtain ⟨rfl, H2, jq, rfl⟩ := hp2
          simp only [go_sem, simprocAttr, unwind, modeEx, resultsOf, one]
          exact ⟨_, rfl⟩
        | true =>
          rw [h3, if_pos rfl] at hp2
          obtain ⟨rfl, H2, jq, rfl⟩ := hp2
          simp only [go_sem, simprocAttr, unwind, modeEx, resultsOf, one]
          exact ⟨_, rfl⟩
  obtain ⟨H', h⟩ := this
  exact call_pure rfl rfl rfl (by simp [underL, TabV.under, MatV.under]) h rfl ro H nx

set_option maxRecDepth 10000
set_option maxHeartbeats 4000000

set_option maxRecDepth 10000
set_option maxHeartbeats 4000000

theorem ClosedT.ok {t t' : Tab} (hO : t.Ok) (h : ClosedT t t') : t'.Ok := by
  have key : ∀ {μ : (Nat → Nat → Int) → Int} {x y : Spn}, EndsP t μ x → y.ok = true → (∀ s, Fits t s → y.lo ≤ μ s ∧ μ s ≤ y.hi) → x.ok = true := fun {μ x y} he hy hb => by
    have le := he.le
    obtain ⟨⟨s1, f1, e1⟩, ⟨s2, f2, e2⟩, _⟩ := he
    have b1 := hb s1 f1
    have b2 := hb s2 f2
    have := Spn.ok_iff.1 hy
    exact Spn.ok_iff.2 ⟨by omega, by omega, le⟩
  have gd : ∀ {l : List Spn} {x : Spn}, x ∈ l → ∃ i, i < l.length ∧ l.getD i sp0 = x := fun {l x} hx => by
    obtain ⟨i, hi, e⟩ := List.getElem_of_mem hx
    exact ⟨i, hi, by rw [List.getD_eq_getElem?_getD, List.getElem?_eq_getElem hi, ← e]; rfl⟩
  have tR := h.R
  have tC := h.C
  have hR1 := hO.R1
  have hC1 := hO.C1
  have hR8 := hO.R8
  have hC8 := hO.C8
  refine ⟨by omega, by omega, by omega, by omega, by rw [h.len, tR], by rw [tC]; exact h.wid, fun x hx => ?_, fun x hx => ?_, fun l hl x hx => ?_⟩
  · obtain ⟨i, hi, rfl⟩ := gd hx
    have hi : i < t.R := by rw [← tR]; exact hi
    exact key (h.row i hi trivial) (hO.row _ (getD_mem hi _)) fun s hs => hs.row i hi
  · obtain ⟨i, hi, rfl⟩ := gd hx
    have hi : i < t.C := by rw [← tC]; exact hi
    exact key (h.col i hi trivial) (hO.col _ (getD_mem hi _)) fun s hs => hs.col i hi
  · obtain ⟨i, hi, e⟩ := List.getElem_of_mem hl
    obtain ⟨k, hk, rfl⟩ := gd hx
    have hi' : i < t.R := by rw [← h.len]; exact hi
    have hw := h.wid l hl
    have hk' : k < t.C := by omega
    have e' : l = t'.cells.getD i [] := by rw [List.getD_eq_getElem?_getD, List.getElem?_eq_getElem hi, ← e]; rfl
    have he := h.cell i k hi' hk' trivial
    unfold Tab.cell at he
    rw [← e'] at he
    have hcl : t.cells.getD i [] ∈ t.cells := getD_mem (by rw [hO.len]; exact hi') _
    exact key he (hO.cel _ hcl _ (getD_mem (by rw [hO.wid _ hcl]; exact hk') sp0)) fun s hs => hs.cell i k hi' hk'

theorem ClosedT.fits {t t' : Tab} (h : ClosedT t t') (s : Nat → Nat → Int) : Fits t' s ↔ Fits t s := by
  have tR := h.R
  have tC := h.C
  have key : ∀ {μ : (Nat → Nat → Int) → Int} {x y : Spn}, EndsP t μ x → (∀ s, Fits t s → y.lo ≤ μ s ∧ μ s ≤ y.hi) → y.lo ≤ x.lo ∧ x.hi ≤ y.hi := fun {μ x y} he hb => by
    obtain ⟨⟨s1, f1, e1⟩, ⟨s2, f2, e2⟩, _⟩ := he
    have b1 := hb s1 f1
    have b2 := hb s2 f2
    omega
  constructor
  · intro hf
    refine ⟨fun i k hi hk => ?_, fun i hi => ?_, fun k hk => ?_⟩
    · have h1 := hf.cell i k (by omega) (by omega)
      have h2 := key (h.cell i k hi hk trivial) (y := t.cell i k) fun s hs => hs.cell i k hi hk
      omega
    · have h1 := hf.row i (by omega)
      have h2 := key (h.row i hi trivial) (y := t.row i) fun s hs => hs.row i hi
      rw [tC] at h1
      omega
    · have h1 := hf.col k (by omega)
      have h2 := key (h.col k hk trivial) (y := t.col k) fun s hs => hs.col k hk
      rw [tR] at h1
      omega
  · intro hf
    refine ⟨fun i k hi hk => ?_, fun i hi => ?_, fun k hk => ?_⟩
    · exact (h.cell i k (by omega) (by omega) trivial).2.2 s hf
    · have := (h.row i (by omega) trivial).2.2 s hf
      rw [tC]
      exact this
    · have := (h.col k (by omega) trivial).2.2 s hf
      rw [tR]
      exact this

theorem ClosedT.can {t t' : Tab} (h : ClosedT t t') : canB t' = canB t := by
  rw [Bool.eq_iff_iff, canB_true, canB_true]
  exact ⟨fun ⟨s, hs⟩ => ⟨s, (h.fits s).1 hs⟩, fun ⟨s, hs⟩ => ⟨s, (h.fits s).2 hs⟩⟩

theorem ClosedT.again {t t' t'' : Tab} (h : ClosedT t t') (h' : ClosedT t' t'') : t'' = t' := by
  have tR := h.R
  have tC := h.C
  have key : ∀ {μ : (Nat → Nat → Int) → Int} {x : Spn}, EndsP t' μ x → EndsP t μ x := fun {μ x} he => by
    obtain ⟨⟨s1, f1, e1⟩, ⟨s2, f2, e2⟩, ha⟩ := he
    exact ⟨⟨s1, (h.fits s1).1 f1, e1⟩, ⟨s2, (h.fits s2).1 f2, e2⟩, fun s hs => ha s ((h.fits s).2 hs)⟩
  have : ClosedT t t'' := by
    refine ⟨h'.R.trans tR, h'.C.trans tC, h'.len.trans tR, fun l hl => (h'.wid l hl).trans tC, fun i hi _ => ?_, fun i k hi hk _ => key (h'.cell i k (by omega) (by omega) trivial), fun k hk _ => ?_⟩
    · have e := key (h'.row i (by omega) trivial)
      unfold rowF at e ⊢
      rw [tC] at e
      exact e
    · have e := key (h'.col k (by omega) trivial)
      rw [tR] at e
      exact e
  exact h.unique this

theorem ClosedT.alw {t t' : Tab} (h : ClosedT t t') (m : List (List Int)) : alwB t' m = alwB t m := by
  have tR := h.R
  have tC := h.C
  have hd : dimsB t' m = dimsB t m := by unfold dimsB; rw [tR, tC]
  have hf : fitsB t' (matOf m) = fitsB t (matOf m) := by
    rw [Bool.eq_iff_iff, fitsB_iff, fitsB_iff]
    exact h.fits _
  unfold alwB
  rw [hd, hf]

theorem closed_law (a0 a1 a2 a3 : List AVal) (h0 : FitT env 8 25 a0) (h1 : FitT env 8 46 a1) (h2 : FitT env 8 3 a2) (h3 : FitT env 8 3 a3) : ∃ H', runT env 12 [pack ⟨.struct [(22, 0), (22, 1), (23, 2)], 3, 72, .agg [.lit true 0 [], .lit true 0 [], .lit true 0 []]⟩ a0, pack ⟨.slice 51, 1, 24, .lit true 0 []⟩ a1, pack ⟨.int .i64, 1, 8, .int .i64 (0)⟩ a2, pack ⟨.int .i64, 1, 8, .int .i64 (0)⟩ a3] [] 0 = some (.ret (.bool true), H') := by
  obtain ⟨T, hT, e0⟩ := fit_tab (m := 3) h0
  obtain ⟨M, hM, rfl⟩ := fit_mat h1
  obtain ⟨row, rfl, _⟩ := fit_int ti3 h2
  obtain ⟨col, rfl, _⟩ := fit_int ti3 h3
  show ∃ H', runT env 12 [.agg a0, M.v, .int .i64 row, .int .i64 col] [] 0 = some (.ret (.bool true), H')
  rw [e0]
  have wk := work_call T hT
  have lr : T.rows.l.length = T.tab.R := rfl
  have lc : T.cols.l.length = T.tab.C := rfl
  rw [run_unfold fn12 rfl]
  cases hw : workB T.tab with
  | false =>
    simp only [go_sem, simprocAttr, Try.f12, wk, hw, unwind, modeEx, resultsOf, one]
    exact ⟨_, rfl⟩
  | true =>
    have hO := (work_ok hw).1
    have hR8 := hO.R8
    have hC8 := hO.C8
    have hok := Tab.ok_iff.2 hO
    have al := allowed_call hT hO hM
    have dd : ∀ n : Int, decide (n = n) = true := fun n => decide_eq_true rfl
    obtain ⟨v, hv, cl⟩ := Closed_call hT
    rcases hv with ⟨hok', _⟩ | ⟨_, hcan, rfl⟩ | ⟨_, hcan, t', hcl, rfl⟩
    · rw [hok] at hok'; cases hok'
    · have ha : alwB T.tab M.m = false := by
        cases h : alwB T.tab M.m with
        | false => rfl
        | true =>
          exfalso
          unfold alwB at h
          rw [Bool.and_eq_true] at h
          have := canB_true.2 ⟨_, fitsB_iff.1 h.2⟩
          rw [hcan] at this; cases this
      rw [ha] at al
      simp only [go_sem, simprocAttr, Try.f12, wk, hw, cl, al, noTab, unwind, modeEx, resultsOf, one]
      exact ⟨_, rfl⟩
    · have hO2 := hcl.ok hO
      have hok2 := Tab.ok_iff.2 hO2
      have hW := canon_wf hO2.R8 hO2.C8 hO2.len hO2.wid
      obtain ⟨v2, hv2, cl2⟩ := Closed_call hW
      rw [canon_tab] at hv2
      have tR := hcl.R
      have tC := hcl.C
      rcases hv2 with ⟨h', _⟩ | ⟨_, h', _⟩ | ⟨_, _, t'', hcl2, rfl⟩
      · rw [hok2] at h'; cases h'
      · rw [hcl.can, hcan] at h'; cases h'
      · obtain rfl := hcl.again hcl2
        have sm := Same_call hW hW rfl (by show t''.R < _; omega) (by show t''.C < _; omega) (fun s hs => by
          obtain ⟨l, hl, rfl⟩ := List.mem_map.1 hs
          have := hO2.wid l hl
          have := hO2.C8
          show l.length < 2 ^ 62; omega) (by
          simp only [canon, List.length_map]
          have := hO2.len
          omega)
        have wch := check_call _ hW
        rw [canon_tab, ckS_ok hok2] at wch
        have al2 := allowed_call hW (by rw [canon_tab]; exact hO2) hM
        rw [canon_tab, hcl.alw] at al2
        have hct := canon_tab t''
        have WR : (canon t'').tab.R = T.tab.R := by rw [hct, tR]
        have WC : (canon t'').tab.C = T.tab.C := by rw [hct, tC]
        have hOW : (canon t'').tab.Ok := by rw [hct]; exact hO2
        generalize hWv : canon t'' = W at *
        have lr2 : (W.rows.l.map spV).length = T.tab.R := by rw [List.length_map]; exact WR
        have lc2 : (W.cols.l.map spV).length = T.tab.C := by rw [List.length_map]; exact WC
        have lr2' : W.rows.l.length = T.tab.R := WR
        have lc2' : W.cols.l.length = T.tab.C := WC
        cases d1 : decide (row < 0) with
        | true =>
          cases ha : alwB T.tab M.m <;> rw [ha] at al al2 <;>
            (simp only [go_sem, simprocAttr, Try.f12, wk, hw, cl, cl2, sm, wch, al, al2, dd, List.length_map, lr2', lc2', lr, lc, d1, unwind, modeEx, resultsOf, one]
             exact ⟨_, rfl⟩)
        | false =>
        cases d2 : decide ((T.tab.R : Int) ≤ row) with
        | true =>
          cases ha : alwB T.tab M.m <;> rw [ha] at al al2 <;>
            (simp only [go_sem, simprocAttr, Try.f12, wk, hw, cl, cl2, sm, wch, al, al2, dd, List.length_map, lr2', lc2', lr, lc, d1, d2, unwind, modeEx, resultsOf, one]
             exact ⟨_, rfl⟩)
        | false =>
        cases d3 : decide (col < 0) with
        | true =>
          cases ha : alwB T.tab M.m <;> rw [ha] at al al2 <;>
            (simp only [go_sem, simprocAttr, Try.f12, wk, hw, cl, cl2, sm, wch, al, al2, dd, List.length_map, lr2', lc2', lr, lc, d1, d2, d3, unwind, modeEx, resultsOf, one]
             exact ⟨_, rfl⟩)
        | false =>
        cases d4 : decide ((T.tab.C : Int) ≤ col) with
        | true =>
          cases ha : alwB T.tab M.m <;> rw [ha] at al al2 <;>
            (simp only [go_sem, simprocAttr, Try.f12, wk, hw, cl, cl2, sm, wch, al, al2, dd, List.length_map, lr2', lc2', lr, lc, d1, d2, d3, d4, unwind, modeEx, resultsOf, one]
             exact ⟨_, rfl⟩)
        | false =>
        obtain ⟨r, rfl, hr⟩ : ∃ r : Nat, row = r ∧ r < T.tab.R := ⟨row.toNat, by simp at d1; omega, by simp at d1 d2; omega⟩
        obtain ⟨c, rfl, hc⟩ : ∃ c : Nat, col = c ∧ c < T.tab.C := ⟨col.toNat, by simp at d3; omega, by simp at d3 d4; omega⟩
        have r0 : (0 : Int) ≤ (r : Int) := by omega
        have c0 : (0 : Int) ≤ (c : Int) := by omega
        obtain ⟨x, hx, cx⟩ := cell_ends hT hO hcan hr hc
        obtain ⟨y, hy, cy⟩ := row_ends hT hO hcan hr
        obtain ⟨z, hz, cz⟩ := col_ends hT hO hcan hc
        obtain rfl : t''.cell r c = x := (hcl.cell r c hr hc trivial).unique hx fun s _ => (blkM_cell hr hc s).symm
        obtain rfl : t''.row r = y := (hcl.row r hr trivial).unique hy fun s _ => (blkM_row hr s).symm
        obtain rfl : t''.col c = z := (hcl.col c hc trivial).unique hz fun s _ => (blkM_col hc s).symm
        obtain ⟨s, _, q1, q2, q3, _, _⟩ := TabV.at hW hOW (i := r) (k := c) (by omega) (by omega)
        obtain ⟨q4, q5⟩ := TabV.rowAt hW (i := r) (by omega)
        obtain ⟨q6, q7⟩ := TabV.colAt hW (k := c) (by omega)
        rw [hct] at q2 q4 q6
        have q3 := eq_true q3
        have q5 := eq_true q5
        have q7 := eq_true q7
        cases ha : alwB T.tab M.m <;> rw [ha] at al al2 <;>
          (simp only [go_sem, simprocAttr, Try.f12, wk, hw, cl, cl2, sm, wch, al, al2, dd, List.length_map, lr2', lc2', lr, lc, d1, d2, d3, d4, cx, cy, cz, r0, c0, Int.toNat_natCast, q1, q2, q3, q4, q5, q6, q7, eql_spV, unwind, modeEx, resultsOf, one]
           exact ⟨_, rfl⟩)
end Go.Proofs.Ytgfejpngfikjiaa.Tidy

