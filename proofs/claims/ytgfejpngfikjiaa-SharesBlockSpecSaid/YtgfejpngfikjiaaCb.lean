/-
 What the functions that the statements of this seat share compute.
-/
import Derived.Test.YtgfejpngfikjiaaCa
import Derived.Test.YtgfejpngfikjiaaMt
import Derived.IntWalk
import Derived.KernelRfl
set_option linter.all false
namespace Go.Proofs.Ytgfejpngfikjiaa.Tidy
open Go
structure Spn where
 lo:Int
 hi:Int
 deriving DecidableEq,Inhabited
def sp0:Spn:=⟨0,0⟩
structure Tab where
 rows:List Spn
 cols:List Spn
 cells:List (List Spn)
 deriving DecidableEq
abbrev Tab.R (t:Tab):Nat:=t.rows.length
abbrev Tab.C (t:Tab):Nat:=t.cols.length
def Tab.row (t:Tab) (i:Nat):Spn:=t.rows.getD i sp0
def Tab.col (t:Tab) (k:Nat):Spn:=t.cols.getD k sp0
def Tab.cell (t:Tab) (i k:Nat):Spn:=(t.cells.getD i []).getD k sp0
def Spn.ok (x:Spn):Bool:=decide (0≤x.lo) && decide (x.hi≤2 ^ 30) && decide (x.lo≤x.hi)
def Spn.has (x:Spn) (n:Int):Bool:=decide (x.lo≤n) && decide (n≤x.hi)
theorem Spn.ok_iff {x:Spn}:x.ok=true ↔ 0≤x.lo∧x.hi≤2 ^ 30∧x.lo≤x.hi:=by
 unfold Spn.ok;simp only [Bool.and_eq_true,decide_eq_true_eq,and_assoc]
theorem Spn.has_iff {x:Spn} {n:Int}:x.has n=true ↔ x.lo≤n∧n≤x.hi:=by
 unfold Spn.has;simp only [Bool.and_eq_true,decide_eq_true_eq]
def z22 (n:Nat):Bool:=decide (1≤n) && decide (n≤8)
def Tab.ok (t:Tab):Bool:=z22 t.R && z22 t.C && t.rows.all Spn.ok && t.cols.all Spn.ok && decide (t.cells.length=t.R) && t.cells.all fun l=>decide (l.length=t.C) && l.all Spn.ok
structure Tab.Ok (t:Tab):Prop where
 R1:1≤t.R
 R8:t.R≤8
 C1:1≤t.C
 C8:t.C≤8
 len:t.cells.length=t.R
 wid:∀ l ∈ t.cells,l.length=t.C
 row:∀ x ∈ t.rows,x.ok=true
 col:∀ x ∈ t.cols,x.ok=true
 cel:∀ l ∈ t.cells,∀ x ∈ l,x.ok=true
theorem Tab.ok_iff {t:Tab}:t.ok=true ↔ t.Ok:=by
 unfold Tab.ok z22
 simp only [Bool.and_eq_true,decide_eq_true_eq,List.all_eq_true]
 constructor
 · rintro ⟨⟨⟨⟨⟨⟨h1,h2⟩,h3,h4⟩,h5⟩,h6⟩,h7⟩,h8⟩
   exact ⟨h1,h2,h3,h4,h7,fun l hl=>(h8 l hl).1,h5,h6,fun l hl=>(h8 l hl).2⟩
 · intro h
   exact ⟨⟨⟨⟨⟨⟨h.R1,h.R8⟩,h.C1,h.C8⟩,h.row⟩,h.col⟩,h.len⟩,fun l hl=>⟨h.wid l hl,h.cel l hl⟩⟩
theorem z1C {α:Type} {l:List α} {i:Nat} (h:i < l.length) (d:α):l.getD i d ∈ l:=by
 rw [List.getD_eq_getElem?_getD,List.getElem?_eq_getElem h];exact List.getElem_mem h
theorem Tab.Ok.row_ok {t:Tab} (h:t.Ok) {i:Nat} (hi:i < t.R):0≤(t.row i).lo∧(t.row i).hi≤2 ^ 30∧(t.row i).lo≤(t.row i).hi:=Spn.ok_iff.1 (h.row _ (z1C hi _))
theorem Tab.Ok.col_ok {t:Tab} (h:t.Ok) {i:Nat} (hi:i < t.C):0≤(t.col i).lo∧(t.col i).hi≤2 ^ 30∧(t.col i).lo≤(t.col i).hi:=Spn.ok_iff.1 (h.col _ (z1C hi _))
theorem Tab.Ok.cell_ok {t:Tab} (h:t.Ok) {i k:Nat} (hi:i < t.R) (hk:k < t.C):0≤(t.cell i k).lo∧(t.cell i k).hi≤2 ^ 30∧(t.cell i k).lo≤(t.cell i k).hi:=by
 have h1:t.cells.getD i [] ∈ t.cells:=z1C (by rw [h.len];exact hi) _
 exact Spn.ok_iff.1 (h.cel _ h1 _ (z1C (by rw [h.wid _ h1];exact hk) _))
structure Tab.Mild (t:Tab):Prop where
 R1:1≤t.R
 R8:t.R≤8
 C1:1≤t.C
 C8:t.C≤8
 len:t.cells.length=t.R
 wid:∀ l ∈ t.cells,l.length=t.C
 row_ok:∀ {i:Nat},i < t.R→-(2 ^ 34)≤(t.row i).lo∧(t.row i).hi≤2 ^ 34∧(t.row i).lo≤(t.row i).hi
 col_ok:∀ {i:Nat},i < t.C→-(2 ^ 34)≤(t.col i).lo∧(t.col i).hi≤2 ^ 34∧(t.col i).lo≤(t.col i).hi
 cell_ok:∀ {i k:Nat},i < t.R→k < t.C→-(2 ^ 34)≤(t.cell i k).lo∧(t.cell i k).hi≤2 ^ 34∧(t.cell i k).lo≤(t.cell i k).hi
theorem Tab.Ok.mild {t:Tab} (h:t.Ok):t.Mild:=⟨h.R1,h.R8,h.C1,h.C8,h.len,h.wid,fun hi=>by have:=h.row_ok hi;omega,fun hi=>by have:=h.col_ok hi;omega,fun hi hk=>by have:=h.cell_ok hi hk;omega⟩
instance mild_of {t:Tab}:Coe t.Ok t.Mild:=⟨Tab.Ok.mild⟩
structure Fits (t:Tab) (x:Nat→Nat→Int):Prop where
 cell:∀ i k,i < t.R→k < t.C→(t.cell i k).lo≤x i k∧x i k≤(t.cell i k).hi
 row:∀ i,i < t.R→(t.row i).lo≤sumN t.C (x i)∧sumN t.C (x i)≤(t.row i).hi
 col:∀ k,k < t.C→(t.col k).lo≤sumN t.R (fun i=>x i k)∧sumN t.R (fun i=>x i k)≤(t.col k).hi
def Tab.Can (t:Tab):Prop:=∃ x,Fits t x
def Tab.span (t:Tab) (j:Nat):Spn:=if j < t.R * t.C then t.cell (j / t.C) (j % t.C) else if j < t.R * t.C+t.R then t.row (j - t.R * t.C) else t.col (j - t.R * t.C - t.R)
def Tab.net (t:Tab):Net where
 n:=t.R * t.C+t.R+t.C
 N:=1+t.R+t.C
 fr j:=if j < t.R * t.C then 1+j / t.C else if j < t.R * t.C+t.R then 0 else 1+t.R+(j - t.R * t.C - t.R)
 to j:=if j < t.R * t.C then 1+t.R+j % t.C else if j < t.R * t.C+t.R then 1+(j - t.R * t.C) else 0
 lo j:=(t.span j).lo
 hi j:=(t.span j).hi
theorem z3P {R C i k:Nat} (hi:i < R) (hk:k < C):i * C+k < R * C:=by
 have:(i+1) * C≤R * C:=Nat.mul_le_mul_right _ hi
 rw [Nat.succ_mul] at this;omega
theorem z5t {C i k:Nat} (hk:k < C):(i * C+k) / C=i:=by
 rw [Nat.mul_comm,Nat.mul_add_div (by omega),Nat.div_eq_of_lt hk];omega
theorem z91 {C i k:Nat} (hk:k < C):(i * C+k) % C=k:=by
 rw [Nat.mul_comm,Nat.mul_add_mod,Nat.mod_eq_of_lt hk]
theorem z6O {R C j:Nat} (h:j < R * C):j / C < R:=by
 rw [Nat.div_lt_iff_lt_mul (by rcases Nat.eq_zero_or_pos C with rfl | h2;· simp at h
                               · exact h2)]
 exact h
theorem z4x {R C j:Nat} (h:j < R * C):j % C < C:=Nat.mod_lt _ (by
 rcases Nat.eq_zero_or_pos C with rfl | h2
 · simp at h
 · exact h2)
theorem Tab.Ok.span_ok {t:Tab} (h:t.Ok) {j:Nat} (hj:j < t.net.n):0≤t.net.lo j∧t.net.lo j≤t.net.hi j∧t.net.hi j≤2 ^ 30:=by
 simp only [Tab.net,Tab.span] at hj ⊢
 by_cases h1:j < t.R * t.C
 · rw [if_pos h1]
   have:=h.cell_ok (z6O h1) (z4x h1)
   omega
 · rw [if_neg h1]
   by_cases h2:j < t.R * t.C+t.R
   · rw [if_pos h2]
     have:=h.row_ok (i:=j - t.R * t.C) (by omega)
     omega
   · rw [if_neg h2]
     have:=h.col_ok (i:=j - t.R * t.C - t.R) (by omega)
     omega
theorem Tab.Mild.span_ok {t:Tab} (h:t.Mild) {j:Nat} (hj:j < t.net.n):-(2 ^ 34)≤t.net.lo j∧t.net.lo j≤t.net.hi j∧t.net.hi j≤2 ^ 34:=by
 simp only [Tab.net,Tab.span] at hj ⊢
 by_cases h1:j < t.R * t.C
 · rw [if_pos h1]
   have:=h.cell_ok (z6O h1) (z4x h1)
   omega
 · rw [if_neg h1]
   by_cases h2:j < t.R * t.C+t.R
   · rw [if_pos h2]
     have:=h.row_ok (i:=j - t.R * t.C) (by omega)
     omega
   · rw [if_neg h2]
     have:=h.col_ok (i:=j - t.R * t.C - t.R) (by omega)
     omega
theorem Tab.net_ok (t:Tab):t.net.Ok:=by
 constructor
 · intro j hj
   simp only [Tab.net] at hj ⊢
   by_cases h1:j < t.R * t.C
   · rw [if_pos h1]
     have:=z6O h1
     omega
   · rw [if_neg h1];split <;> omega
 · intro j hj
   simp only [Tab.net] at hj ⊢
   by_cases h1:j < t.R * t.C
   · rw [if_pos h1]
     have:=z4x h1
     omega
   · rw [if_neg h1];split <;> omega
theorem zA7 (R C:Nat) (φ:Nat→Int):sumN (R * C+R+C) φ=sumN R (fun i=>sumN C fun k=>φ (i * C+k))+sumN R (fun i=>φ (R * C+i))+sumN C fun k=>φ (R * C+R+k):=by
 rw [z6F,z6F,zEZ]
theorem Tab.net_cell (t:Tab) {i k:Nat} (hi:i < t.R) (hk:k < t.C):t.net.fr (i * t.C+k)=1+i∧t.net.to (i * t.C+k)=1+t.R+k∧t.span (i * t.C+k)=t.cell i k:=by
 have h:=z3P hi hk
 simp only [Tab.net,Tab.span,h,if_true,z5t hk,z91 hk,and_self]
theorem Tab.net_row (t:Tab) {i:Nat} (hi:i < t.R):t.net.fr (t.R * t.C+i)=0∧t.net.to (t.R * t.C+i)=1+i∧t.span (t.R * t.C+i)=t.row i:=by
 have h1:¬ t.R * t.C+i < t.R * t.C:=by omega
 have h2:t.R * t.C+i < t.R * t.C+t.R:=by omega
 have h3:t.R * t.C+i - t.R * t.C=i:=by omega
 simp only [Tab.net,Tab.span,h1,h2,h3,if_true,if_false,and_self]
theorem Tab.net_col (t:Tab) {k:Nat}:t.net.fr (t.R * t.C+t.R+k)=1+t.R+k∧t.net.to (t.R * t.C+t.R+k)=0∧t.span (t.R * t.C+t.R+k)=t.col k:=by
 have h1:¬ t.R * t.C+t.R+k < t.R * t.C:=by omega
 have h2:¬ t.R * t.C+t.R+k < t.R * t.C+t.R:=by omega
 have h3:t.R * t.C+t.R+k - t.R * t.C - t.R=k:=by omega
 simp only [Tab.net,Tab.span,h1,h2,h3,if_false,and_self]
theorem Tab.div_eq (t:Tab) (f P:Nat→Int):t.net.div f P=sumN t.R (fun i=>sumN t.C fun k=>f (i * t.C+k) * (P (1+t.R+k) - P (1+i)))+sumN t.R (fun i=>f (t.R * t.C+i) * (P (1+i) - P 0))+sumN t.C fun k=>f (t.R * t.C+t.R+k) * (P 0 - P (1+t.R+k)):=by
 unfold Net.div
 show sumN (t.R * t.C+t.R+t.C) _=_
 rw [zA7]
 congr 1
 · congr 1
   · refine z02 fun i hi=>z02 fun k hk=>?_
     obtain ⟨h1,h2,_⟩:=t.net_cell hi hk
     rw [h1,h2]
   · refine z02 fun i hi=>?_
     obtain ⟨h1,h2,_⟩:=t.net_row hi
     rw [h1,h2]
 · refine z02 fun k hk=>?_
   obtain ⟨h1,h2,_⟩:=t.net_col (k:=k)
   rw [h1,h2]
def Tab.mat (t:Tab) (f:Nat→Int) (i k:Nat):Int:=f (i * t.C+k)
theorem zDU {t:Tab} {f:Nat→Int} (h:t.net.Circ f):(∀ i,i < t.R→f (t.R * t.C+i)=sumN t.C (t.mat f i))∧∀ k,k < t.C→f (t.R * t.C+t.R+k)=sumN t.R fun i=>t.mat f i k:=by
 constructor
 · intro i hi
   have h1:=h fun v=>if v=1+i then 1 else 0
   rw [t.div_eq] at h1
   have e1:sumN t.R (fun i'=>sumN t.C fun k=>f (i' * t.C+k) * ((if 1+t.R+k=1+i then (1:Int) else 0) - if 1+i'=1+i then 1 else 0))=- sumN t.C (t.mat f i):=by
    rw [← z31 hi (- sumN t.C (t.mat f i))]
    refine z02 fun i' hi'=>?_
    by_cases e:i'=i
    · subst e
      rw [if_pos (rfl:i'=i'),← z7s]
      refine z02 fun k hk=>?_
      rw [if_neg (by omega),if_pos rfl]
      simp [Tab.mat]
    · rw [if_neg e]
      refine z0q fun k hk=>?_
      rw [if_neg (by omega),if_neg (by omega)];simp
   have e2:sumN t.R (fun i'=>f (t.R * t.C+i') * ((if 1+i'=1+i then (1:Int) else 0) - if 0=1+i then 1 else 0))=f (t.R * t.C+i):=by
    rw [← z31 hi (f (t.R * t.C+i))]
    refine z02 fun i' hi'=>?_
    by_cases e:i'=i
    · subst e
      rw [if_pos rfl,if_neg (by omega),if_pos rfl];simp
    · rw [if_neg (by omega),if_neg (by omega),if_neg e];simp
   have e3:sumN t.C (fun k=>f (t.R * t.C+t.R+k) * ((if 0=1+i then (1:Int) else 0) - if 1+t.R+k=1+i then 1 else 0))=0:=by
    refine z0q fun k hk=>?_
    rw [if_neg (by omega),if_neg (by omega)];simp
   rw [e1,e2,e3] at h1
   omega
 · intro k hk
   have h1:=h fun v=>if v=1+t.R+k then 1 else 0
   rw [t.div_eq] at h1
   have e1:sumN t.R (fun i'=>sumN t.C fun k'=>f (i' * t.C+k') * ((if 1+t.R+k'=1+t.R+k then (1:Int) else 0) - if 1+i'=1+t.R+k then 1 else 0))=sumN t.R fun i=>t.mat f i k:=by
    refine z02 fun i hi=>?_
    rw [← z31 hk (t.mat f i k)]
    refine z02 fun k' hk'=>?_
    by_cases e:k'=k
    · subst e
      rw [if_pos rfl,if_neg (by omega),if_pos rfl];simp [Tab.mat]
    · rw [if_neg (by omega),if_neg (by omega),if_neg e];simp
   have e2:sumN t.R (fun i'=>f (t.R * t.C+i') * ((if 1+i'=1+t.R+k then (1:Int) else 0) - if 0=1+t.R+k then 1 else 0))=0:=by
    refine z0q fun i hi=>?_
    rw [if_neg (by omega),if_neg (by omega)];simp
   have e3:sumN t.C (fun k'=>f (t.R * t.C+t.R+k') * ((if 0=1+t.R+k then (1:Int) else 0) - if 1+t.R+k'=1+t.R+k then 1 else 0))=- f (t.R * t.C+t.R+k):=by
    rw [← z31 hk (- f (t.R * t.C+t.R+k))]
    refine z02 fun k' hk'=>?_
    by_cases e:k'=k
    · subst e
      rw [if_neg (by omega),if_pos rfl,if_pos rfl];simp
    · rw [if_neg (by omega),if_neg (by omega),if_neg e];simp
   rw [e1,e2,e3] at h1
   omega
theorem z1q {t:Tab} {f:Nat→Int} (h1:t.net.In f) (h2:t.net.Circ f):Fits t (t.mat f):=by
 obtain ⟨hr,hc⟩:=zDU h2
 refine ⟨fun i k hi hk=>?_,fun i hi=>?_,fun k hk=>?_⟩
 · have:=h1 (i * t.C+k) (by have:=z3P hi hk;show _ < t.R * t.C+t.R+t.C;omega)
   simp only [Tab.net] at this
   rw [(t.net_cell hi hk).2.2] at this
   exact this
 · rw [← hr i hi]
   have:=h1 (t.R * t.C+i) (by show _ < t.R * t.C+t.R+t.C;omega)
   simp only [Tab.net] at this
   rw [(t.net_row hi).2.2] at this
   exact this
 · rw [← hc k hk]
   have:=h1 (t.R * t.C+t.R+k) (by show _ < t.R * t.C+t.R+t.C;omega)
   simp only [Tab.net] at this
   rw [t.net_col.2.2] at this
   exact this
def Tab.flow (t:Tab) (x:Nat→Nat→Int) (j:Nat):Int:=if j < t.R * t.C then x (j / t.C) (j % t.C) else if j < t.R * t.C+t.R then sumN t.C (x (j - t.R * t.C)) else sumN t.R fun i=>x i (j - t.R * t.C - t.R)
theorem Tab.flow_cell (t:Tab) (x:Nat→Nat→Int) {i k:Nat} (hi:i < t.R) (hk:k < t.C):t.flow x (i * t.C+k)=x i k:=by
 have h:=z3P hi hk
 simp only [Tab.flow,h,if_true,z5t hk,z91 hk]
theorem Tab.flow_row (t:Tab) (x:Nat→Nat→Int) {i:Nat} (hi:i < t.R):t.flow x (t.R * t.C+i)=sumN t.C (x i):=by
 have h1:¬ t.R * t.C+i < t.R * t.C:=by omega
 have h2:t.R * t.C+i < t.R * t.C+t.R:=by omega
 have h3:t.R * t.C+i - t.R * t.C=i:=by omega
 simp only [Tab.flow,h1,h2,h3,if_true,if_false]
theorem Tab.flow_col (t:Tab) (x:Nat→Nat→Int) {k:Nat}:t.flow x (t.R * t.C+t.R+k)=sumN t.R fun i=>x i k:=by
 have h1:¬ t.R * t.C+t.R+k < t.R * t.C:=by omega
 have h2:¬ t.R * t.C+t.R+k < t.R * t.C+t.R:=by omega
 have h3:t.R * t.C+t.R+k - t.R * t.C - t.R=k:=by omega
 simp only [Tab.flow,h1,h2,h3,if_false]
theorem z2C {t:Tab} {x:Nat→Nat→Int} (h:Fits t x):t.net.In (t.flow x)∧t.net.Circ (t.flow x):=by
 constructor
 · intro j hj
   have hj':j < t.R * t.C+t.R+t.C:=hj
   simp only [Tab.net,Tab.span,Tab.flow]
   by_cases h1:j < t.R * t.C
   · simp only [h1,if_true]
     exact h.cell _ _ (z6O h1) (z4x h1)
   · simp only [h1,if_false]
     by_cases h2:j < t.R * t.C+t.R
     · simp only [h2,if_true]
       exact h.row _ (by omega)
     · simp only [h2,if_false]
       exact h.col _ (by omega)
 · intro P
   rw [t.div_eq]
   have e1:sumN t.R (fun i=>sumN t.C fun k=>t.flow x (i * t.C+k) * (P (1+t.R+k) - P (1+i)))=sumN t.R (fun i=>sumN t.C fun k=>x i k * P (1+t.R+k)) - sumN t.R (fun i=>sumN t.C fun k=>x i k * P (1+i)):=by
    rw [← z1x]
    refine z02 fun i hi=>?_
    rw [← z1x]
    refine z02 fun k hk=>?_
    rw [t.flow_cell x hi hk,Int.mul_sub]
   have e2:sumN t.R (fun i=>t.flow x (t.R * t.C+i) * (P (1+i) - P 0))=sumN t.R (fun i=>sumN t.C fun k=>x i k * P (1+i)) - sumN t.R (fun i=>sumN t.C fun k=>x i k * P 0):=by
    rw [← z1x]
    refine z02 fun i hi=>?_
    rw [t.flow_row x hi,Int.mul_sub,← z5l,← z5l]
   have e3:sumN t.C (fun k=>t.flow x (t.R * t.C+t.R+k) * (P 0 - P (1+t.R+k)))=sumN t.R (fun i=>sumN t.C fun k=>x i k * P 0) - sumN t.R (fun i=>sumN t.C fun k=>x i k * P (1+t.R+k)):=by
    rw [z7t (fun i k=>x i k * P 0),z7t (fun i k=>x i k * P (1+t.R+k)),← z1x]
    refine z02 fun k hk=>?_
    rw [t.flow_col x,Int.mul_sub,← z5l,← z5l]
   rw [e1,e2,e3];omega
theorem zJK {t:Tab}:t.Can ↔ t.net.Can:=
 ⟨fun ⟨x,h⟩=>⟨t.flow x,z2C h⟩,fun ⟨f,h1,h2⟩=>⟨t.mat f,z1q h1 h2⟩⟩
def Tab.asked (t:Tab) (r c:Nat→Bool):Int:=sumN t.R (fun i=>sumN t.C fun k=>if r i && !c k then (t.cell i k).lo else 0)+sumN t.C fun k=>if c k then (t.col k).lo else 0
def Tab.comes (t:Tab) (r c:Nat→Bool):Int:=sumN t.R (fun i=>if r i then (t.row i).hi else 0)+sumN t.R fun i=>sumN t.C fun k=>if !r i && c k then (t.cell i k).hi else 0
def Tab.given (t:Tab) (r c:Nat→Bool):Int:=sumN t.R (fun i=>if r i then (t.row i).lo else 0)+sumN t.R fun i=>sumN t.C fun k=>if !r i && c k then (t.cell i k).lo else 0
def Tab.taken (t:Tab) (r c:Nat→Bool):Int:=sumN t.R (fun i=>sumN t.C fun k=>if r i && !c k then (t.cell i k).hi else 0)+sumN t.C fun k=>if c k then (t.col k).hi else 0
def Tab.gap (t:Tab) (r c:Nat→Bool):Bool:=decide (t.comes r c < t.asked r c) || decide (t.taken r c < t.given r c)
theorem Tab.over_out (t:Tab) (S:Nat→Bool) (h0:S 0=false):t.net.over S=t.given (fun i=>S (1+i)) (fun k=>S (1+t.R+k)) - t.taken (fun i=>S (1+i)) (fun k=>S (1+t.R+k)):=by
 unfold Net.over
 show sumN (t.R * t.C+t.R+t.C) _=_
 rw [zA7]
 have e1:sumN t.R (fun i=>sumN t.C fun k=>if (!S (t.net.fr (i * t.C+k)) && S (t.net.to (i * t.C+k)))=true then t.net.lo (i * t.C+k) else if (S (t.net.fr (i * t.C+k)) && !S (t.net.to (i * t.C+k)))=true then -t.net.hi (i * t.C+k) else 0)
     = sumN t.R (fun i=>sumN t.C fun k=>if !S (1+i) && S (1+t.R+k) then (t.cell i k).lo else 0) - sumN t.R (fun i=>sumN t.C fun k=>if S (1+i) && !S (1+t.R+k) then (t.cell i k).hi else 0):=by
  rw [← z1x]
  refine z02 fun i hi=>?_
  rw [← z1x]
  refine z02 fun k hk=>?_
  obtain ⟨h1,h2,h3⟩:=t.net_cell hi hk
  rw [h1,h2,show t.net.lo (i * t.C+k)=(t.cell i k).lo by show (t.span _).lo=_;rw [h3],show t.net.hi (i * t.C+k)=(t.cell i k).hi by show (t.span _).hi=_;rw [h3]]
  cases S (1+i) <;> cases S (1+t.R+k) <;> simp
 have e2:sumN t.R (fun i=>if (!S (t.net.fr (t.R * t.C+i)) && S (t.net.to (t.R * t.C+i)))=true then t.net.lo (t.R * t.C+i) else if (S (t.net.fr (t.R * t.C+i)) && !S (t.net.to (t.R * t.C+i)))=true then -t.net.hi (t.R * t.C+i) else 0)
     = sumN t.R fun i=>if S (1+i) then (t.row i).lo else 0:=by
  refine z02 fun i hi=>?_
  obtain ⟨h1,h2,h3⟩:=t.net_row hi
  rw [h1,h2,h0,show t.net.lo (t.R * t.C+i)=(t.row i).lo by show (t.span _).lo=_;rw [h3]]
  cases S (1+i) <;> simp
 have e3:sumN t.C (fun k=>if (!S (t.net.fr (t.R * t.C+t.R+k)) && S (t.net.to (t.R * t.C+t.R+k)))=true then t.net.lo (t.R * t.C+t.R+k) else if (S (t.net.fr (t.R * t.C+t.R+k)) && !S (t.net.to (t.R * t.C+t.R+k)))=true then -t.net.hi (t.R * t.C+t.R+k) else 0)
     = - sumN t.C fun k=>if S (1+t.R+k) then (t.col k).hi else 0:=by
  rw [← z7s]
  refine z02 fun k hk=>?_
  obtain ⟨h1,h2,h3⟩:=t.net_col (k:=k)
  rw [h1,h2,h0,show t.net.hi (t.R * t.C+t.R+k)=(t.col k).hi by show (t.span _).hi=_;rw [h3]]
  cases S (1+t.R+k) <;> simp
 rw [e1,e2,e3]
 unfold Tab.given Tab.taken
 simp only
 omega
theorem Tab.over_in (t:Tab) (S:Nat→Bool) (h0:S 0=true):t.net.over S=t.asked (fun i=>!S (1+i)) (fun k=>!S (1+t.R+k)) - t.comes (fun i=>!S (1+i)) (fun k=>!S (1+t.R+k)):=by
 unfold Net.over
 show sumN (t.R * t.C+t.R+t.C) _=_
 rw [zA7]
 have e1:sumN t.R (fun i=>sumN t.C fun k=>if (!S (t.net.fr (i * t.C+k)) && S (t.net.to (i * t.C+k)))=true then t.net.lo (i * t.C+k) else if (S (t.net.fr (i * t.C+k)) && !S (t.net.to (i * t.C+k)))=true then -t.net.hi (i * t.C+k) else 0)
     = sumN t.R (fun i=>sumN t.C fun k=>if !S (1+i) && !!S (1+t.R+k) then (t.cell i k).lo else 0) - sumN t.R (fun i=>sumN t.C fun k=>if !!S (1+i) && !S (1+t.R+k) then (t.cell i k).hi else 0):=by
  rw [← z1x]
  refine z02 fun i hi=>?_
  rw [← z1x]
  refine z02 fun k hk=>?_
  obtain ⟨h1,h2,h3⟩:=t.net_cell hi hk
  rw [h1,h2,show t.net.lo (i * t.C+k)=(t.cell i k).lo by show (t.span _).lo=_;rw [h3],show t.net.hi (i * t.C+k)=(t.cell i k).hi by show (t.span _).hi=_;rw [h3]]
  cases S (1+i) <;> cases S (1+t.R+k) <;> simp
 have e2:sumN t.R (fun i=>if (!S (t.net.fr (t.R * t.C+i)) && S (t.net.to (t.R * t.C+i)))=true then t.net.lo (t.R * t.C+i) else if (S (t.net.fr (t.R * t.C+i)) && !S (t.net.to (t.R * t.C+i)))=true then -t.net.hi (t.R * t.C+i) else 0)
     = - sumN t.R fun i=>if !S (1+i) then (t.row i).hi else 0:=by
  rw [← z7s]
  refine z02 fun i hi=>?_
  obtain ⟨h1,h2,h3⟩:=t.net_row hi
  rw [h1,h2,h0,show t.net.hi (t.R * t.C+i)=(t.row i).hi by show (t.span _).hi=_;rw [h3]]
  cases S (1+i) <;> simp
 have e3:sumN t.C (fun k=>if (!S (t.net.fr (t.R * t.C+t.R+k)) && S (t.net.to (t.R * t.C+t.R+k)))=true then t.net.lo (t.R * t.C+t.R+k) else if (S (t.net.fr (t.R * t.C+t.R+k)) && !S (t.net.to (t.R * t.C+t.R+k)))=true then -t.net.hi (t.R * t.C+t.R+k) else 0)
     = sumN t.C fun k=>if !S (1+t.R+k) then (t.col k).lo else 0:=by
  refine z02 fun k hk=>?_
  obtain ⟨h1,h2,h3⟩:=t.net_col (k:=k)
  rw [h1,h2,h0,show t.net.lo (t.R * t.C+t.R+k)=(t.col k).lo by show (t.span _).lo=_;rw [h3]]
  cases S (1+t.R+k) <;> simp
 rw [e1,e2,e3]
 unfold Tab.asked Tab.comes
 simp only
 omega
theorem z3C {t:Tab} (h:t.Can) (r c:Nat→Bool):t.gap r c=false:=by
 have hc:=zJK.1 h
 have n1:=Net.over_none hc fun v=>if v=0 then false else if v≤t.R then r (v - 1) else c (v - 1 - t.R)
 have n2:=Net.over_none hc fun v=>if v=0 then true else if v≤t.R then !r (v - 1) else !c (v - 1 - t.R)
 rw [t.over_out _ (by simp)] at n1
 rw [t.over_in _ (by simp)] at n2
 have g1:∀ r' c':Nat→Bool,(∀ i,i < t.R→r' i=r i)→(∀ k,k < t.C→c' k=c k)→t.asked r' c'=t.asked r c∧t.comes r' c'=t.comes r c∧t.given r' c'=t.given r c∧t.taken r' c'=t.taken r c:=by
  intro r' c' hr hk
  unfold Tab.asked Tab.comes Tab.given Tab.taken
  refine ⟨?_,?_,?_,?_⟩ <;> congr 1 <;> first
   | exact z02 fun i hi=>z02 fun k hk'=>by rw [hr i hi,hk k hk']
   | exact z02 fun i hi=>by rw [hr i hi]
   | exact z02 fun i hi=>by rw [hk i hi]
 obtain ⟨_,_,e1,e2⟩:=g1 (fun i=>if 1+i=0 then false else if 1+i≤t.R then r (1+i - 1) else c (1+i - 1 - t.R)) (fun k=>if 1+t.R+k=0 then false else if 1+t.R+k≤t.R then r (1+t.R+k - 1) else c (1+t.R+k - 1 - t.R))
  (fun i hi=>by rw [if_neg (by omega),if_pos (by omega)];congr 1;omega) (fun k hk=>by rw [if_neg (by omega),if_neg (by omega)];congr 1;omega)
 obtain ⟨e3,e4,_,_⟩:=g1 (fun i=>!(if 1+i=0 then true else if 1+i≤t.R then !r (1+i - 1) else !c (1+i - 1 - t.R))) (fun k=>!(if 1+t.R+k=0 then true else if 1+t.R+k≤t.R then !r (1+t.R+k - 1) else !c (1+t.R+k - 1 - t.R)))
  (fun i hi=>by rw [if_neg (by omega),if_pos (by omega),Bool.not_not];congr 1;omega) (fun k hk=>by rw [if_neg (by omega),if_neg (by omega),Bool.not_not];congr 1;omega)
 rw [e1,e2] at n1
 rw [e3,e4] at n2
 unfold Tab.gap
 simp only [Bool.or_eq_false_iff,decide_eq_false_iff_not]
 omega
theorem zK2 {t:Tab} {S:Nat→Bool} (h:0 < t.net.over S):t.gap (fun i=>S (1+i) == !S 0) (fun k=>S (1+t.R+k) == !S 0)=true:=by
 unfold Tab.gap
 cases h0:S 0 with
 | false=>
   rw [t.over_out S h0] at h
   simp only [Bool.not_false,beq_true,Bool.or_eq_true,decide_eq_true_eq]
   omega
 | true=>
   rw [t.over_in S h0] at h
   simp only [Bool.not_true,beq_false,Bool.or_eq_true,decide_eq_true_eq]
   omega
theorem z8j {t:Tab} (ht:t.Mild):t.Can ∨ ∃ r c,t.gap r c=true:=by
 obtain ⟨r,_,h⟩:=z83 t.net_ok ((much (z0m t.net t.net.lo t.net.n)).toNat+1) _ _ (by omega) (zFl t.net_ok (B:=2 ^ 34) (by decide) fun j hj=>ht.span_ok hj)
 cases r with
 | ok f=>exact .inl ⟨_,z1q h.1 h.2⟩
 | cut met=>exact .inr ⟨_,_,zK2 h.2⟩
end Go.Proofs.Ytgfejpngfikjiaa.Tidy
namespace Go.Proofs.Ytgfejpngfikjiaa.Tidy
open Go Go.IntWalk
set_option maxRecDepth 10000
set_option linter.unusedSimpArgs false
attribute [go_sem] Nat.add_zero Nat.zero_add beq_self_eq_true
def frG:Nat→Nat→List (Nat × AVal)→(Nat→AVal)→List AVal
 | 0,_,_,_=>[]
 | n+1,i,[],J=>J i :: frG n (i+1) [] J
 | n+1,i,(k,v) :: l,J=>if k=i then v :: frG n (i+1) l J else J i :: frG n (i+1) ((k,v) :: l) J
@[go_sem] theorem zTx (i:Nat) (l:List (Nat × AVal)) (J:Nat→AVal):frG 0 i l J=[]:=by cases l <;> rfl
@[go_sem] theorem zUq (n i:Nat) (J:Nat→AVal):frG (n+1) i [] J=J i :: frG n (i+1) [] J:=rfl
@[go_sem] theorem zTw (n i k:Nat) (v:AVal) (l:List (Nat × AVal)) (J:Nat→AVal):frG (n+1) i ((k,v) :: l) J=if k=i then v :: frG n (i+1) l J else J i :: frG n (i+1) ((k,v) :: l) J:=rfl
def FrP (n:Nat) (l:List (Nat × AVal)) (H:Heap) (d:List (Nat × List AVal)) (ro:Nat) (V:List Nat) (s:St):Prop:=∃ J,s=⟨frG n 0 l J,H,d,ro,V⟩
theorem frP {n:Nat} {l:List (Nat × AVal)} {T:List AVal} {H:Heap} {d:List (Nat × List AVal)} {ro:Nat} {V:List Nat} (h:frG n 0 l (fun i=>T.getD i .undef)=T):FrP n l H d ro V ⟨T,H,d,ro,V⟩:=⟨_,by rw [h]⟩
def spV (x:Spn):AVal:=.agg [.int .i64 x.lo,.int .i64 x.hi]
@[go_sem] theorem zTE (x:Spn):(spV x).cellsOf=[.int .i64 x.lo,.int .i64 x.hi]:=rfl
@[go_sem] theorem zVE (x:Spn):(spV x).isTuple=false:=rfl
@[go_sem] theorem z7p (x:Spn) (m:Nat):(spV x).under m=true:=rfl
@[go_sem] theorem zUN (x:Spn):(spV x).refs=[]:=rfl
@[go_sem] theorem zNF (x:Spn):AVal.agg [.int .i64 x.lo,.int .i64 x.hi]=spV x:=rfl
theorem z4l {α:Type} {f:α→AVal} (h:∀ x m,(f x).under m=true) (l:List α) (m:Nat):underL m (l.map f)=true:=by
 induction l with
 | nil=>rfl
 | cons x l ih=>simp [underL,h,ih]
@[go_sem] theorem zQc (l:List Spn) (m:Nat):underL m (l.map spV)=true:=z4l z7p l m
structure SlV where
 cl:Bool
 sz:Nat
 l:List Spn
def SlV.v (s:SlV):AVal:=.lit s.cl s.sz (s.l.map spV)
@[go_sem] theorem SlV.under (s:SlV) (m:Nat):s.v.under m=true:=rfl
structure TabV where
 rows:SlV
 cols:SlV
 cl:Bool
 sz:Nat
 cells:List SlV
def TabV.v (T:TabV):AVal:=.agg [T.rows.v,T.cols.v,.lit T.cl T.sz (T.cells.map SlV.v)]
def TabV.tab (T:TabV):Tab:=⟨T.rows.l,T.cols.l,T.cells.map (·.l)⟩
structure TabV.Wf (T:TabV):Prop where
 rows:T.rows.l=[] ∨ T.rows.sz=2
 cols:T.cols.l=[] ∨ T.cols.sz=2
 cells:T.cells=[] ∨ T.sz=1
 each:∀ s ∈ T.cells,s.l=[] ∨ s.sz=2
 lr:T.rows.l.length < 2 ^ 63
 lc:T.cols.l.length < 2 ^ 63
 ll:T.cells.length < 2 ^ 63
 le:∀ s ∈ T.cells,s.l.length < 2 ^ 63
@[go_sem] theorem TabV.cells_eq (T:TabV):T.v.cellsOf=[.lit T.rows.cl T.rows.sz (T.rows.l.map spV),.lit T.cols.cl T.cols.sz (T.cols.l.map spV),.lit T.cl T.sz (T.cells.map SlV.v)]:=rfl
@[go_sem] theorem TabV.tup (T:TabV):T.v.isTuple=false:=rfl
@[go_sem] theorem TabV.under (T:TabV) (m:Nat):T.v.under m=true:=rfl
@[go_sem] theorem TabV.fold (T:TabV):AVal.agg [.lit T.rows.cl T.rows.sz (T.rows.l.map spV),.lit T.cols.cl T.cols.sz (T.cols.l.map spV),.lit T.cl T.sz (T.cells.map SlV.v)]=T.v:=rfl
theorem z00 {i:Nat} (h:i < 2 ^ 63 - 1):IntKind.i64.wrap ((i:Int)+1)=((i+1:Nat):Int):=by
 rw [i64_in _ (by omega)];rfl
theorem z0T {α:Type} {l:List α} {i:Nat} (h:i < l.length):∃ b,l[i]?=some b∧l.drop i=b :: l.drop (i+1):=
 ⟨l[i],List.getElem?_eq_getElem h,List.drop_eq_getElem_cons h⟩
@[go_sem] theorem zBv (n:Int) (ro:Nat) (H:Heap) (nx:Nat):callT env 111 [.int .i64 n] ro H nx=some (.ret (.bool (decide (0≤n) && decide (n≤2 ^ 30))),.ups []):=by
 refine call_pure (H':=[]) rfl rfl rfl rfl ?_ rfl ro H nx
 rw [run_unfold fn111 rfl]
 cases h:decide (0≤n) <;> simp only [go_sem,simprocAttr,Try.f111,h,unwind,modeEx,resultsOf,one] <;> rfl
theorem z30 (n:Nat) (ro:Nat) (H:Heap) (nx:Nat):callT env 100 [.int .i64 n] ro H nx=some (.ret (.bool (z22 n)),.ups []):=by
 refine call_pure (H':=[]) rfl rfl rfl rfl ?_ rfl ro H nx
 have e1:decide ((1:Int)≤n)=decide (1≤n):=by simp only [decide_eq_decide];omega
 have e2:decide ((n:Int)≤8)=decide (n≤8):=by simp only [decide_eq_decide];omega
 rw [run_unfold fn100 rfl]
 unfold z22
 rw [← e1,← e2]
 cases h:decide ((1:Int)≤n) <;> simp only [go_sem,simprocAttr,Try.f100,h,unwind,modeEx,resultsOf,one] <;> rfl
theorem z2O (n:Nat) (ro:Nat) (H:Heap) (nx:Nat):callT env 112 [.int .i64 n] ro H nx=some (.ret (.bool (z22 n)),.ups []):=by
 refine call_pure (H':=[]) rfl rfl rfl rfl ?_ rfl ro H nx
 have e1:decide ((1:Int)≤n)=decide (1≤n):=by simp only [decide_eq_decide];omega
 have e2:decide ((n:Int)≤8)=decide (n≤8):=by simp only [decide_eq_decide];omega
 rw [run_unfold fn112 rfl]
 unfold z22
 rw [← e1,← e2]
 cases h:decide ((1:Int)≤n) <;> simp only [go_sem,simprocAttr,Try.f112,h,unwind,modeEx,resultsOf,one] <;> rfl
theorem zNG (x:Spn):∃ H',runT env 118 [spV x] [] 0=some (.ret (.bool x.ok),H'):=by
 rw [run_unfold fn118 rfl]
 unfold Spn.ok
 have e:((x.lo:Int)≤x.hi)→x.hi≤1073741824→x.lo≤1073741824:=fun h1 h2=>by omega
 cases h1:decide (0≤x.lo)
 · simp only [go_sem,simprocAttr,Try.f118,h1,unwind,modeEx,resultsOf,one];exact ⟨_,rfl⟩
 · cases h2:decide (x.lo≤1073741824)
   · have:(decide (x.hi≤1073741824) && decide (x.lo≤x.hi))=false:=by
       simp only [decide_eq_false_iff_not,Bool.and_eq_false_iff] at h2 ⊢
       omega
     have h1':=of_decide_eq_true h1
     cases h3:decide (0≤x.hi) <;> cases h4:decide (x.hi≤1073741824) <;> simp only [h4,Bool.true_and] at this <;>
      (simp only [go_sem,simprocAttr,Try.f118,h1,h2,h3,h4,this,unwind,modeEx,resultsOf,one];exact ⟨_,rfl⟩)
   · cases h3:decide (0≤x.hi)
     · have h4:decide (x.lo≤x.hi)=false:=by
         simp only [decide_eq_false_iff_not,decide_eq_true_eq] at h1 h3 ⊢
         omega
       simp only [go_sem,simprocAttr,Try.f118,h1,h2,h3,h4,unwind,modeEx,resultsOf,one];exact ⟨_,rfl⟩
     · cases h4:decide (x.hi≤1073741824) <;> cases h5:decide (x.lo≤x.hi) <;>
         (simp only [go_sem,simprocAttr,Try.f118,h1,h2,h3,h4,h5,unwind,modeEx,resultsOf,one];exact ⟨_,rfl⟩)
@[go_sem] theorem zTG (x:Spn) (ro:Nat) (H:Heap) (nx:Nat):callT env 118 [spV x] ro H nx=some (.ret (.bool x.ok),.ups []):=by
 obtain ⟨H',h⟩:=zNG x
 exact call_pure rfl rfl rfl rfl h rfl ro H nx
theorem zKu (x:Spn):∃ H',runT env 119 [spV x] [] 0=some (.ret (.bool x.ok),H'):=by
 rw [run_unfold fn119 rfl]
 unfold Spn.ok
 cases h1:decide (0≤x.lo) <;> cases h2:decide (x.hi≤1073741824) <;> cases h3:decide (x.lo≤x.hi) <;>
  (simp only [go_sem,simprocAttr,Try.f119,h1,h2,h3,unwind,modeEx,resultsOf,one];exact ⟨_,rfl⟩)
@[go_sem] theorem zRL (x:Spn) (ro:Nat) (H:Heap) (nx:Nat):callT env 119 [spV x] ro H nx=some (.ret (.bool x.ok),.ups []):=by
 obtain ⟨H',h⟩:=zKu x
 exact call_pure rfl rfl rfl rfl h rfl ro H nx
@[go_sem] theorem zOG (x:Spn) (ro:Nat) (H:Heap) (nx:Nat):callT env 131 [spV x] ro H nx=some (.ret (.bool !x.ok),.ups []):=by
 have:∃ H',runT env 131 [spV x] [] 0=some (.ret (.bool !x.ok),H'):=by
  rw [run_unfold fn131 rfl]
  simp only [go_sem,simprocAttr,Try.f131,unwind,modeEx,resultsOf,one]
  exact ⟨_,rfl⟩
 obtain ⟨H',h⟩:=this
 exact call_pure rfl rfl rfl rfl h rfl ro H nx
set_option maxRecDepth 10000
theorem zEV {l:List Spn} {i:Nat} {x:Spn} (h:l[i]?=some x):(l.map spV)[(i:Int).toNat]?=some (spV x):=by simp [h]
theorem z1b {α:Type} {l:List α} {x:α} {i:Nat} {sz n:Nat} (h:l=[] ∨ sz=n) (hx:l[i]?=some x):sz=n:=by
 rcases h with rfl | h
 · simp at hx
 · exact h
theorem zI1 (cl:Bool) (sz:Nat) (l:List Spn) (H:Heap) (ro:Nat) (hsz:l=[] ∨ sz=2) (hlen:l.length < 2 ^ 63):∀ (n i:Nat) (j2 j3 j4 j5 j6 j9 j10 j11 j12 j13 j14 j15 j16 j17 j18:AVal),i+n=l.length →
    Goes (execT env (Try.f143.at [1,0,1,0]) ⟨[.lit cl sz (l.map spV),.func 131 [] [],j2,j3,j4,j5,j6,.int .i64 l.length,.int .i64 i,j9,j10,j11,j12,j13,j14,j15,j16,j17,j18],H,[],ro,[]⟩) fun e s=>
     if (l.drop i).all Spn.ok then e=.exit 0∧FrP 19 [] H [] ro [] s else e=.ret∧∃ (k:Nat),FrP 19 [(4,.int .i64 k)] H [] ro [] s:=by
 intro n
 induction n with
 | zero=>
   intro i;intros;rename_i hi
   have hd:decide ((i:Int) < (l.length:Int))=false:=by simp;omega
   have hdr:l.drop i=[]:=List.drop_eq_nil_of_le (by omega)
   simp only [go_sem,simprocAttr,Try.f143]
   rw [exec_loop]
   simp only [go_sem,simprocAttr,hd,hdr]
   exact frP (by kernel_rfl)
 | succ n ih=>
   intro i;intros;rename_i hi
   have hd:decide ((i:Int) < (l.length:Int))=true:=by simp;omega
   have h0:(0:Int)≤(i:Int):=by omega
   obtain ⟨b,hb,hdr⟩:=z0T (show i < l.length by omega)
   have hz:=z1b hsz hb
   subst hz
   have hb':=zEV hb
   cases hok:b.ok with
   | false=>
     simp only [go_sem,simprocAttr,Try.f143]
     rw [exec_loop,hdr]
     simp only [go_sem,simprocAttr,hd,h0,hb',hok]
     exact ⟨i,frP (by kernel_rfl)⟩
   | true=>
     have ih':=ih (i+1)
     simp only [go_sem,simprocAttr,Try.f143] at ih' ⊢
     rw [exec_loop,hdr]
     simp only [go_sem,simprocAttr,hd,h0,hb',hok,z00 (show i < 2 ^ 63 - 1 by omega)]
     exact ih' _ _ _ _ _ _ _ _ _ _ _ _ _ _ _ (by omega)
theorem zI0 {cl:Bool} {sz:Nat} {l:List Spn} (hsz:l=[] ∨ sz=2) (hlen:l.length < 2 ^ 63) (ro:Nat) (H:Heap) (nx:Nat):∃ k:Int,(decide (0≤k)=!l.all Spn.ok)∧callT env 143 [.lit cl sz (l.map spV),.func 131 [] []] ro H nx=some (.ret (.int .i64 k),.ups []):=by
 obtain ⟨e,s,hx,hp⟩:=zI1 cl sz l [] 0 hsz hlen l.length 0 _ _ _ _ _ _ _ _ _ _ _ _ _ _ _ (by omega)
 rw [List.drop_zero] at hp
 simp only [go_sem,simprocAttr,Try.f143,Int.ofNat_zero,Int.natCast_zero] at hx
 cases hok:l.all Spn.ok with
 | true=>
   rw [hok,if_pos rfl] at hp
   obtain ⟨rfl,jj,rfl⟩:=hp
   refine ⟨-1,by decide,call_pure (H':=[]) rfl rfl rfl rfl ?_ rfl ro H nx⟩
   rw [run_unfold fn143 rfl]
   simp only [go_sem,simprocAttr,Try.f143,List.length_map]
   rw [hx]
   simp only [go_sem,simprocAttr,unwind,modeEx,resultsOf,one]
 | false=>
   rw [hok,if_neg (by simp)] at hp
   obtain ⟨rfl,k,jj,rfl⟩:=hp
   refine ⟨k,by simp,call_pure (H':=[]) rfl rfl rfl rfl ?_ rfl ro H nx⟩
   rw [run_unfold fn143 rfl]
   simp only [go_sem,simprocAttr,Try.f143,List.length_map]
   rw [hx]
   simp only [go_sem,simprocAttr,unwind,modeEx,resultsOf,one]
theorem z75 {cl:Bool} {sz:Nat} {l:List Spn} (hsz:l=[] ∨ sz=2) (hlen:l.length < 2 ^ 63) (ro:Nat) (H:Heap) (nx:Nat):callT env 130 [.lit cl sz (l.map spV),.func 131 [] []] ro H nx=some (.ret (.bool !l.all Spn.ok),.ups []):=by
 obtain ⟨k,hk,hc⟩:=zI0 (cl:=cl) hsz hlen 0 [] 0
 refine call_pure (H':=[]) rfl rfl rfl rfl ?_ rfl ro H nx
 rw [run_unfold fn130 rfl]
 simp only [go_sem,simprocAttr,Try.f130,hc,hk,unwind,modeEx,resultsOf,one]
theorem z6u {cl:Bool} {sz:Nat} {l:List Spn} (hsz:l=[] ∨ sz=2) (hlen:l.length < 2 ^ 63) (n:Nat) (ro:Nat) (H:Heap) (nx:Nat):callT env 97 [.lit cl sz (l.map spV),.int .i64 n] ro H nx=some (.ret (.bool (decide (l.length=n) && l.all Spn.ok)),.ups []):=by
 have hc:=z75 (cl:=cl) hsz hlen
 refine call_pure (H':=[]) rfl rfl rfl rfl ?_ rfl ro H nx
 have e:decide ((l.length:Int)=n)=decide (l.length=n):=by simp only [decide_eq_decide];omega
 rw [run_unfold fn97 rfl,← e]
 cases h:decide ((l.length:Int)=n) <;> simp only [go_sem,simprocAttr,Try.f97,h,hc,List.length_map,Bool.not_not,unwind,modeEx,resultsOf,one]
theorem zFe (cl:Bool) (sz:Nat) (l:List Spn) (H:Heap) (ro:Nat) (hsz:l=[] ∨ sz=2) (hlen:l.length < 2 ^ 63):∀ (n i:Nat) (j1 j2 j4 j5 j6 j7 j8 j9 j10 j11 j12 j13 j14 j15:AVal),i+n=l.length →
    Goes (execT env (Try.f113.at [1,0,1,0]) ⟨[.lit cl sz (l.map spV),j1,j2,.int .i64 i,j4,j5,j6,j7,j8,j9,j10,j11,j12,j13,j14,j15],H,[],ro,[]⟩) fun e s=>
     if (l.drop i).all Spn.ok then e=.exit 0∧FrP 16 [] H [] ro [] s else e=.ret∧FrP 16 [(2,.bool false)] H [] ro [] s:=by
 intro n
 induction n with
 | zero=>
   intro i;intros;rename_i hi
   have hd:decide ((i:Int) < (l.length:Int))=false:=by simp;omega
   have hdr:l.drop i=[]:=List.drop_eq_nil_of_le (by omega)
   simp only [go_sem,simprocAttr,Try.f113]
   rw [exec_loop]
   simp only [go_sem,simprocAttr,hd,hdr,List.length_map]
   exact frP (by kernel_rfl)
 | succ n ih=>
   intro i;intros;rename_i hi
   have hd:decide ((i:Int) < (l.length:Int))=true:=by simp;omega
   have h0:(0:Int)≤(i:Int):=by omega
   obtain ⟨b,hb,hdr⟩:=z0T (show i < l.length by omega)
   have hz:=z1b hsz hb
   subst hz
   have hb':=zEV hb
   cases hok:b.ok with
   | false=>
     simp only [go_sem,simprocAttr,Try.f113]
     rw [exec_loop,hdr]
     simp only [go_sem,simprocAttr,hd,h0,hb',hok,List.length_map]
     exact frP (by kernel_rfl)
   | true=>
     have ih':=ih (i+1)
     simp only [go_sem,simprocAttr,Try.f113] at ih' ⊢
     rw [exec_loop,hdr]
     simp only [go_sem,simprocAttr,hd,h0,hb',hok,List.length_map,z00 (show i < 2 ^ 63 - 1 by omega)]
     exact ih' _ _ _ _ _ _ _ _ _ _ _ _ _ _ (by omega)
theorem z6t {cl:Bool} {sz:Nat} {l:List Spn} (hsz:l=[] ∨ sz=2) (hlen:l.length < 2 ^ 63) (ro:Nat) (H:Heap) (nx:Nat):callT env 113 [.lit cl sz (l.map spV)] ro H nx=some (.ret (.bool (l.all Spn.ok)),.ups []):=by
 obtain ⟨e,s,hx,hp⟩:=zFe cl sz l [] 0 hsz hlen l.length 0 _ _ _ _ _ _ _ _ _ _ _ _ _ _ (by omega)
 rw [List.drop_zero] at hp
 simp only [go_sem,simprocAttr,Try.f113,Int.ofNat_zero,Int.natCast_zero] at hx
 cases hok:l.all Spn.ok with
 | true=>
   rw [hok,if_pos rfl] at hp
   obtain ⟨rfl,jj,rfl⟩:=hp
   refine call_pure (H':=[]) rfl rfl rfl rfl ?_ rfl ro H nx
   rw [run_unfold fn113 rfl]
   simp only [go_sem,simprocAttr,Try.f113]
   rw [hx]
   simp only [go_sem,simprocAttr,unwind,modeEx,resultsOf,one]
 | false=>
   rw [hok,if_neg (by simp)] at hp
   obtain ⟨rfl,jj,rfl⟩:=hp
   refine call_pure (H':=[]) rfl rfl rfl rfl ?_ rfl ro H nx
   rw [run_unfold fn113 rfl]
   simp only [go_sem,simprocAttr,Try.f113]
   rw [hx]
   simp only [go_sem,simprocAttr,unwind,modeEx,resultsOf,one]
set_option maxRecDepth 10000
def ckS (t:Tab):Int:=if t.ok then 60 * 0 else 60
theorem z0R {t:Tab} (h:t.ok=true):ckS t=0:=by simp [ckS,h]
theorem z29 {t:Tab} (h:t.ok=false):ckS t=60:=by simp [ckS,h]
theorem zDS {l:List SlV} {i:Nat} {x:SlV} (h:l[i]?=some x):(l.map SlV.v)[(i:Int).toNat]?=some (.lit x.cl x.sz (x.l.map spV)):=by simp [h,SlV.v]
def z8v (C:Nat) (s:SlV):Bool:=decide (s.l.length=C) && s.l.all Spn.ok
theorem zHb (T:TabV) (hT:T.Wf) (ro:Nat):∀ (n i:Nat) (j0 j2 j3 j4 j5 j6 j7 j8 j9 j10 j11 j12 j13 j14 j15 j16 j17 j18 j19 j20 j21 j22 j23 j24 j25 j26 j27 j28 j29 j30 j31 j32 j33 j34 j35 j36 j37 j38 j39 j40 j41 j42 j43 j44 j48 j49 j50 j51 j52 j53 j54 j55 j56 j57:AVal),i+n=T.cells.length →
    Goes (execT env (Try.f38.at [1,1,0,1,0]) ⟨[j0,.ptr 0 0 0 0,j2,j3,j4,j5,j6,j7,j8,j9,j10,j11,j12,j13,j14,j15,j16,j17,j18,j19,j20,j21,j22,j23,j24,j25,j26,j27,j28,j29,j30,j31,j32,j33,j34,j35,j36,j37,j38,j39,j40,j41,j42,j43,j44,.lit T.cl T.sz (T.cells.map SlV.v),.int .i64 T.cells.length,.int .i64 i,j48,j49,j50,j51,j52,j53,j54,j55,j56,j57],[.cells 0 3 false [T.v]],[],ro,[]⟩) fun e s=>
     if (T.cells.drop i).all (z8v T.cols.l.length) then e=.exit 0∧FrP 58 [] ([.cells 0 3 false [T.v]]) [] ro [] s else e=.ret∧FrP 58 [(2,.int .i64 60)] ([.cells 0 3 false [T.v]]) [] ro [] s:=by
 intro n
 induction n with
 | zero=>
   intro i;intros;rename_i hi
   have hd:decide ((i:Int) < (T.cells.length:Int))=false:=by simp;omega
   have hdr:T.cells.drop i=[]:=List.drop_eq_nil_of_le (by omega)
   simp only [go_sem,simprocAttr,Try.f38]
   rw [exec_loop]
   simp only [go_sem,simprocAttr,hd,hdr]
   exact frP (by kernel_rfl)
 | succ n ih=>
   intro i;intros;rename_i hi
   have hd:decide ((i:Int) < (T.cells.length:Int))=true:=by simp;omega
   have h0:(0:Int)≤(i:Int):=by omega
   obtain ⟨b,hb,hdr⟩:=z0T (show i < T.cells.length by omega)
   have hz:=z1b hT.cells hb
   have hb':=zDS hb
   have hbm:b ∈ T.cells:=List.mem_of_getElem? hb
   have hc:=z6u (cl:=b.cl) (hT.each b hbm) (hT.le b hbm)
   have hll:=hT.ll
   cases hok:z8v T.cols.l.length b with
   | false=>
     have hok':=hok
     unfold z8v at hok'
     simp only [go_sem,simprocAttr,Try.f38]
     rw [exec_loop,hdr]
     simp only [go_sem,simprocAttr,hd,h0,hb',hz,hok,hc,hok',List.length_map]
     exact frP (by kernel_rfl)
   | true=>
     have hok':=hok
     unfold z8v at hok'
     have ih':=ih (i+1)
     simp only [go_sem,simprocAttr,Try.f38,hz] at ih' ⊢
     rw [exec_loop,hdr]
     simp only [go_sem,simprocAttr,hd,h0,hb',hz,hok,hc,hok',List.length_map,z00 (show i < 2 ^ 63 - 1 by omega)]
     exact ih' _ _ _ _ _ _ _ _ _ _ _ _ _ _ _ _ _ _ _ _ _ _ _ _ _ _ _ _ _ _ _ _ _ _ _ _ _ _ _ _ _ _ _ _ _ _ _ _ _ _ _ _ _ _ (by omega)
theorem zEc (T:TabV):T.tab.ok=(z22 T.rows.l.length && z22 T.cols.l.length && T.rows.l.all Spn.ok && T.cols.l.all Spn.ok && decide (T.cells.length=T.rows.l.length) && T.cells.all (z8v T.cols.l.length)):=by
 unfold Tab.ok TabV.tab Tab.R Tab.C
 simp only [List.length_map,List.all_map]
 rfl
theorem zJO (T:TabV) (hT:T.Wf):∃ H',runT env 38 [T.v] [] 0=some (.ret (.int .i64 (ckS T.tab)),H'):=by
 have s1:=z6u (cl:=T.rows.cl) hT.rows hT.lr
 have s2:=z6u (cl:=T.cols.cl) hT.cols hT.lc
 obtain ⟨e,s,hx,hp⟩:=zHb T hT 0 T.cells.length 0 _ _ _ _ _ _ _ _ _ _ _ _ _ _ _ _ _ _ _ _ _ _ _ _ _ _ _ _ _ _ _ _ _ _ _ _ _ _ _ _ _ _ _ _ _ _ _ _ _ _ _ _ _ _ (by omega)
 rw [List.drop_zero] at hp
 simp only [go_sem,simprocAttr,Try.f38,Int.ofNat_zero,Int.natCast_zero] at hx
 rw [run_unfold fn38 rfl]
 unfold ckS
 rw [zEc]
 have el:decide ((T.cells.length:Int)=T.rows.l.length)=decide (T.cells.length=T.rows.l.length):=by simp only [decide_eq_decide];omega
 cases h1:z22 T.rows.l.length
 · simp only [go_sem,simprocAttr,Try.f38,z30,List.length_map,h1,unwind,modeEx,resultsOf,one];exact ⟨_,rfl⟩
 cases h2:z22 T.cols.l.length
 · simp only [go_sem,simprocAttr,Try.f38,z30,List.length_map,h1,h2,unwind,modeEx,resultsOf,one];exact ⟨_,rfl⟩
 cases h3:T.rows.l.all Spn.ok
 · simp only [go_sem,simprocAttr,Try.f38,z30,List.length_map,h1,h2,s1,h3,unwind,modeEx,resultsOf,one];exact ⟨_,rfl⟩
 cases h4:T.cols.l.all Spn.ok
 · simp only [go_sem,simprocAttr,Try.f38,z30,List.length_map,h1,h2,s1,h3,s2,h4,unwind,modeEx,resultsOf,one];exact ⟨_,rfl⟩
 cases h5:decide (T.cells.length=T.rows.l.length)
 · simp only [go_sem,simprocAttr,Try.f38,z30,List.length_map,h1,h2,s1,h3,s2,h4,el,h5,unwind,modeEx,resultsOf,one];exact ⟨_,rfl⟩
 cases h6:T.cells.all (z8v T.cols.l.length)
 · rw [h6,if_neg (by simp)] at hp
   obtain ⟨rfl,jj,rfl⟩:=hp
   simp only [go_sem,simprocAttr,Try.f38,z30,List.length_map,h1,h2,s1,h3,s2,h4,el,h5]
   rw [hx]
   simp only [go_sem,simprocAttr,unwind,modeEx,resultsOf,one];exact ⟨_,rfl⟩
 · rw [h6,if_pos rfl] at hp
   obtain ⟨rfl,jj,rfl⟩:=hp
   simp only [go_sem,simprocAttr,Try.f38,z30,List.length_map,h1,h2,s1,h3,s2,h4,el,h5]
   rw [hx]
   simp only [go_sem,simprocAttr,unwind,modeEx,resultsOf,one];exact ⟨_,rfl⟩
theorem z0d {T:TabV}:underL 0 [T.v]=true:=by simp [underL,TabV.under]
theorem z0z (T:TabV) (hT:T.Wf) (ro:Nat) (H:Heap) (nx:Nat):callT env 38 [T.v] ro H nx=some (.ret (.int .i64 (ckS T.tab)),.ups []):=by
 obtain ⟨H',h⟩:=zJO T hT
 exact call_pure rfl rfl rfl z0d h rfl ro H nx
theorem zFY (T:TabV) (hT:T.Wf) (ro:Nat):∀ (n i:Nat) (j0 j2 j4 j5 j6 j7 j8 j9 j10 j11 j12 j13 j14 j15 j16 j17 j18 j19 j20 j21 j22 j23 j24 j25 j26 j27 j28 j29 j30 j31 j32 j33 j34 j35 j36 j37 j38 j39 j40 j41 j42 j43 j44 j45 j46 j47 j48 j49 j50 j51 j52 j53 j54 j55 j56 j57 j58 j59 j60 j61 j62:AVal),i+n=T.cells.length →
    Goes (execT env (Try.f48.at [1,1,0,1,0]) ⟨[j0,.ptr 0 0 0 0,j2,.int .i64 i,j4,j5,j6,j7,j8,j9,j10,j11,j12,j13,j14,j15,j16,j17,j18,j19,j20,j21,j22,j23,j24,j25,j26,j27,j28,j29,j30,j31,j32,j33,j34,j35,j36,j37,j38,j39,j40,j41,j42,j43,j44,j45,j46,j47,j48,j49,j50,j51,j52,j53,j54,j55,j56,j57,j58,j59,j60,j61,j62],[.cells 0 3 false [T.v]],[],ro,[]⟩) fun e s=>
     if (T.cells.drop i).all (z8v T.cols.l.length) then e=.exit 0∧FrP 63 [] ([.cells 0 3 false [T.v]]) [] ro [] s else e=.ret∧FrP 63 [(2,.int .i64 60)] ([.cells 0 3 false [T.v]]) [] ro [] s:=by
 intro n
 induction n with
 | zero=>
   intro i;intros;rename_i hi
   have hd:decide ((i:Int) < (T.cells.length:Int))=false:=by simp;omega
   have hdr:T.cells.drop i=[]:=List.drop_eq_nil_of_le (by omega)
   simp only [go_sem,simprocAttr,Try.f48]
   rw [exec_loop]
   simp only [go_sem,simprocAttr,hd,hdr,List.length_map]
   exact frP (by kernel_rfl)
 | succ n ih=>
   intro i;intros;rename_i hi
   have hd:decide ((i:Int) < (T.cells.length:Int))=true:=by simp;omega
   have h0:(0:Int)≤(i:Int):=by omega
   obtain ⟨b,hb,hdr⟩:=z0T (show i < T.cells.length by omega)
   have hz:=z1b hT.cells hb
   have hb':=zDS hb
   have hbm:b ∈ T.cells:=List.mem_of_getElem? hb
   have hc:=z6t (cl:=b.cl) (hT.each b hbm) (hT.le b hbm)
   have hll:=hT.ll
   have el:decide ((b.l.length:Int)=T.cols.l.length)=decide (b.l.length=T.cols.l.length):=by simp only [decide_eq_decide];omega
   cases h1:decide (b.l.length=T.cols.l.length)
   · simp only [go_sem,simprocAttr,Try.f48]
     rw [exec_loop,hdr]
     simp only [go_sem,simprocAttr,hd,h0,hb',hz,hc,el,h1,List.length_map,z8v]
     exact frP (by kernel_rfl)
   cases h2:b.l.all Spn.ok
   · simp only [go_sem,simprocAttr,Try.f48]
     rw [exec_loop,hdr]
     simp only [go_sem,simprocAttr,hd,h0,hb',hz,hc,el,h1,h2,List.length_map,z8v]
     exact frP (by kernel_rfl)
   · have ih':=ih (i+1)
     simp only [go_sem,simprocAttr,Try.f48,hz] at ih' ⊢
     rw [exec_loop,hdr]
     simp only [go_sem,simprocAttr,hd,h0,hb',hz,hc,el,h1,h2,List.length_map,z00 (show i < 2 ^ 63 - 1 by omega)]
     have e1:z8v T.cols.l.length b=true:=by unfold z8v;rw [h1,h2];rfl
     simp only [e1,Bool.true_and]
     exact ih' _ _ _ _ _ _ _ _ _ _ _ _ _ _ _ _ _ _ _ _ _ _ _ _ _ _ _ _ _ _ _ _ _ _ _ _ _ _ _ _ _ _ _ _ _ _ _ _ _ _ _ _ _ _ _ _ _ _ _ _ _ (by omega)
theorem zBk (T:TabV) (hT:T.Wf):∃ H',runT env 48 [T.v] [] 0=some (.ret (.int .i64 (ckS T.tab)),H'):=by
 have s1:=z6t (cl:=T.rows.cl) hT.rows hT.lr
 have s2:=z6t (cl:=T.cols.cl) hT.cols hT.lc
 obtain ⟨e,s,hx,hp⟩:=zFY T hT 0 T.cells.length 0 _ _ _ _ _ _ _ _ _ _ _ _ _ _ _ _ _ _ _ _ _ _ _ _ _ _ _ _ _ _ _ _ _ _ _ _ _ _ _ _ _ _ _ _ _ _ _ _ _ _ _ _ _ _ _ _ _ _ _ _ _ (by omega)
 rw [List.drop_zero] at hp
 simp only [go_sem,simprocAttr,Try.f48,Int.ofNat_zero,Int.natCast_zero] at hx
 rw [run_unfold fn48 rfl]
 unfold ckS
 rw [zEc]
 have el:decide ((T.cells.length:Int)=T.rows.l.length)=decide (T.cells.length=T.rows.l.length):=by simp only [decide_eq_decide];omega
 cases h1:z22 T.rows.l.length
 · simp only [go_sem,simprocAttr,Try.f48,z2O,List.length_map,h1,unwind,modeEx,resultsOf,one];exact ⟨_,rfl⟩
 cases h2:z22 T.cols.l.length
 · simp only [go_sem,simprocAttr,Try.f48,z2O,List.length_map,h1,h2,unwind,modeEx,resultsOf,one];exact ⟨_,rfl⟩
 cases h5:decide (T.cells.length=T.rows.l.length)
 · simp only [go_sem,simprocAttr,Try.f48,z2O,List.length_map,h1,h2,el,h5,unwind,modeEx,resultsOf,one];exact ⟨_,rfl⟩
 cases h3:T.rows.l.all Spn.ok
 · simp only [go_sem,simprocAttr,Try.f48,z2O,List.length_map,h1,h2,s1,h3,el,h5,unwind,modeEx,resultsOf,one];exact ⟨_,rfl⟩
 cases h4:T.cols.l.all Spn.ok
 · simp only [go_sem,simprocAttr,Try.f48,z2O,List.length_map,h1,h2,s1,h3,s2,h4,el,h5,unwind,modeEx,resultsOf,one];exact ⟨_,rfl⟩
 cases h6:T.cells.all (z8v T.cols.l.length)
 · rw [h6,if_neg (by simp)] at hp
   obtain ⟨rfl,jj,rfl⟩:=hp
   simp only [go_sem,simprocAttr,Try.f48,z2O,List.length_map,h1,h2,s1,h3,s2,h4,el,h5]
   rw [hx]
   simp only [go_sem,simprocAttr,unwind,modeEx,resultsOf,one];exact ⟨_,rfl⟩
 · rw [h6,if_pos rfl] at hp
   obtain ⟨rfl,jj,rfl⟩:=hp
   simp only [go_sem,simprocAttr,Try.f48,z2O,List.length_map,h1,h2,s1,h3,s2,h4,el,h5]
   rw [hx]
   simp only [go_sem,simprocAttr,unwind,modeEx,resultsOf,one];exact ⟨_,rfl⟩
theorem z1a (T:TabV) (hT:T.Wf) (ro:Nat) (H:Heap) (nx:Nat):callT env 48 [T.v] ro H nx=some (.ret (.int .i64 (ckS T.tab)),.ups []):=by
 obtain ⟨H',h⟩:=zBk T hT
 exact call_pure rfl rfl rfl z0d h rfl ro H nx
def z6R (t:Tab):Bool:=(decide (t.R≤4) || decide (8 < t.R)) && (decide (t.C≤4) || decide (8 < t.C))
theorem z3A (T:TabV) (ro:Nat) (H:Heap) (nx:Nat):callT env 21 [T.v] ro H nx=some (.ret (.bool (z6R T.tab)),.ups []):=by
 have e1:decide ((T.rows.l.length:Int)≤4)=decide (T.rows.l.length≤4):=by simp only [decide_eq_decide];omega
 have e2:decide ((8:Int) < T.rows.l.length)=decide (8 < T.rows.l.length):=by simp only [decide_eq_decide];omega
 have e3:decide ((T.cols.l.length:Int)≤4)=decide (T.cols.l.length≤4):=by simp only [decide_eq_decide];omega
 have e4:decide ((8:Int) < T.cols.l.length)=decide (8 < T.cols.l.length):=by simp only [decide_eq_decide];omega
 have:∃ H',runT env 21 [T.v] [] 0=some (.ret (.bool (z6R T.tab)),H'):=by
  rw [run_unfold fn21 rfl]
  unfold z6R Tab.R Tab.C TabV.tab
  cases h1:decide (T.rows.l.length≤4) <;> cases h2:decide (8 < T.rows.l.length) <;> cases h3:decide (T.cols.l.length≤4) <;> cases h4:decide (8 < T.cols.l.length) <;>
  (simp only [go_sem,simprocAttr,Try.f21,List.length_map,e1,e2,e3,e4,h1,h2,h3,h4,unwind,modeEx,resultsOf,one];exact ⟨_,rfl⟩)
 obtain ⟨H',h⟩:=this
 exact call_pure rfl rfl rfl z0d h rfl ro H nx
set_option maxRecDepth 10000
theorem z3O {f:Nat} {args qs:List AVal} {lent fp:List Nat} {bs:List Blk} {v w:AVal} {H H':Heap} {ro nx:Nat} (hw:(env.hint f).whole=false) (hka:(env.hint f).keepAll=false) (hk:(env.hint f).keep=[])
    (hl:lend H (env.hint f).lits args 0=some (qs,lent)) (hre:reach H fuel0 (refsL qs) []=some fp) (hg:getAll H fp=some bs)
    (hc:(!(lent.all fun id=>!fp.contains id) || (!(env.hint f).ro && !(fp.all fun id=>decide (ro≤id))))=false)
    (hr:runT env f (renL (idx fp) qs) (bs.map (renB (idx fp))) (if (env.hint f).ro then fp.length else 0)=some (.ret v,H'))
    (hb:handBack H' fp.length [] 4 v=some w) (hn:noRef w=true)
    (hlent:lent.isEmpty=true ∨ (w.noLit=true∧((env.hint f).ro=true ∨ (H'.take fp.length).all litFree=true))):
    callT env f args ro H nx=some (.ret w,.ups (if (env.hint f).ro then [] else fp.zip ((H'.take fp.length).map (renB (backF nx fp []))))):=by
 unfold callT
 rw [callF_small hw,hl]
 simp only [hre,hg,hc,Bool.false_eq_true,if_false,hr,Option.bind_some,callBack,keepOf,hka,hk,List.filter_nil,uniq,getAll,hb]
 have h1:(lent.isEmpty || (w.noLit && List.all [] litFree && ((env.hint f).ro || (H'.take fp.length).all litFree)))=true:=by
  rcases hlent with h | ⟨h1,h2 | h2⟩
  · rw [h];rfl
  · rw [h1,h2];simp
  · rw [h1,h2];simp
 simp only [h1,if_true]
 rw [(ren_noRef _).1 w hn]
 simp only [callUpd,List.map_nil,numbered,List.append_nil]
theorem z0o {f:Nat} {args:List AVal} {v w:AVal} {H':Heap} (hw:(env.hint f).whole=false) (hka:(env.hint f).keepAll=false) (hk:(env.hint f).keep=[]) (ha:underL 0 args=true) (hr:runT env f args [] 0=some (.ret v,H')) (hb:handBack H' 0 [] 4 v=some w) (hn:noRef w=true) (ro:Nat) (H:Heap) (nx:Nat):
    callT env f args ro H nx=some (.ret w,.ups []):=by
 have h:=z3O (f:=f) (args:=args) (qs:=args) (lent:=[]) (fp:=[]) (bs:=[]) (H:=H) (ro:=ro) (nx:=nx) hw hka hk (lend_noRef H _ args 0 ha) (by rw [refs_noRef.2 args ha];rfl) rfl (by simp)
  (by rw [(ren_noRef (idx [])).2 args ha]
      have h0:(if (env.hint f).ro=true then List.length ([]:List Nat) else 0)=0:=by split <;> rfl
      rw [h0];exact hr) hb hn (.inl rfl)
 rw [h]
 split <;> rfl
def vecA {α:Type} (n:Nat) (f:Nat→α):List α:=(List.range n).map f
theorem z0E {α:Type} (n:Nat) (f:Nat→α):(vecA n f).length=n:=by simp [vecA]
theorem vecA_get {α:Type} {n j:Nat} (f:Nat→α) (h:j < n):(vecA n f)[j]?=some (f j):=by simp [vecA,h]
theorem z7u {α:Type} {n j:Nat} (f:Nat→α) (v:α):(vecA n f).set j v=vecA n fun i=>if i=j then v else f i:=by
 apply List.ext_getElem?
 intro i
 unfold vecA
 by_cases h:j=i
 · subst h
   by_cases h2:j < n
   · rw [List.getElem?_set_self (by simpa using h2)];simp [h2]
   · rw [List.set_eq_of_length_le (by simp;omega)];simp [h2]
 · rw [List.getElem?_set_ne h]
   simp only [List.getElem?_map]
   by_cases h2:i < n
   · simp [h2,Ne.symm h]
   · simp [h2]
theorem z1D {α:Type} {n:Nat} {f g:Nat→α} (h:∀ i,i < n→f i=g i):vecA n f=vecA n g:=by
 unfold vecA
 exact List.map_congr_left fun i hi=>h i (by simpa using hi)
theorem zLK {α:Type} (n:Nat) (f:Nat→α):(vecA n f).take n=vecA n f:=List.take_of_length_le (by simp [vecA])
theorem z24 {α:Type} (n:Nat) (x:α):List.replicate n x=vecA n fun _=>x:=by
 apply List.ext_getElem <;> simp [vecA]
structure SlI where
 cl:Bool
 sz:Nat
 l:List Int
def SlI.v (s:SlI):AVal:=.lit s.cl s.sz (s.l.map (AVal.int .i64))
@[go_sem] theorem SlI.under (s:SlI) (m:Nat):s.v.under m=true:=rfl
structure MatV where
 cl:Bool
 sz:Nat
 rows:List SlI
def MatV.v (M:MatV):AVal:=.lit M.cl M.sz (M.rows.map SlI.v)
def MatV.m (M:MatV):List (List Int):=M.rows.map (·.l)
@[go_sem] theorem MatV.under (M:MatV) (m:Nat):M.v.under m=true:=rfl
structure MatV.Wf (M:MatV):Prop where
 sz:M.rows=[] ∨ M.sz=1
 each:∀ s ∈ M.rows,s.l=[] ∨ s.sz=1
 len:M.rows.length < 2 ^ 63
 le:∀ s ∈ M.rows,s.l.length < 2 ^ 63
 int:∀ s ∈ M.rows,∀ x ∈ s.l,-(2 ^ 63)≤x∧x < 2 ^ 63
def z03 (m:List (List Int)) (i k:Nat):Int:=(m.getD i []).getD k 0
def allN (p:Nat→Bool):Nat→Nat→Bool
 | _,0=>true
 | i,n+1=>p i && allN p (i+1) n
@[go_sem] theorem zRe (p:Nat→Bool) (i:Nat):allN p i 0=true:=rfl
theorem z44 {p:Nat→Bool}:∀ {n i:Nat},allN p i n=true ↔ ∀ j,i≤j→j < i+n→p j=true
 | 0,i=>by simp only [allN,true_iff];intro j h1 h2;omega
 | n+1,i=>by
   simp only [allN,Bool.and_eq_true,z44 (n:=n)]
   constructor
   · rintro ⟨h1,h2⟩ j h3 h4
     by_cases e:j=i
     · subst e;exact h1
     · exact h2 j (by omega) (by omega)
   · intro h
     exact ⟨h i (by omega) (by omega),fun j h1 h2=>h j (by omega) (by omega)⟩
@[go_sem] theorem zQh (n:Int) (x:Spn) (ro:Nat) (H:Heap) (nx:Nat):callT env 104 [.int .i64 n,spV x] ro H nx=some (.ret (.bool (x.has n)),.ups []):=by
 have:∃ H',runT env 104 [.int .i64 n,spV x] [] 0=some (.ret (.bool (x.has n)),H'):=by
  rw [run_unfold fn104 rfl]
  unfold Spn.has
  cases h1:decide (x.lo≤n) <;> cases h2:decide (n≤x.hi) <;> (simp only [go_sem,simprocAttr,Try.f104,h1,h2,unwind,modeEx,resultsOf,one];exact ⟨_,rfl⟩)
 obtain ⟨H',h⟩:=this
 exact call_pure rfl rfl rfl rfl h rfl ro H nx
@[go_sem] theorem zPi (n:Int) (x:Spn) (ro:Nat) (H:Heap) (nx:Nat):callT env 108 [.int .i64 n,spV x] ro H nx=some (.ret (.bool (x.has n)),.ups []):=by
 have:∃ H',runT env 108 [.int .i64 n,spV x] [] 0=some (.ret (.bool (x.has n)),H'):=by
  rw [run_unfold fn108 rfl]
  unfold Spn.has
  cases h1:decide (x.lo≤n) <;> cases h2:decide (n≤x.hi) <;> (simp only [go_sem,simprocAttr,Try.f108,h1,h2,unwind,modeEx,resultsOf,one];exact ⟨_,rfl⟩)
 obtain ⟨H',h⟩:=this
 exact call_pure rfl rfl rfl rfl h rfl ro H nx
@[go_sem] theorem zUv (n:Int) (x:Spn) (ro:Nat) (H:Heap) (nx:Nat):callT env 101 [.int .i64 n,spV x] ro H nx=some (.ret (.bool (x.has n)),.ups []):=by
 have:∃ H',runT env 101 [.int .i64 n,spV x] [] 0=some (.ret (.bool (x.has n)),H'):=by
  rw [run_unfold fn101 rfl]
  unfold Spn.has
  cases h1:decide (x.lo≤n) <;> cases h2:decide (n≤x.hi) <;> (simp only [go_sem,simprocAttr,Try.f101,h1,h2,unwind,modeEx,resultsOf,one];exact ⟨_,rfl⟩)
 obtain ⟨H',h⟩:=this
 exact call_pure rfl rfl rfl rfl h rfl ro H nx
set_option maxRecDepth 10000
def boxT (T:TabV):Blk:=.cells 0 3 false [T.v]
theorem zQA (T:TabV) (f:Nat→Option Nat):renL f [T.v]=[T.v]:=(ren_noRef f).2 _ z0d
theorem z3X (T:TabV) (f:Nat→Option Nat):renB f (boxT T)=boxT T:=by simp [renB,boxT,zQA]
set_option maxRecDepth 10000
theorem z1w {f:Nat→Int} {B:Int}:∀ {n:Nat},(∀ i,i < n→0≤f i∧f i≤B)→0≤sumN n f∧sumN n f≤n * B
 | 0,_=>by simp [sumN]
 | n+1,h=>by
   have h1:=z1w (n:=n) fun i hi=>h i (by omega)
   have h2:=h n (by omega)
   simp only [sumN]
   rw [show ((n+1:Nat):Int)=(n:Int)+1 by omega,Int.add_mul]
   omega
def intsV (n:Nat) (f:Nat→Int):List AVal:=vecA n fun j=>.int .i64 (f j)
theorem z0b {n j:Nat} {f:Nat→Int} (h:j < n):(intsV n f)[j]?=some (.int .i64 (f j)):=vecA_get _ h
theorem z2D {n j:Nat} {f g:Nat→Int} {v:Int} (h:∀ i,i < n→g i=if i=j then v else f i):(intsV n f).set j (.int .i64 v)=intsV n g:=by
 unfold intsV
 rw [z7u]
 exact z1D fun i hi=>by
  rw [h i hi]
  split <;> rfl
@[go_sem] theorem z0F (n:Nat) (f:Nat→Int):(intsV n f).length=n:=z0E _ _
theorem z0k {n:Nat} {f g:Nat→Int} (h:∀ i,i < n→f i=g i):intsV n f=intsV n g:=z1D fun i hi=>by rw [h i hi]
theorem zG3 (n:Nat) (f:Nat→Int) (m:Nat):underL m (intsV n f)=true:=z4l (fun _ _=>rfl) _ m
theorem z62 (n:Nat) (f:Nat→Int):(intsV n f).take n=intsV n f:=zLK _ _
structure SumOk (M:MatV) (R C:Nat):Prop where
 wf:M.Wf
 len:M.rows.length=R
 wid:∀ s ∈ M.rows,s.l.length=C
 R1:1≤R
 R8:R≤8
 C8:C≤8
 bd:∀ i k,i < R→k < C→0≤z03 M.m i k∧z03 M.m i k≤2 ^ 30
theorem z3t {M:MatV} {i k:Nat} {b:SlI} {x:Int} (h:M.rows[i]?=some b) (hx:b.l[k]?=some x):z03 M.m i k=x:=by
 simp [z03,MatV.m,h,hx]
set_option maxRecDepth 10000
def z7F (t:Tab) (x:Nat→Nat→Int):Bool:=allN (fun i=>allN (fun k=>(t.cell i k).has (x i k)) 0 t.C) 0 t.R && (allN (fun i=>(t.row i).has (sumN t.C (x i))) 0 t.R && allN (fun k=>(t.col k).has (sumN t.R fun i=>x i k)) 0 t.C)
theorem z1W {t:Tab} {x:Nat→Nat→Int}:z7F t x=true ↔ Fits t x:=by
 unfold z7F
 simp only [Bool.and_eq_true,z44,Spn.has_iff,Nat.zero_add]
 constructor
 · rintro ⟨h1,h2,h3⟩
   exact ⟨fun i k hi hk=>h1 i (by omega) hi k (by omega) hk,fun i hi=>h2 i (by omega) hi,fun k hk=>h3 k (by omega) hk⟩
 · intro h
   exact ⟨fun i _ hi k _ hk=>h.cell i k hi hk,fun i _ hi=>h.row i hi,fun k _ hk=>h.col k hk⟩
theorem getD_some {α:Type} {l:List α} {i:Nat} {x d:α} (h:l[i]?=some x):l.getD i d=x:=by rw [List.getD_eq_getElem?_getD,h];rfl
theorem TabV.at {T:TabV} (hT:T.Wf) (hok:T.tab.Mild) {i k:Nat} (hi:i < T.tab.R) (hk:k < T.tab.C):∃ c ∈ T.cells,(T.cells.map SlV.v)[i]?=some (.lit c.cl 2 (c.l.map spV))∧(c.l.map spV)[k]?=some (spV (T.tab.cell i k))∧T.sz=1∧c.l.length=T.tab.C∧T.tab.cells.getD i []=c.l:=by
 have hl:T.cells.length=T.tab.R:=by have:=hok.len;simpa [TabV.tab] using this
 obtain ⟨c,hc,_⟩:=z0T (show i < T.cells.length by omega)
 have hm:=List.mem_of_getElem? hc
 have hw:c.l.length=T.tab.C:=hok.wid c.l (List.mem_map.2 ⟨c,hm,rfl⟩)
 obtain ⟨x,hx,_⟩:=z0T (show k < c.l.length by omega)
 have hs:=z1b (hT.each c hm) hx
 have e1:T.tab.cells.getD i []=c.l:=getD_some (by simp [TabV.tab,hc])
 have e2:T.tab.cell i k=x:=by unfold Tab.cell;rw [e1];exact getD_some hx
 exact ⟨c,hm,by simp [hc,SlV.v,hs],by simp [hx,e2],z1b hT.cells hc,hw,e1⟩
theorem TabV.rowAt {T:TabV} (hT:T.Wf) {i:Nat} (hi:i < T.tab.R):(T.rows.l.map spV)[i]?=some (spV (T.tab.row i))∧T.rows.sz=2:=by
 obtain ⟨x,hx,_⟩:=z0T (show i < T.rows.l.length from hi)
 exact ⟨by simp only [List.getElem?_map,hx,Option.map_some,Tab.row];rw [show T.tab.rows.getD i sp0=x from getD_some hx],z1b hT.rows hx⟩
theorem TabV.colAt {T:TabV} (hT:T.Wf) {k:Nat} (hk:k < T.tab.C):(T.cols.l.map spV)[k]?=some (spV (T.tab.col k))∧T.cols.sz=2:=by
 obtain ⟨x,hx,_⟩:=z0T (show k < T.cols.l.length from hk)
 exact ⟨by simp only [List.getElem?_map,hx,Option.map_some,Tab.col];rw [show T.tab.cols.getD k sp0=x from getD_some hx],z1b hT.cols hx⟩
structure DimsOk (T:TabV) (M:MatV):Prop where
 len:M.rows.length=T.tab.R
 wid:∀ s ∈ M.rows,s.l.length=T.tab.C
theorem MatV.at {T:TabV} {M:MatV} (hM:M.Wf) (hd:DimsOk T M) {i k:Nat} (hi:i < T.tab.R) (hk:k < T.tab.C):∃ b ∈ M.rows,M.rows[i]?=some b∧(M.rows.map SlI.v)[i]?=some (.lit b.cl b.sz (b.l.map (AVal.int .i64)))∧(b.l.map (AVal.int .i64))[k]?=some (.int .i64 (z03 M.m i k))∧M.sz=1∧b.sz=1∧b.l.length=T.tab.C:=by
 obtain ⟨b,hb,_⟩:=z0T (show i < M.rows.length by rw [hd.len];exact hi)
 have hm:=List.mem_of_getElem? hb
 have hw:=hd.wid b hm
 obtain ⟨x,hx,_⟩:=z0T (show k < b.l.length by omega)
 exact ⟨b,hm,hb,by simp [hb,SlI.v],by simp [hx,z3t hb hx],z1b hM.sz hb,z1b (hM.each b hm) hx,hw⟩
set_option maxRecDepth 10000
@[go_sem] theorem zSv (m:Nat) (k:IntKind) (n:Int):scrub m (.int k n)=.int k n:=rfl
@[go_sem] theorem zRN (m:Nat) (b:Bool):scrub m (.bool b)=.bool b:=rfl
@[go_sem] theorem zSw (m:Nat) (cl:Bool) (sz:Nat) (es:List AVal):scrub m (.lit cl sz es)=.lit cl sz es:=rfl
@[go_sem] theorem zOV (m:Nat):scrub m (.tuple [])=.tuple []:=rfl
@[go_sem] theorem zQQ (m:Nat):scrub m .undef=.undef:=rfl
@[go_sem] theorem zOU (m:Nat):scrub m .nilptr=.nilptr:=rfl
@[go_sem] theorem zRO (m:Nat) (e:AVal) (f:Nat):scrub m (.lptr e f)=.lptr e f:=rfl
@[go_sem] theorem zSx (m id g i f:Nat):scrub m (.ptr id g i f)=if id < m then .ptr id g i f else .undef:=by
 unfold scrub
 simp only [AVal.under,decide_eq_true_eq]
 by_cases h:id < m <;> simp [h,AVal.ren]
@[go_sem] theorem zEO (m id g i len:Nat) (cl:Bool):scrub m (.ref id g i len cl)=if id < m then .ref id g i len cl else .undef:=by
 unfold scrub
 simp only [AVal.under,decide_eq_true_eq]
 by_cases h:id < m <;> simp [h,AVal.ren]
@[go_sem] theorem zSz (m:Nat) (x:Spn):scrub m (spV x)=spV x:=rfl
@[go_sem] theorem zT0 (m:Nat) (T:TabV):scrub m T.v=T.v:=rfl
@[go_sem] theorem zQP (m f:Nat):scrub m (.func f [] [])=.func f [] []:=rfl
def arcV (fr to:Nat) (lo hi f:Int):AVal:=.agg [.int .i64 fr,.int .i64 to,.int .i64 lo,.int .i64 hi,.int .i64 f]
@[go_sem] theorem zQq (fr to:Nat) (lo hi f:Int):(arcV fr to lo hi f).cellsOf=[.int .i64 fr,.int .i64 to,.int .i64 lo,.int .i64 hi,.int .i64 f]:=rfl
@[go_sem] theorem zTW (fr to:Nat) (lo hi f:Int):(arcV fr to lo hi f).isTuple=false:=rfl
@[go_sem] theorem zQr (fr to:Nat) (lo hi f:Int) (m:Nat):(arcV fr to lo hi f).under m=true:=rfl
@[go_sem] theorem zRn (fr to:Nat) (lo hi f:Int):AVal.agg [.int .i64 fr,.int .i64 to,.int .i64 lo,.int .i64 hi,.int .i64 f]=arcV fr to lo hi f:=rfl
@[go_sem] theorem zQs (fr to:Nat) (lo hi f v:Int):z0J (arcV fr to lo hi f) 4 (.int .i64 v)=some (arcV fr to lo hi v):=rfl
def resV (w:Res):AVal:=.agg [.int .i64 w.arc,.bool w.back,.int .i64 w.to,.int .i64 w.room,.int .i64 w.gain,.int .i64 w.start]
@[go_sem] theorem zRK (w:Res):(resV w).cellsOf=[.int .i64 w.arc,.bool w.back,.int .i64 w.to,.int .i64 w.room,.int .i64 w.gain,.int .i64 w.start]:=rfl
@[go_sem] theorem zUI (w:Res):(resV w).isTuple=false:=rfl
@[go_sem] theorem zIJ (w:Res) (m:Nat):(resV w).under m=true:=rfl
@[go_sem] theorem zSp (w:Res):AVal.agg [.int .i64 w.arc,.bool w.back,.int .i64 w.to,.int .i64 w.room,.int .i64 w.gain,.int .i64 w.start]=resV w:=rfl
@[go_sem] theorem zSy (m:Nat) (w:Res):scrub m (resV w)=resV w:=rfl
@[go_sem] theorem zSu (m fr to:Nat) (lo hi f:Int):scrub m (arcV fr to lo hi f)=arcV fr to lo hi f:=rfl
def z6W (G:Net) (f:Nat→Int) (j:Nat):AVal:=arcV (G.fr j) (G.to j) (G.lo j) (G.hi j) (f j)
def z70 (G:Net) (f:Nat→Int):List AVal:=vecA G.n (z6W G f)
theorem z4O {G:Net} {f:Nat→Int} {j:Nat} (h:j < G.n):(z70 G f)[j]?=some (arcV (G.fr j) (G.to j) (G.lo j) (G.hi j) (f j)):=vecA_get _ h
theorem z1V (G:Net) (f:Nat→Int):(z70 G f).length=G.n:=z0E _ _
theorem z9N {G:Net} {f:Nat→Int} {j:Nat} {v:Int}:(z70 G f).set j (arcV (G.fr j) (G.to j) (G.lo j) (G.hi j) v)=z70 G (updF f j v):=by
 unfold z70
 rw [z7u]
 refine z1D fun i _=>?_
 unfold updF z6W
 by_cases h:i=j
 · subst h;simp
 · simp [h]
def netB (R C a g n:Nat):Blk:=.cells 0 3 false [.agg [.int .i64 R,.int .i64 C,.ref a g 0 n false]]
def arcB (g:Nat) (G:Net) (f:Nat→Int):Blk:=.cells g 5 true (z70 G f)
def netH (R C g:Nat) (G:Net) (f:Nat→Int):Heap:=[netB R C 1 g G.n,arcB g G f]
@[go_sem] theorem zRt {n m:Nat} {z:AVal} (a:Int) (b:Bool) (c d e f:Int):build env ⟨.struct [(3,0),(4,1),(3,2),(131,3),(3,4),(3,5)],n,m,.agg [.int .i64 0,.bool false,.int .i64 0,.int .i64 0,.int .i64 0,.int .i64 0]⟩ [(0,.int .i64 a),(1,.bool b),(2,.int .i64 c),(3,.int .i64 d),(4,.int .i64 e),(5,.int .i64 f)]=some (.agg [.int .i64 a,.bool b,.int .i64 c,.int .i64 d,.int .i64 e,.int .i64 f]):=rfl
@[go_sem] theorem zRr {n m:Nat} (a b c d:Int):build env ⟨.struct [(3,0),(3,1),(131,2),(131,3),(131,4)],n,m,.agg [.int .i64 0,.int .i64 0,.int .i64 0,.int .i64 0,.int .i64 0]⟩ [(0,.int .i64 a),(1,.int .i64 b),(2,.int .i64 c),(3,.int .i64 d)]=some (.agg [.int .i64 a,.int .i64 b,.int .i64 c,.int .i64 d,.int .i64 0]):=rfl
@[go_sem] theorem zQx {n m:Nat} (a b:Int):build env ⟨.struct [(3,0),(3,1)],n,m,.agg [.int .i64 0,.int .i64 0]⟩ [(0,.int .i64 a),(1,.int .i64 b)]=some (.agg [.int .i64 a,.int .i64 b]):=rfl
@[go_sem] theorem zP2 {n m:Nat}:build env ⟨.struct [(3,0),(3,1)],n,m,.agg [.int .i64 0,.int .i64 0]⟩ []=some (.agg [.int .i64 0,.int .i64 0]):=rfl
@[go_sem] theorem zRs {n m:Nat} (a b:Int):build env ⟨.struct [(3,0),(3,1),(100,2)],n,m,.agg [.int .i64 0,.int .i64 0,.lit true 0 []]⟩ [(0,.int .i64 a),(1,.int .i64 b)]=some (.agg [.int .i64 a,.int .i64 b,.lit true 0 []]):=rfl
@[go_sem] theorem zQy {n m:Nat}:build env ⟨.struct [(22,0),(22,1),(23,2)],n,m,.agg [.lit true 0 [],.lit true 0 [],.lit true 0 []]⟩ []=some (.agg [.lit true 0 [],.lit true 0 [],.lit true 0 []]):=rfl
@[go_sem] theorem zQw {n m:Nat}:build env ⟨.struct [(26,0),(26,1)],n,m,.agg [.lit true 0 [],.lit true 0 []]⟩ []=some (.agg [.lit true 0 [],.lit true 0 []]):=rfl
@[go_sem] theorem zTj {n m:Nat} (b:Bool) (c:Int) (w:Res):build env ⟨.struct [(4,0),(3,1),(157,2)],n,m,.agg [.bool false,.int .i64 0,.int .i64 0,.bool false,.int .i64 0,.int .i64 0,.int .i64 0,.int .i64 0]⟩ [(0,.bool b),(1,.int .i64 c),(2,resV w)]=some (.agg [.bool b,.int .i64 c,.int .i64 w.arc,.bool w.back,.int .i64 w.to,.int .i64 w.room,.int .i64 w.gain,.int .i64 w.start]):=rfl
def z0P (l:List Res):List AVal:=l.map resV
@[go_sem] theorem zQf (l:List Res) (m:Nat):underL m (z0P l)=true:=z4l zIJ l m
def accB (sz g:Nat) (es:List AVal):Blk:=if es=[] then .cells 0 0 false [] else .cells g sz true es
def accG (g:Nat) (es:List AVal):Nat:=if es=[] then 0 else g
theorem z1c (sz g:Nat):accB sz g []=.cells 0 0 false []:=rfl
theorem z1d (g:Nat):accG g []=0:=rfl
@[go_sem] theorem zOY (m g sz:Nat) (fl:Bool) (es:List AVal):underB m (.cells g sz fl es)=(fl || underL m es):=rfl
@[go_sem] theorem zRX (m:Nat) (es:List (AVal × AVal)):underB m (.map es)=true:=rfl
@[go_sem] theorem zRW (m sz g:Nat) (es:List AVal):underB m (accB sz g es)=true:=by
 unfold accB;split <;> simp [underB,underL]
theorem z4M {t e n m sz:Nat} {z:AVal} {te:TI} (ht:env.ti t=some ⟨.slice e,n,m,z⟩) (he:env.ti e=some te) (hsz:te.sz=sz) (hz:0 < te.sz∧te.zero.cellsOf.length=te.sz∧te.zero.isTuple=false) (hfl:z0r env 8 e=true)
    {H:Heap} {id g:Nat} {es:List AVal} {v:AVal} {cl:Bool} (hH:H[id]?=some (accB sz g es)) (hv:noRef v=true) (hb:(es.length+1) * (te.bytes+1)≤z04) (nx:Nat) {ro:Nat} (hro:ro≤id):
    ∃ g',z0H env ro nx t (.ref id (accG g es) 0 es.length false) (.lit cl sz [v]) H=some (.ref id (accG g' (es++[v])) 0 (es.length+1) false,[(id,accB sz g' (es++[v]))]):=by
 have hne:∀ l:List AVal,l++[v] ≠ []:=by simp
 by_cases h:es=[]
 · subst h
   refine ⟨1,?_⟩
   simp only [accB,accG,if_true,List.nil_append] at hH ⊢
   have h1:¬ (0+0+1≤0):=by omega
   simp only [List.length_nil,Nat.zero_add] at hb
   simp [z0H,ht,he,z16,hsz,hz.2.1,hz.2.2,hH,hfl,hv,hb,hro,z1Q]
   exact ⟨by have:=hz.1;omega,by have:=hz.2.1;omega⟩
 · have hgr:=append_ref (E:=env) (ro:=ro) (nx:=nx) (t:=t) (e:=e) (n:=n) (m:=m) (z:=z) (te:=te) (H:=H) (id:=id) (g:=g) (len:=es.length) (x:=.lit cl sz [v]) (nsz:=sz) (new:=[v]) (fl:=true) (bs:=es) ht he rfl hz hsz.symm (by simp)
     (by rw [hH,accB,if_neg h,hsz]) rfl (List.length_pos_iff.2 h) hro (by simpa using hb) (fun _=>by simp [hv])
   refine ⟨g+1,?_⟩
   simp only [accG,if_neg h,if_neg (hne es),accB]
   simp only [List.length_singleton] at hgr
   rw [hgr,hsz]
end Go.Proofs.Ytgfejpngfikjiaa.Tidy
