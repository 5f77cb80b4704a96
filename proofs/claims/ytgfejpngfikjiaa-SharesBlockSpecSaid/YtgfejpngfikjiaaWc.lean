/-
 What the functions that SharesBlockSpec reaches compute;the law,run.
-/
import Derived.Test.YtgfejpngfikjiaaCe
import Derived.Test.YtgfejpngfikjiaaWb
import Derived.Test.YtgfejpngfikjiaaCb
import Derived.Test.YtgfejpngfikjiaaWa
set_option linter.all false
namespace Go.Proofs.Ytgfejpngfikjiaa.Tidy
open Go Go.IntWalk
set_option maxRecDepth 10000
set_option linter.unusedSimpArgs false
set_option maxHeartbeats 4000000
def Tab.setCol (t:Tab) (i:Nat) (x:Spn):Tab:=⟨t.rows,t.cols.set i x,t.cells⟩
theorem zCx (t:Tab) (i:Nat) (x:Spn):(t.setCol i x).C=t.C:=List.length_set
theorem zBt {t:Tab} {i:Nat} (x:Spn) (hi:i < t.C) (j:Nat):(t.setCol i x).col j=if j=i then x else t.col j:=by
 unfold Tab.col Tab.setCol
 simp only
 by_cases h:j=i
 · subst h
   rw [if_pos rfl,List.getD_eq_getElem?_getD,List.getElem?_set_self hi];rfl
 · rw [if_neg h,List.getD_eq_getElem?_getD,List.getElem?_set_ne (Ne.symm h),← List.getD_eq_getElem?_getD]
theorem TbAt.writeCol {H:Heap} {a b q ga gb g:Nat} {ps:Nat→Nat} {t:Tab} (h:TbAt H a b q ga gb g ps t) (i:Nat) (x:Spn):
    TbAt (H.set b (.cells gb 2 true ((t.cols.map spV).set i (spV x)))) a b q ga gb g ps (t.setCol i x):=by
 obtain ⟨l1,l2,l3,l4⟩:=h.lt
 have e:=zCx t i x
 refine ⟨?_,?_,?_,fun j hj=>?_,h.ab,h.aq,h.bq,h.pa,h.pp⟩
 · rw [List.getElem?_set_ne h.ab.symm];exact h.rows
 · rw [List.getElem?_set_self l2]
   show _=some (Blk.cells gb 2 true ((t.cols.set i x).map spV))
   rw [List.map_set]
 · rw [List.getElem?_set_ne h.bq,e];exact h.acc
 · rw [List.getElem?_set_ne (h.pa j hj).2.1.symm];exact h.row j hj
structure Clo (t t':Tab) (P:Nat→Prop) (Q:Nat→Nat→Prop) (S:Nat→Prop):Prop where
 R:t'.R=t.R
 C:t'.C=t.C
 len:t'.cells.length=t.R
 wid:∀ l ∈ t'.cells,l.length=t.C
 row:∀ i,i < t.R→P i→EndsP t (rowF t i) (t'.row i)
 cell:∀ i k,i < t.R→k < t.C→Q i k→EndsP t (fun s=>s i k) (t'.cell i k)
 col:∀ k,k < t.C→S k→EndsP t (fun s=>sumN t.R fun i=>s i k) (t'.col k)
theorem Clo.start {t:Tab} (hO:t.Ok):Clo t t (fun _=>False) (fun _ _=>False) fun _=>False:=
 ⟨rfl,rfl,hO.len,hO.wid,fun _ _ h=>h.elim,fun _ _ _ _ h=>h.elim,fun _ _ h=>h.elim⟩
theorem Clo.mono {t t':Tab} {P P':Nat→Prop} {Q Q':Nat→Nat→Prop} {S S':Nat→Prop} (h:Clo t t' P Q S) (h1:∀ i,P' i→P i) (h2:∀ i k,k < t.C→Q' i k→Q i k) (h3:∀ k,S' k→S k):Clo t t' P' Q' S':=
 ⟨h.R,h.C,h.len,h.wid,fun i a b=>h.row i a (h1 i b),fun i k a b c=>h.cell i k a b (h2 i k b c),fun k a b=>h.col k a (h3 k b)⟩
theorem Clo.setRow {t t':Tab} {P:Nat→Prop} {Q:Nat→Nat→Prop} {S:Nat→Prop} (h:Clo t t' P Q S) {i:Nat} (hi:i < t.R) {x:Spn} (hx:EndsP t (rowF t i) x):Clo t (t'.setRow i x) (fun j=>P j ∨ j=i) Q S where
 R:=by rw [z3E];exact h.R
 C:=h.C
 len:=h.len
 wid:=h.wid
 row j hj hp:=by
  rw [z39 x (by rw [h.R];exact hi)]
  by_cases e:j=i
  · subst e;rw [if_pos rfl];exact hx
  · rw [if_neg e];exact h.row j hj (hp.resolve_right e)
 cell:=h.cell
 col:=h.col
theorem Clo.setCol {t t':Tab} {P:Nat→Prop} {Q:Nat→Nat→Prop} {S:Nat→Prop} (h:Clo t t' P Q S) {i:Nat} (hi:i < t.C) {x:Spn} (hx:EndsP t (fun s=>sumN t.R fun j=>s j i) x):Clo t (t'.setCol i x) P Q fun j=>S j ∨ j=i where
 R:=h.R
 C:=by rw [zCx];exact h.C
 len:=h.len
 wid:=h.wid
 row:=h.row
 cell:=h.cell
 col j hj hp:=by
  rw [zBt x (by rw [h.C];exact hi)]
  by_cases e:j=i
  · subst e;rw [if_pos rfl];exact hx
  · rw [if_neg e];exact h.col j hj (hp.resolve_right e)
theorem zAR (t:Tab) (i k:Nat) (x:Spn):(t.setCell i k x).cells.length=t.cells.length:=List.length_set
theorem zAS {t:Tab} {n:Nat} (hw:∀ l ∈ t.cells,l.length=n) {i k:Nat} (hi:i < t.cells.length) (x:Spn):∀ l ∈ (t.setCell i k x).cells,l.length=n:=fun l hl=>by
 rcases List.mem_or_eq_of_mem_set hl with h | rfl
 · exact hw l h
 · rw [List.length_set]
   exact hw _ (z1C hi _)
theorem z7o {t:Tab} {n:Nat} (hw:∀ l ∈ t.cells,l.length=n) {i k:Nat} (hi:i < t.cells.length) (hk:k < n) (x:Spn) (i' k':Nat):(t.setCell i k x).cell i' k'=if i'=i∧k'=k then x else t.cell i' k':=by
 have hwi:=hw _ (z1C hi [])
 unfold Tab.cell Tab.setCell
 simp only
 by_cases e:i'=i
 · subst e
   rw [List.getD_eq_getElem?_getD (l:=t.cells.set _ _),List.getElem?_set_self hi,Option.getD_some]
   by_cases e':k'=k
   · subst e'
     rw [if_pos ⟨rfl,rfl⟩,List.getD_eq_getElem?_getD,List.getElem?_set_self (by omega)];rfl
   · rw [if_neg (fun h=>e' h.2),List.getD_eq_getElem?_getD,List.getElem?_set_ne (Ne.symm e'),← List.getD_eq_getElem?_getD]
 · rw [if_neg (fun h=>e h.1),List.getD_eq_getElem?_getD (l:=t.cells.set _ _),List.getElem?_set_ne (Ne.symm e),← List.getD_eq_getElem?_getD]
theorem Clo.setCell {t t':Tab} {P:Nat→Prop} {Q:Nat→Nat→Prop} {S:Nat→Prop} (h:Clo t t' P Q S) {i k:Nat} (hi:i < t.R) (hk:k < t.C) {x:Spn} (hx:EndsP t (fun s=>s i k) x):Clo t (t'.setCell i k x) P (fun a b=>Q a b ∨ (a=i∧b=k)) S where
 R:=h.R
 C:=h.C
 len:=by rw [zAR];exact h.len
 wid:=zAS h.wid (by rw [h.len];exact hi) x
 row:=h.row
 cell a b ha hb hq:=by
  rw [z7o h.wid (by rw [h.len];exact hi) hk]
  by_cases e:a=i∧b=k
  · obtain ⟨rfl,rfl⟩:=e;rw [if_pos ⟨rfl,rfl⟩];exact hx
  · rw [if_neg e];exact h.cell a b ha hb (hq.resolve_right e)
 col:=h.col
def ClosedT (t t':Tab):Prop:=Clo t t' (fun _=>True) (fun _ _=>True) fun _=>True
theorem zLD {t t':Tab} (hR:t'.R=t.R) (hC:t'.C=t.C) {n:Nat} (l1:t.cells.length=n) (l2:t'.cells.length=n) {m:Nat} (w1:∀ l ∈ t.cells,l.length=m) (w2:∀ l ∈ t'.cells,l.length=m)
    (er:∀ i,i < t.R→t'.row i=t.row i) (ec:∀ k,k < t.C→t'.col k=t.col k) (ex:∀ i k,i < n→k < m→t'.cell i k=t.cell i k):t'=t:=by
 have gd:∀ {l l':List Spn},l'.length=l.length→(∀ i,i < l.length→l'.getD i sp0=l.getD i sp0)→l'=l:=by
  intro l l' h e
  apply List.ext_getElem h
  intro i h1 h2
  have:=e i h2
  rwa [List.getD_eq_getElem?_getD,List.getD_eq_getElem?_getD,List.getElem?_eq_getElem h1,List.getElem?_eq_getElem h2] at this
 have e1:t'.rows=t.rows:=gd hR er
 have e2:t'.cols=t.cols:=gd hC ec
 have e3:t'.cells=t.cells:=by
  apply List.ext_getElem (by rw [l1,l2])
  intro i h1 h2
  have a1:=w2 _ (List.getElem_mem h1)
  have a2:=w1 _ (List.getElem_mem h2)
  refine gd (by rw [a1,a2]) fun k hk=>?_
  have:=ex i k (by omega) (by omega)
  unfold Tab.cell at this
  rwa [List.getD_eq_getElem?_getD (l:=t'.cells),List.getD_eq_getElem?_getD (l:=t.cells),List.getElem?_eq_getElem h1,List.getElem?_eq_getElem h2] at this
 cases t;cases t'
 simp only at e1 e2 e3
 rw [e1,e2,e3]
theorem ClosedT.unique {t a b:Tab} (ha:ClosedT t a) (hb:ClosedT t b):b=a:=by
 refine zLD (hb.R.trans ha.R.symm) (hb.C.trans ha.C.symm) ha.len hb.len ha.wid hb.wid (fun i hi=>?_) (fun k hk=>?_) fun i k hi hk=>?_
 · rw [ha.R] at hi
   exact (hb.row i hi trivial).unique (ha.row i hi trivial) fun _ _=>rfl
 · rw [ha.C] at hk
   exact (hb.col k hk trivial).unique (ha.col k hk trivial) fun _ _=>rfl
 · exact (hb.cell i k hi hk trivial).unique (ha.cell i k hi hk trivial) fun _ _=>rfl
set_option maxRecDepth 10000
set_option maxHeartbeats 4000000
theorem zAM {t:Tab} {n:Nat} (hw:∀ l ∈ t.cells,l.length=n) {i k:Nat} (hi:i < t.cells.length) (hk:k < n):(rowA t i)[k]?=some (spV (t.cell i k)):=by
 have:=hw _ (z1C hi [])
 unfold rowA Tab.cell
 rw [List.getElem?_map,List.getElem?_eq_getElem (by omega),List.getD_eq_getElem?_getD (l:=t.cells.getD i []),List.getElem?_eq_getElem (by omega)]
 rfl
structure RcAt (T:TabV) (H:Heap) (B g:Nat) (ps:Nat→Nat) (t:Tab):Prop where
 own:H[0]?=some (.cells 0 3 false [T.v])
 res:H[1]?=some (.cells 0 3 false [noTab])
 tab:TbAt H 4 5 6 1 1 g ps t
 box:H[B]?=some (.cells 0 3 false [memT T.tab 4 5 6 1 1 g])
 len:H.length=B+1
 lt:6 < B
 ps:∀ i,i < T.tab.R→6 < ps i∧ps i ≠ B
theorem RcAt.step {T:TabV} {H:Heap} {B g:Nat} {ps:Nat→Nat} {t t':Tab} (h:RcAt T H B g ps t) {j:Nat} {b:Blk} (ht:TbAt (H.set j b) 4 5 6 1 1 g ps t') (h1:j ≠ 0) (h2:j ≠ 1) (h3:j ≠ B):RcAt T (H.set j b) B g ps t':=
 ⟨by rw [List.getElem?_set_ne h1];exact h.own,by rw [List.getElem?_set_ne h2];exact h.res,ht,by rw [List.getElem?_set_ne h3];exact h.box,by rw [List.length_set];exact h.len,h.lt,h.ps⟩
theorem z5g {t:Tab} {i:Nat} (hi:i < t.R):(t.rows.map spV)[i]?=some (spV (t.row i)):=by
 unfold Tab.row
 rw [List.getElem?_map,List.getD_eq_getElem?_getD,List.getElem?_eq_getElem (show i < t.rows.length from hi)]
 rfl
theorem z9Z {t:Tab} {i:Nat} (hi:i < t.C):(t.cols.map spV)[i]?=some (spV (t.col i)):=by
 unfold Tab.col
 rw [List.getElem?_map,List.getD_eq_getElem?_getD,List.getElem?_eq_getElem (show i < t.cols.length from hi)]
 rfl
set_option maxRecDepth 10000
set_option maxHeartbeats 4000000
set_option maxRecDepth 10000
set_option maxHeartbeats 4000000
theorem zF0 {f:Nat} {args qs:List AVal} {fp:List Nat} {bs:List Blk} {v w:AVal} {H H':Heap} {ro nx:Nat} (hw:(env.hint f).whole=false) (hka:(env.hint f).keepAll=false) (hk:(env.hint f).keep=[]) (hro:(env.hint f).ro=false)
    (hl:lend H (env.hint f).lits args 0=some (qs,[])) (hre:reach H fuel0 (refsL qs) []=some fp) (hg:getAll H fp=some bs)
    (hc:(fp.all fun id=>decide (ro≤id))=true)
    (hr:runT env f (renL (idx fp) qs) (bs.map (renB (idx fp))) 0=some (.ret v,H'))
    (hb:handBack H' fp.length [] 4 v=some w):
    callT env f args ro H nx=some (.ret (w.ren (backF nx fp [])),.ups (fp.zip ((H'.take fp.length).map (renB (backF nx fp []))))):=by
 unfold callT
 rw [callF_small hw,hl]
 simp only [hre,hg,hc,hro,List.all_nil,Bool.not_true,Bool.not_false,Bool.or_false,Bool.and_false,Bool.true_and,Bool.false_eq_true,if_false,hr,Option.bind_some,callBack,keepOf,hka,hk,List.filter_nil,uniq,getAll,hb,List.isEmpty_nil,Bool.true_or,if_true]
 simp only [callUpd,hro,List.map_nil,numbered,List.append_nil,Bool.false_eq_true,if_false]
section
variable {g n i:Nat} {es:List AVal}
end
section
variable {g n i:Nat} {es:List AVal}
end
set_option maxRecDepth 10000
set_option maxHeartbeats 4000000
theorem zAI {H:Heap}:∀ (ids seen:List Nat) (n:Nat),(∀ id ∈ ids,∃ g sz es,H[id]?=some (.cells g sz true es))→ids.Nodup→(∀ id ∈ ids,id ∉ seen)→ids.length≤n→reach H n ids seen=some (seen++ids)
 | [],seen,n,_,_,_,_=>by cases n <;> simp [reach]
 | id :: ids,seen,n,hf,hd,hs,hl=>by
   obtain ⟨n,rfl⟩:∃ m,n=m+1:=⟨n - 1,by simp at hl;omega⟩
   obtain ⟨g,sz,es,hH⟩:=hf id (by simp)
   have hns:seen.contains id=false:=by
    rw [Bool.eq_false_iff];intro h;exact hs id (by simp) (List.contains_iff_mem.1 h)
   have hd':=List.nodup_cons.1 hd
   have ih:=zAI (H:=H) ids (seen++[id]) n (fun x hx=>hf x (by simp [hx])) hd'.2 (fun x hx h=>by
    rw [List.mem_append] at h
    rcases h with h | h
    · exact hs x (by simp [hx]) h
    · simp at h;subst h;exact hd'.1 hx) (by simp at hl;omega)
   simp only [reach,hns,hH,Bool.false_eq_true,if_false,if_true]
   rw [ih,List.append_assoc];rfl
set_option maxRecDepth 10000
set_option maxHeartbeats 4000000
set_option maxRecDepth 10000
set_option maxHeartbeats 4000000
theorem z6A (a b:Int):minL .i64 a [.int .i64 b]=some (min a b):=by
 simp only [minL,if_true];congr 1;omega
set_option maxRecDepth 10000
set_option maxHeartbeats 4000000
def intB (n:Int):Blk:=.cells 0 1 true [.int .i64 n]
section
variable {T:TabV} {x:Spn}
end
theorem EndsP.sub {t u:Tab} {μ:(Nat→Nat→Int)→Int} {x y:Spn} (h:EndsP u μ x) (h':EndsP t μ y) (e:∀ s,Fits u s→Fits t s):y.lo≤x.lo∧x.hi≤y.hi:=by
 obtain ⟨⟨s1,a1,b1⟩,⟨s2,a2,b2⟩,_⟩:=h
 have e1:=h'.2.2 s1 (e s1 a1)
 have e2:=h'.2.2 s2 (e s2 a2)
 omega
set_option maxRecDepth 10000
set_option maxHeartbeats 2000000
set_option maxRecDepth 10000
set_option maxHeartbeats 4000000
set_option maxRecDepth 10000
set_option maxHeartbeats 4000000
set_option maxRecDepth 10000
set_option maxHeartbeats 4000000
theorem TbAt.shift {H':Heap} {a b q ga gb g:Nat} {ps:Nat→Nat} {t:Tab} (h:TbAt H' a b q ga gb g ps t) (H0:Heap):
    TbAt (H0++H'.map (renB (nxF H0.length H'.length))) (H0.length+a) (H0.length+b) (H0.length+q) ga gb g (fun i=>H0.length+ps i) t:=by
 obtain ⟨l1,l2,l3,l4⟩:=h.lt
 have hg:∀ i,(H0++H'.map (renB (nxF H0.length H'.length)))[H0.length+i]?=(H'[i]?).map (renB (nxF H0.length H'.length)):=fun i=>by
  rw [List.getElem?_append_right (by omega),Nat.add_sub_cancel_left,List.getElem?_map]
 have hr:renL (nxF H0.length H'.length) (vecA t.R fun i=>AVal.ref (ps i) 0 0 t.C false)=vecA t.R fun i=>AVal.ref (H0.length+ps i) 0 0 t.C false:=by
  have gen:∀ l:List Nat,(∀ i ∈ l,i < t.R)→renL (nxF H0.length H'.length) (l.map fun i=>AVal.ref (ps i) 0 0 t.C false)=l.map fun i=>AVal.ref (H0.length+ps i) 0 0 t.C false:=by
   intro l
   induction l with
   | nil=>intro _;rfl
   | cons i l ih=>
     intro hl
     have hi:=l4 i (hl i (by simp))
     simp only [List.map_cons,renL,AVal.ren,ih fun j hj=>hl j (by simp [hj])]
     unfold nxF
     rw [if_pos hi]
  exact gen _ fun i hi=>by rw [List.mem_range] at hi;omega
 refine ⟨?_,?_,?_,fun i hi=>?_,by have:=h.ab;omega,by have:=h.aq;omega,by have:=h.bq;omega,fun i hi=>?_,fun i j hi hj e=>h.pp i j hi hj (by omega)⟩
 · rw [hg,h.rows];rfl
 · rw [hg,h.cols];rfl
 · rw [hg,h.acc]
   simp only [Option.map_some,renB,Bool.false_eq_true,if_false,hr]
 · rw [hg,h.row i hi];rfl
 · obtain ⟨p1,p2,p3⟩:=h.pa i hi
   omega
set_option maxRecDepth 10000
set_option maxHeartbeats 4000000
structure TbG (H:Heap) (a b q ga gb g:Nat) (ps:Nat→Nat) (gr:Nat) (t:Tab):Prop where
 rows:H[a]?=some (.cells ga 2 true (t.rows.map spV))
 cols:H[b]?=some (.cells gb 2 true (t.cols.map spV))
 acc:H[q]?=some (.cells g 1 false (vecA t.R fun i=>.ref (ps i) gr 0 t.C false))
 row:∀ i,i < t.R→H[ps i]?=some (.cells gr 2 true (rowA t i))
 ab:a ≠ b
 aq:a ≠ q
 bq:b ≠ q
theorem TbG.toLit {H:Heap} {a b q ga gb g gr:Nat} {ps:Nat→Nat} {t:Tab} (h:TbG H a b q ga gb g ps gr t) (hl:t.cells.length=t.R) (hw:∀ l ∈ t.cells,l.length=t.C) (n:Nat):Tidy.toLit (fun _=>true) H (n+3) (memT t a b q ga gb g)=some (canon t).v:=by
 have t1:(t.rows.map spV).take t.R=t.rows.map spV:=List.take_of_length_le (by rw [List.length_map];exact Nat.le_refl _)
 have t2:(t.cols.map spV).take t.C=t.cols.map spV:=List.take_of_length_le (by rw [List.length_map];exact Nat.le_refl _)
 have t3:(vecA t.R fun i=>AVal.ref (ps i) gr 0 t.C false).take t.R=vecA t.R fun i=>AVal.ref (ps i) gr 0 t.C false:=List.take_of_length_le (by rw [z0E];exact Nat.le_refl _)
 have lr:t.rows.length=t.R:=rfl
 have lc:t.cols.length=t.C:=rfl
 have hm:mapO (Tidy.toLit (fun _=>true) H (n+1)) (vecA t.R fun i=>AVal.ref (ps i) gr 0 t.C false)=some (vecA t.R fun i=>AVal.lit false 2 (rowA t i)):=by
  have gen:∀ l:List Nat,(∀ i ∈ l,i < t.R)→mapO (Tidy.toLit (fun _=>true) H (n+1)) (l.map fun i=>AVal.ref (ps i) gr 0 t.C false)=some (l.map fun i=>AVal.lit false 2 (rowA t i)):=by
   intro l
   induction l with
   | nil=>intro _;rfl
   | cons i l ih=>
     intro hl'
     have hi:=hl' i (by simp)
     have hr:=h.row i hi
     have hrl:=z0V hl hw hi
     have htk:(rowA t i).take t.C=rowA t i:=List.take_of_length_le (by omega)
     simp only [List.map_cons,mapO,ih fun j hj=>hl' j (by simp [hj])]
     simp [Tidy.toLit,noRef,AVal.under,hr,hrl,htk]
  exact gen _ fun i hi=>List.mem_range.1 hi
 have ec:(canon t).v=.agg [.lit false 2 (t.rows.map spV),.lit false 2 (t.cols.map spV),.lit false 1 (vecA t.R fun i=>AVal.lit false 2 (rowA t i))]:=by
  rw [zCv hl]
  unfold canon TabV.v
  simp only [List.map_map]
  rfl
 have ea:Tidy.toLit (fun _=>true) H (n+2) (.ref a ga 0 t.R false)=some (.lit false 2 (t.rows.map spV)):=by
  simp [Tidy.toLit,noRef,AVal.under,h.rows,t1,lr]
 have eb:Tidy.toLit (fun _=>true) H (n+2) (.ref b gb 0 t.C false)=some (.lit false 2 (t.cols.map spV)):=by
  simp [Tidy.toLit,noRef,AVal.under,h.cols,t2,lc]
 have eq:Tidy.toLit (fun _=>true) H (n+2) (.ref q g 0 t.R false)=some (.lit false 1 (vecA t.R fun i=>AVal.lit false 2 (rowA t i))):=by
  unfold Tidy.toLit
  simp only [noRef,AVal.under,Nat.not_lt_zero,decide_false,Bool.false_eq_true,if_false,h.acc,decide_true,Nat.zero_add,z0E,Nat.le_refl,Bool.and_true,if_true,List.drop_zero,t3,hm]
  rfl
 rw [ec]
 unfold Tidy.toLit
 simp only [memT,noRef,AVal.under,underL,Nat.not_lt_zero,decide_false,Bool.false_and,Bool.false_eq_true,if_false,mapO,ea,eb,eq]
 rfl
theorem TbG.lend {H:Heap} {a b q ga gb g gr:Nat} {ps:Nat→Nat} {t:Tab} (h:TbG H a b q ga gb g ps gr t) (hR:t.R≤8) (hl:t.cells.length=t.R) (hw:∀ l ∈ t.cells,l.length=t.C) {lits:List Nat} (h0:lits.contains 0=true) {args:List AVal} (ha:underL 0 args=true):∃ ids,Tidy.lend H lits (memT t a b q ga gb g :: args) 0=some ((canon t).v :: args,ids):=by
 have hlit:=h.toLit hl hw 5
 have hre:∃ l,reach H fuel0 (memT t a b q ga gb g).refs []=some l:=by
  have hrefs:(memT t a b q ga gb g).refs=[a,b,q]:=rfl
  rw [hrefs]
  have hab:b ≠ a:=Ne.symm h.ab
  have haq:q ≠ a:=Ne.symm h.aq
  have hbq:q ≠ b:=Ne.symm h.bq
  have hrl:refsL (vecA t.R fun i=>AVal.ref (ps i) gr 0 t.C false)=vecA t.R ps:=by
   unfold vecA
   induction (List.range t.R) with
   | nil=>rfl
   | cons i l ih=>simp [refsL,AVal.refs,ih]
  obtain ⟨l,hl⟩:=z3f (H:=H) (vecA t.R ps) [a,b,q] 61 (fun id hid=>by
   unfold vecA at hid
   obtain ⟨i,hi,rfl⟩:=List.mem_map.1 hid
   exact ⟨_,_,_,h.row i (List.mem_range.1 hi)⟩) (by rw [z0E];omega)
  refine ⟨l,?_⟩
  unfold fuel0
  simp [reach,h.rows,h.cols,h.acc,hab,haq,hbq,hrl,hl]
 obtain ⟨l,hre⟩:=hre
 have hnr:noRef (memT t a b q ga gb g)=false:=rfl
 refine ⟨l++[],?_⟩
 unfold Tidy.lend
 rw [lend_noRef H lits args 1 ha]
 simp only [h0,hnr,Bool.not_false,Bool.and_self,if_true,hlit,hre]
def accF (l:List AVal):Blk:=if l=[] then .cells 0 0 false [] else .cells l.length 1 false l
def zDD (n:Int) (y:Spn):Prop:=0≤y.lo∧y.lo≤n∧n≤y.hi∧y.hi≤2 ^ 30
set_option maxRecDepth 10000
set_option maxHeartbeats 4000000
theorem z9M {H:Heap} {q n:Nat} {es:List AVal} {x r:AVal} (hx:z16 H x=some (1,[r])) (hH:H[q]?=some (accF es)) (hn:es.length=n) (hr:r.cellsOf=[r]) (ht:r.isTuple=false) (hb:n < 2 ^ 20) (nx:Nat):
    z0H env 0 nx 46 (.ref q n 0 n false) x H=some (.ref q (n+1) 0 (n+1) false,[(q,accF (es++[r]))]):=by
 subst hn
 have hne:es++[r] ≠ []:=by simp
 have hln:(es++[r]).length=es.length+1:=by simp
 by_cases h:es=[]
 · subst h
   have hH':H[q]?=some (.cells 0 0 false []):=hH
   have hfl:z0r env 8 51=false:=rfl
   have hm:25≤z04:=by decide
   simp [z0H,ti46,ti51,hx,hH',hfl,z1Q,accF,hr,ht,hm]
   exact ⟨rfl,rfl⟩
 · have hgr:=append_ref (E:=env) (ro:=0) (nx:=nx) (H:=H) (id:=q) (g:=es.length) (len:=es.length) (x:=x) (nsz:=1) (new:=[r]) (fl:=false) (bs:=es) ti46 ti51 hx ⟨by decide,rfl,rfl⟩ rfl (by simp)
     (by rw [hH,accF,if_neg h]) rfl (List.length_pos_iff.2 h) (Nat.zero_le _) (by show (es.length+1) * 25≤2 ^ 45;omega) (fun h=>by cases h)
   rw [hgr,accF,if_neg hne,hln]
   rfl
set_option maxRecDepth 10000
set_option maxHeartbeats 4000000
def inI (c:CutA) (i k:Nat):Int:=if c.l1.getD i false && c.l2.getD k false then 1 else 0
theorem z8F {c:CutA} (hc:c.Wf) {i k:Nat} (hi:i < c.l1.length) (hk:k < c.l2.length) (ro:Nat) (H:Heap) (nx:Nat):callT env 127 [c.v,.int .i64 i,.int .i64 k] ro H nx=some (.ret (.int .i64 (inI c i k)),.ups []):=by
 have hu:underL 0 [c.v,.int .i64 i,.int .i64 k]=true:=by simp [underL,AVal.under,CutA.under]
 have i0:(0:Int)≤(i:Int):=by omega
 have k0:(0:Int)≤(k:Int):=by omega
 have z1:=z1b hc.s1 (List.getElem?_eq_getElem hi)
 have z2:=z1b hc.s2 (List.getElem?_eq_getElem hk)
 have g1:=z0f hi
 have g2:=z0f hk
 have:∃ H',runT env 127 [c.v,.int .i64 i,.int .i64 k] [] 0=some (.ret (.int .i64 (inI c i k)),H'):=by
  unfold inI
  rw [run_unfold fn127 rfl]
  cases hb1:c.l1.getD i false <;> cases hb2:c.l2.getD k false <;> rw [hb1] at g1 <;> rw [hb2] at g2 <;>
   (simp only [go_sem,simprocAttr,Try.f127,i0,k0,Int.toNat_natCast,z1,z2,g1,g2,unwind,modeEx,resultsOf,one,Bool.and_true,Bool.and_false,Bool.and_self,if_true,Bool.false_eq_true,if_false]
    exact ⟨_,rfl⟩)
 obtain ⟨H',h⟩:=this
 exact call_pure rfl rfl rfl hu h rfl ro H nx
theorem zMb {t:Tab} (hcan:canB t=true) {r c:Nat} (hr:r < t.R) (hc:c < t.C):∃ v,Least t r c v:=by
 obtain ⟨s,hs⟩:=z0S.1 hcan
 obtain ⟨n,⟨s1,f1,e1⟩,_,h⟩:=zDo (fun n=>∃ s,Fits t s∧(s r c - (t.cell r c).lo).toNat=n) _ ⟨s,hs,rfl⟩
 refine ⟨s1 r c,⟨s1,f1,rfl⟩,fun s2 f2=>?_⟩
 have b1:=f1.cell r c hr hc
 have b2:=f2.cell r c hr hc
 by_cases h2:s2 r c < s1 r c
 · exact absurd ⟨s2,f2,rfl⟩ (h ((s2 r c - (t.cell r c).lo).toNat) (by omega))
 · omega
structure FillT (t t':Tab) (i k:Nat):Prop where
 R:t'.R=t.R
 C:t'.C=t.C
 mild:t'.Mild
 can:canB t'=true
 sub:∀ s,Fits t' s→Fits t s
 fix:∀ j m,j < t.R→m < t.C→j < i ∨ (j=i∧m < k)→(t'.cell j m).lo=(t'.cell j m).hi
theorem FillT.step {t t':Tab} {i k:Nat} (h:FillT t t' i k) (hi:i < t.R) (hk:k < t.C) {n:Int} (hn:Least t' i k n):FillT t (t'.setCell i k ⟨n,n⟩) i (k+1):=by
 have hi':i < t'.R:=by rw [h.R];exact hi
 have hk':k < t'.C:=by rw [h.C];exact hk
 obtain ⟨b1,b2⟩:=hn.range hi' hk'
 have bc:=h.mild.cell_ok hi' hk'
 have hf:=fun s=>z1Z h.mild hi' hk' (x:=⟨n,n⟩) b1 b2 s
 obtain ⟨s,hs,e⟩:=hn.at_
 refine ⟨h.R,h.C,z8r h.mild hi' hk' ⟨by show _≤n;omega,by show n≤_;omega,Int.le_refl _⟩,z0S.2 ⟨s,(hf s).2 ⟨hs,by show n≤s i k;omega,by show s i k≤n;omega⟩⟩,fun s hs=>h.sub s ((hf s).1 hs).1,fun j m hj hm hjm=>?_⟩
 rw [z2H h.mild _ hi' hk']
 split
 · rfl
 · rename_i hne
   exact h.fix j m hj hm (by
    rcases hjm with hjm | ⟨e1,e2⟩
    · exact .inl hjm
    · refine .inr ⟨e1,?_⟩
      have:¬ m=k:=fun e3=>hne ⟨e1,e3⟩
      omega)
theorem z3z {m:Nat} {T:List AVal} {H:Heap} {df:List (Nat × List AVal)} {ro:Nat} {V:List Nat} (h:H.length≤m):trunc m ⟨T,H,df,ro,V⟩=⟨T,H,df,ro,V⟩:=by
 unfold trunc
 rw [if_pos h]
theorem z61 (n:Nat) (f:Nat→Int):intsV (n+1) f=intsV n f++[.int .i64 (f n)]:=by simp [intsV,vecA,List.range_succ]
theorem zHE (l:List AVal) (a b:AVal) {n:Nat} (h:l.length=n):(l++[a]).set n b=l++[b]:=by
 subst h
 rw [List.set_append_right _ _ (Nat.le_refl _),Nat.sub_self];rfl
def flA (C' B n:Nat):List AVal:=vecA n fun j=>.ref (B+2+j) C' 0 (C'+1) false
def lowN (t:Tab) (j m:Nat):Int:=(t.cell j m).lo
structure FlAt (T:TabV) (H:Heap) (B C' g:Nat) (ps:Nat→Nat) (t:Tab) (i:Nat):Prop where
 own:H[0]?=some (.cells 0 3 false [T.v])
 tab:TbAt H 3 4 5 1 1 g ps t
 box:H[B]?=some (.cells 0 3 false [memT T.tab 3 4 5 1 1 g])
 row:∀ j,j < i→H[B+2+j]?=some (.cells C' 1 true (intsV (C'+1) (lowN t j)))
 ps:∀ j,j < T.tab.R→5 < ps j∧ps j < B
def zIl (H:Heap) (B C':Nat) (t:Tab) (i:Nat):Nat→Prop
 | 0=>H[B+1]?=some (.cells (i+1) 1 false (flA C' B i++[.lit true 0 []]))∧H.length=B+2+i
 | k+1=>(H[B+1]?=some (.cells (i+1) 1 false (flA C' B i++[.ref (B+2+i) k 0 (k+1) false]))∧H.length=B+2+i+1)∧H[B+2+i]?=some (.cells k 1 true (intsV (k+1) (lowN t i)))
theorem zMJ {T:TabV} (hT:T.Wf) (hO:T.tab.Mild) {B C' g:Nat} {ps:Nat→Nat} (hC':T.tab.C=C'+1) (hB:5 < B) {i:Nat} (hi:i < T.tab.R):∀ (n k:Nat) (H:Heap) (t:Tab) (j0 j2 j7 j8 j9 j10 j11 j12 j13 j14 j15 j16 j17 j18 j19 j20 j21 j22 j23 j24 j25 j26 j27 j28 j29 j30 j31 j32 j33 j34 j35 j36 j37 j38 j39 j40 j41 j42 j43 j44 j45 j46 j47 j48 j49 j50 j51:AVal),k+n=T.tab.C→FlAt T H B C' g ps t i→zIl H B C' t i k→FillT T.tab t i k →
    Goes (execT env (Try.f140.at [1,1,1,0,1,0,0,1,0,0,1,1,0]) ⟨[j0,.ptr 0 0 0 0,j2,.ptr B 0 0 0,.ref (B+1) (i+1) 0 (i+1) false,.int .i64 i,.int .i64 k,j7,j8,j9,j10,j11,j12,j13,j14,j15,j16,j17,j18,j19,j20,j21,j22,j23,j24,j25,j26,j27,j28,j29,j30,j31,j32,j33,j34,j35,j36,j37,j38,j39,j40,j41,j42,j43,j44,j45,j46,j47,j48,j49,j50,j51],H,[],0,[4]⟩) fun ex st=>
     ex=.exit 2∧∃ (H:Heap) (t:Tab),(FlAt T H B C' g ps t i∧zIl H B C' t i T.tab.C∧FillT T.tab t i T.tab.C)∧FrP 52 [(1,.ptr 0 0 0 0),(3,.ptr B 0 0 0),(4,.ref (B+1) (i+1) 0 (i+1) false),(5,.int .i64 i)] H [] 0 [4] st:=by
 have hR8:=hO.R8
 have hC8:=hO.C8
 have lc:(T.cols.l.map spV).length=T.tab.C:=by rw [List.length_map];rfl
 intro n
 induction n with
 | zero=>
   intro k H t;intros;rename_i hk hA hU hF
   have hd:decide ((k:Int) < (T.tab.C:Int))=false:=by simp;omega
   have h0:=hA.own
   have hk':k=T.tab.C:=by omega
   subst hk'
   simp only [go_sem,simprocAttr,Try.f140]
   rw [exec_loop]
   simp only [go_sem,simprocAttr,h0,lc,hd]
   exact ⟨H,t,⟨hA,hU,hF⟩,frP (by kernel_rfl)⟩
 | succ n ih=>
   intro k H t;intros;rename_i hk hA hU hF
   have hkC:k < T.tab.C:=by omega
   have hd:decide ((k:Int) < (T.tab.C:Int))=true:=by simp;omega
   have k0:(0:Int)≤(k:Int):=by omega
   have i0:(0:Int)≤(i:Int):=by omega
   have dR:decide ((i:Int) < (T.tab.R:Int))=true:=by simp;omega
   have di:decide ((i:Int) < ((i+1:Nat):Int))=true:=by simp;omega
   have h0:=hA.own
   have hBx:=hA.box
   have hps:=hA.ps i hi
   have tR:=hF.R
   have tC:=hF.C
   have hit:i < t.R:=by omega
   have hkt:k < t.C:=by omega
   obtain ⟨v,hv⟩:=zMb hF.can hit hkt
   have hW:=z1G hF.mild.R8 hF.mild.C8 hF.mild.len hF.mild.wid
   obtain ⟨X,hr⟩:=z7M hW (by rw [z0M];exact hF.mild) (r:=i) (c:=k) (by rw [z0M];exact hit) (by rw [z0M];exact hkt) (v:=v) (by rw [z0M];exact hv)
   obtain ⟨ids,hle⟩:=hA.tab.lend (lits:=[0]) hF.mild.R8 hF.mild.len hF.mild.wid rfl (args:=[.int .i64 i,.int .i64 k]) rfl
   obtain ⟨us,mc,hus⟩:=z1z (f:=85) rfl rfl rfl rfl hle (by simp [underL,AVal.under,TabV.under]) hr (handBack_noRef _ _ _ _ _ rfl) rfl H.length
   have hus:=hus rfl
   subst hus
   have em:memT t 3 4 5 1 1 g=.agg [.ref 3 1 0 T.tab.R false,.ref 4 1 0 T.tab.C false,.ref 5 g 0 T.tab.R false]:=by unfold memT;rw [tR,tC]
   rw [em] at mc
   have hacc:=hA.tab.acc
   rw [tR,tC] at hacc
   have hva:(vecA T.tab.R fun i=>AVal.ref (ps i) 0 0 T.tab.C false)[i]?=some (.ref (ps i) 0 0 T.tab.C false):=vecA_get _ hi
   have hrow:=hA.tab.row i hit
   have l4:=hA.tab.lt.2.2.2 i hit
   have z1:(ps i < H.length)=True:=eq_true l4
   have hrl:(rowA t i).length=T.tab.C:=by rw [z0V hF.mild.len hF.mild.wid hit,tC]
   have hget:=z2W hF.mild hit hkt
   have wr:∀ y:Spn,z0J (spV y) 0 (.agg [.int .i64 v,.int .i64 v])=some (spV ⟨v,v⟩):=fun _=>rfl
   have hat:=hA.tab.write (k:=k) hF.mild.len hit ⟨v,v⟩
   have hF':=hF.step hi hkC hv
   have hcell:=fun j m=>z2H hF.mild (⟨v,v⟩:Spn) hit hkt j m
   have hBx:H[B]?=some (.cells 0 3 false [.agg [.ref 3 1 0 T.tab.R false,.ref 4 1 0 T.tab.C false,.ref 5 g 0 T.tab.R false]]):=hBx
   have flen:(flA C' B i).length=i:=z0E _ _
   have iN:Int.toNat (i:Int)=i:=Int.toNat_natCast i
   generalize ht2:t.setCell i k ⟨v,v⟩=t2 at hat hF' hcell
   have low2:∀ j,j ≠ i→∀ m,lowN t2 j m=lowN t j m:=fun j hj m=>by
    unfold lowN
    rw [hcell,if_neg (fun e=>hj e.1)]
   have lowk:lowN t2 i k=v:=by
    unfold lowN
    rw [hcell,if_pos ⟨rfl,rfl⟩]
   have lowm:∀ m,m < k→lowN t2 i m=lowN t i m:=fun m hm=>by
    unfold lowN
    rw [hcell,if_neg (fun e=>by omega)]
   have wi:IntKind.i64.wrap ((k:Int)+1)=((k+1:Nat):Int):=z00 (by omega)
   have hadd:∀ (H2:Heap),(∀ j,j < B+1→H2[j]?=(H.set (ps i) (.cells 0 2 true ((rowA t i).set k (spV ⟨v,v⟩))))[j]?)→(∀ j,j < i→H2[B+2+j]?=H[B+2+j]?)→FlAt T H2 B C' g ps t2 i:=fun H2 h1 h2=>by
    have e1:∀ j,j < B+1→j ≠ ps i→H2[j]?=H[j]?:=fun j hj hne=>by rw [h1 j hj,List.getElem?_set_ne (Ne.symm hne)]
    refine ⟨by rw [e1 0 (by omega) (by omega)];exact hA.own,hat.mono fun j hj=>?_,by rw [e1 B (by omega) (by omega)];exact hA.box,fun j hj=>?_,hA.ps⟩
    · refine h1 j ?_
      rcases hj with rfl | rfl | rfl | ⟨m,hm,rfl⟩
      · omega
      · omega
      · omega
      · have:=hA.ps m (by rw [hF'.R] at hm;exact hm)
        omega
    · rw [h2 j hj,hA.row j hj,z0k fun m _=>(low2 j (by omega) m).symm]
   have ih':=ih (k+1)
   cases k with
   | zero=>
     obtain ⟨hq,hlen⟩:=hU
     rw [hlen] at mc z1
     have hq1:∀ z,(H.set (ps i) z)[B+1]?=some (.cells (i+1) 1 false (flA C' B i++[.lit true 0 []])):=fun z=>by rw [List.getElem?_set_ne (by omega)];exact hq
     have hgi:(flA C' B i++[AVal.lit true 0 []])[i]?=some (.lit true 0 []):=by rw [List.getElem?_append_right (by omega),flen,Nat.sub_self];rfl
     have ap:=fun (H:Heap) (nx:Nat)=>append_lit (E:=env) (ro:=0) (nx:=nx) (sz:=0) (es:=[]) (H:=H) (x:=.lit true 1 [.int .i64 v]) (nsz:=1) (new:=[.int .i64 v]) ti51 ti3 rfl ⟨by decide,rfl,rfl⟩ rfl (by simp) (.inl rfl) (by show (0+1) * 9≤z04;decide) (fun _=>rfl)
     have wr2:z0J (.lit true 0 []) 0 (.ref (B+2+i) 0 0 1 false)=some (.ref (B+2+i) 0 0 1 false):=rfl
     obtain ⟨H2,hH2⟩:∃ H2:Heap,H2=((H.set (ps i) (Blk.cells 0 2 true ((rowA t i).set 0 (spV ⟨v,v⟩))))++[Blk.cells 0 1 true [.int .i64 v]]).set (B+1) (Blk.cells (i+1) 1 false (flA C' B i++[.ref (B+2+i) 0 0 1 false])):=⟨_,rfl⟩
     have hl1:∀ z,(H.set (ps i) z).length=B+2+i:=fun z=>by rw [List.length_set];exact hlen
     have hl2:∀ z y,(H.set (ps i) z++[y]).length=B+2+i+1:=fun z y=>z06 (hl1 z) y
     have hq2:∀ z y,(H.set (ps i) z++[y])[B+1]?=some (.cells (i+1) 1 false (flA C' B i++[.lit true 0 []])):=fun z y=>by rw [List.getElem?_append_left (by rw [hl1];omega)];exact hq1 z
     have hA':FlAt T H2 B C' g ps t2 i:=hadd H2 (fun j hj=>by
      rw [hH2,List.getElem?_set_ne (by omega),List.getElem?_append_left (by rw [hl1];omega)]) (fun j hj=>by
      rw [hH2,List.getElem?_set_ne (by omega),List.getElem?_append_left (by rw [hl1];omega),List.getElem?_set_ne (by omega)])
     have h2q:H2[B+1]?=some (.cells (i+1) 1 false (flA C' B i++[.ref (B+2+i) 0 0 (0+1) false])):=by
      rw [hH2,List.getElem?_set_self (by rw [hl2];omega)]
     have hU':zIl H2 B C' t2 i (0+1):=by
      refine ⟨⟨h2q,?_⟩,?_⟩
      · rw [hH2,List.length_set,hl2]
      · rw [hH2,List.getElem?_set_ne (by omega),z07 (hl1 _),← lowk];rfl
     have htr:∀ Tm V,trunc (B+2+i) ⟨Tm,H2,[],0,V⟩=⟨Tm,H2,[],0,V⟩:=fun _ _=>z2k (i:=B+1) (by omega) h2q (List.mem_append_right _ (List.mem_singleton.2 rfl)) (Nat.le_refl _)
     have zB:(B+1 < B+2+i+1)=True:=eq_true (by omega)
     have hsl:∀ b,(flA C' B i++[AVal.lit true 0 []]).set i b=flA C' B i++[b]:=fun b=>zHE _ _ _ flen
     have hln:(flA C' B i++[AVal.lit true 0 []]).length=i+1:=by rw [List.length_append,flen];rfl
     simp only [Int.ofNat_zero,Int.natCast_zero] at mc wi hd k0
     simp only [go_sem,simprocAttr,Try.f140,Int.ofNat_zero,Int.natCast_zero] at ih' ⊢
     rw [exec_loop]
     simp only [go_sem,simprocAttr,h0,lc,hd,k0,i0,dR,di,iN,Int.toNat_zero,hBx,hlen,mc,hacc,hva,hrow,hrl,hget,wr,z1,hkC,hq1,hgi,ap,wr2,hl1,hl2,hq2,hsl,hln,zB,Nat.zero_le,List.length_set]
     rw [← hH2]
     simp only [go_sem,simprocAttr,htr,wi]
     exact ih' _ _ _ _ _ _ _ _ _ _ _ _ _ _ _ _ _ _ _ _ _ _ _ _ _ _ _ _ _ _ _ _ _ _ _ _ _ _ _ _ _ _ _ _ _ _ _ _ _ (by omega) hA' hU' hF'
   | succ k=>
     obtain ⟨⟨hq,hlen⟩,hcr⟩:=hU
     rw [hlen] at mc z1
     have hq1:∀ z,(H.set (ps i) z)[B+1]?=some (.cells (i+1) 1 false (flA C' B i++[.ref (B+2+i) k 0 (k+1) false])):=fun z=>by rw [List.getElem?_set_ne (by omega)];exact hq
     have hc1:∀ z,(H.set (ps i) z)[B+2+i]?=some (.cells k 1 true (intsV (k+1) (lowN t i))):=fun z=>by rw [List.getElem?_set_ne (by omega)];exact hcr
     have hgi:(flA C' B i++[AVal.ref (B+2+i) k 0 (k+1) false])[i]?=some (.ref (B+2+i) k 0 (k+1) false):=by rw [List.getElem?_append_right (by omega),flen,Nat.sub_self];rfl
     have ap:=fun z (nx:Nat)=>append_ref (E:=env) (ro:=0) (nx:=nx) (H:=H.set (ps i) z) (id:=B+2+i) (g:=k) (len:=k+1) (x:=.lit true 1 [.int .i64 v]) (nsz:=1) (new:=[.int .i64 v]) (fl:=true) (bs:=intsV (k+1) (lowN t i)) ti51 ti3 rfl ⟨by decide,rfl,rfl⟩ rfl (by simp) (hc1 z) (z0F _ _) (by omega) (by omega) (by show (k+1+1) * 9≤2 ^ 45;omega) (fun _=>rfl)
     have ei:intsV (k+1) (lowN t i)++[AVal.int .i64 v]=intsV (k+1+1) (lowN t2 i):=by
      rw [z61 (k+1),lowk,z0k fun m hm=>(lowm m hm).symm]
     rw [ei] at ap
     simp only [List.length_singleton] at ap
     have wr2:z0J (.ref (B+2+i) k 0 (k+1) false) 0 (.ref (B+2+i) (k+1) 0 (k+1+1) false)=some (.ref (B+2+i) (k+1) 0 (k+1+1) false):=rfl
     obtain ⟨H2,hH2⟩:∃ H2:Heap,H2=((H.set (ps i) (Blk.cells 0 2 true ((rowA t i).set (k+1) (spV ⟨v,v⟩)))).set (B+2+i) (Blk.cells (k+1) 1 true (intsV (k+1+1) (lowN t2 i)))).set (B+1) (Blk.cells (i+1) 1 false (flA C' B i++[.ref (B+2+i) (k+1) 0 (k+1+1) false])):=⟨_,rfl⟩
     have hl1:∀ z,(H.set (ps i) z).length=B+2+i+1:=fun z=>by rw [List.length_set];exact hlen
     have hq2:∀ z y,((H.set (ps i) z).set (B+2+i) y)[B+1]?=some (.cells (i+1) 1 false (flA C' B i++[.ref (B+2+i) k 0 (k+1) false])):=fun z y=>by rw [List.getElem?_set_ne (by omega)];exact hq1 z
     have hA':FlAt T H2 B C' g ps t2 i:=hadd H2 (fun j hj=>by
      rw [hH2,List.getElem?_set_ne (by omega),List.getElem?_set_ne (by omega)]) (fun j hj=>by
      rw [hH2,List.getElem?_set_ne (by omega),List.getElem?_set_ne (by omega),List.getElem?_set_ne (by omega)])
     have h2q:H2[B+1]?=some (.cells (i+1) 1 false (flA C' B i++[.ref (B+2+i) (k+1) 0 (k+1+1) false])):=by
      rw [hH2,List.getElem?_set_self (by rw [List.length_set,hl1];omega)]
     have hl2:H2.length=B+2+i+1:=by rw [hH2,List.length_set,List.length_set,hl1]
     have hU':zIl H2 B C' t2 i (k+1+1):=by
      refine ⟨⟨h2q,hl2⟩,?_⟩
      rw [hH2,List.getElem?_set_ne (by omega),List.getElem?_set_self (by rw [hl1];omega)]
     have htr:∀ Tm V,trunc (B+2+i+1) ⟨Tm,H2,[],0,V⟩=⟨Tm,H2,[],0,V⟩:=fun _ _=>z3z (by rw [hl2];exact Nat.le_refl _)
     have zB:(B+1 < B+2+i+1)=True:=eq_true (by omega)
     have zR:(B+2+i < B+2+i+1)=True:=eq_true (by omega)
     have hsl:∀ b,(flA C' B i++[AVal.ref (B+2+i) k 0 (k+1) false]).set i b=flA C' B i++[b]:=fun b=>zHE _ _ _ flen
     have hln:(flA C' B i++[AVal.ref (B+2+i) k 0 (k+1) false]).length=i+1:=by rw [List.length_append,flen];rfl
     have kN:Int.toNat ((k+1:Nat):Int)=k+1:=Int.toNat_natCast _
     simp only [go_sem,simprocAttr,Try.f140] at ih' ⊢
     rw [exec_loop]
     simp only [go_sem,simprocAttr,h0,lc,hd,k0,i0,dR,di,iN,kN,hBx,hlen,mc,hacc,hva,hrow,hrl,hget,wr,z1,hkC,hq1,hgi,ap,wr2,hl1,hq2,hsl,hln,zB,zR,Nat.zero_le,List.length_set]
     rw [← hH2]
     simp only [go_sem,simprocAttr,htr,wi]
     exact ih' _ _ _ _ _ _ _ _ _ _ _ _ _ _ _ _ _ _ _ _ _ _ _ _ _ _ _ _ _ _ _ _ _ _ _ _ _ _ _ _ _ _ _ _ _ _ _ _ _ (by omega) hA' hU' hF'
end Go.Proofs.Ytgfejpngfikjiaa.Tidy
