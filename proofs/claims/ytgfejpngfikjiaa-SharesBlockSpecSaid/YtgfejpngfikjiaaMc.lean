/-
 The tidy machine: calls,deferred calls and whole runs are the model’s;laws for rewriting;arguments read.
-/
import Derived.Test.YtgfejpngfikjiaaMb
import Derived.Recover
import Derived.DeepKeys3
import Derived.ChangeKeysEq
import Derived.WideShapes
import Derived.ChangeArms
import Derived.Below
set_option linter.all false
namespace Go.Proofs.Ytgfejpngfikjiaa.Tidy
open Go
section
variable {E:Env} {P:Program} {w w':World} {X:Nat→Prop} {B B1:BMap} {H H':Heap}
def z7W (keep:List Nat) (nx id:Nat):Option Nat:=if nx≤id then keep[id - nx]? else none
def z2n (B B1:BMap) (fp keep lent:List Nat) (nx:Nat) (dd:Bool):BMap:=fun id=>match idx fp id with
 | some j=>B1 j
 | none=>match z7W keep nx id with
   | some m=>B1 m
   | none=>if dd && lent.contains id then (B id).map fun e=>{ e with st:=.dead } else B id
structure Made (B B1:BMap) (X:Nat→Prop) (w w':World) (H H':Heap) (fp keep lent:List Nat) (nx ro rof:Nat) (dd:Bool):Prop where
 old:HRel B X w H
 new:HRel B1 (z8E X B fp lent) w' H'
 evo:Evo rof (mapF B fp) (z8E X B fp lent) w B1 w'
 nodup:fp.Nodup
 live:∀ id ∈ fp,Live H id
 knodup:keep.Nodup
 kge:∀ m ∈ keep,fp.length≤m
 apart:∀ id ∈ lent,id ∉ fp
 lentB:∀ id ∈ lent,∃ e,B id=some e
 free:∀ j,j < keep.length→B (nx+j)=none
 own:rof=fp.length ∨ ∀ id ∈ fp,ro≤id
 dead:dd=true→∀ id ∈ lent,ro≤id
variable {fp keep lent:List Nat} {nx ro rof:Nat} {dd:Bool}
theorem Made.fp_some (h:Made B B1 X w w' H H' fp keep lent nx ro rof dd) {id:Nat} (hid:id ∈ fp):∃ e,B id=some e:=by
 rcases h.live id hid with ⟨_,_,_,_,h1⟩ | ⟨_,h1⟩
 · rcases h.old.blk id _ h1 with ⟨h2,_⟩ | ⟨e,h2,_⟩
   · cases h2
   · exact ⟨e,h2⟩
 · rcases h.old.blk id _ h1 with ⟨h2,_⟩ | ⟨e,h2,_⟩
   · cases h2
   · exact ⟨e,h2⟩
theorem z8P {id m:Nat} (h:z7W keep nx id=some m):∃ j,id=nx+j∧keep[j]?=some m:=by
 unfold z7W at h
 split at h
 · exact ⟨id - nx,by omega,h⟩
 · cases h
theorem Made.new_none (h:Made B B1 X w w' H H' fp keep lent nx ro rof dd) {id m:Nat} (hm:z7W keep nx id=some m):B id=none:=by
 obtain ⟨j,rfl,hj⟩:=z8P hm
 exact h.free j (List.getElem?_eq_some_iff.1 hj).1
theorem Made.new_fp (h:Made B B1 X w w' H H' fp keep lent nx ro rof dd) {id m:Nat} (hm:z7W keep nx id=some m):idx fp id=none:=by
 cases hi:idx fp id with
 | none=>rfl
 | some j=>
   have:=List.mem_of_getElem? (z2v hi)
   obtain ⟨e,he⟩:=h.fp_some this
   rw [h.new_none hm] at he;cases he
theorem Made.cases (h:Made B B1 X w w' H H' fp keep lent nx ro rof dd) {id:Nat} {e:Ent} (he:z2n B B1 fp keep lent nx dd id=some e):
    (∃ j,fp[j]?=some id∧B1 j=some e) ∨ (∃ j m,id=nx+j∧keep[j]?=some m∧B1 m=some e) ∨ (id ∉ fp∧dd=true∧id ∈ lent∧e.st=.dead) ∨ (id ∉ fp∧B id=some e∧(dd=true→id ∉ lent)):=by
 unfold z2n at he
 split at he
 · rename_i j hj
   exact .inl ⟨j,z2v hj,he⟩
 · rename_i hi
   have hnot:id ∉ fp:=fun hm=>by obtain ⟨j,hj⟩:=z9r hm;rw [hi] at hj;cases hj
   split at he
   · rename_i m hm
     obtain ⟨j,h1,h2⟩:=z8P hm
     exact .inr (.inl ⟨j,m,h1,h2,he⟩)
   · split at he
     · rename_i hd
       simp only [Bool.and_eq_true,List.contains_iff_mem] at hd
       simp only [Option.map_eq_some_iff] at he
       obtain ⟨e0,_,rfl⟩:=he
       exact .inr (.inr (.inl ⟨hnot,hd.1,hd.2,rfl⟩))
     · rename_i hd
       simp only [Bool.and_eq_true,List.contains_iff_mem,not_and] at hd
       exact .inr (.inr (.inr ⟨hnot,he,hd⟩))
theorem Made.mem (h:Made B B1 X w w' H H' fp keep lent nx ro rof dd) {id:Nat} {e:Ent} {r s t:Nat} (he:z2n B B1 fp keep lent nx dd id=some e) (hst:e.st=.real r s t):
    (∃ m,B1 m=some e∧((∃ j,fp[j]?=some id∧m=j) ∨ ∃ j,id=nx+j∧keep[j]?=some m)) ∨ (B id=some e∧id ∉ fp∧(dd=true→id ∉ lent)):=by
 rcases h.cases he with ⟨j,h1,h2⟩ | ⟨j,m,h1,h2,h3⟩ | ⟨_,_,_,h4⟩ | ⟨h1,h2,h3⟩
 · exact .inl ⟨j,h2,.inl ⟨j,h1,rfl⟩⟩
 · exact .inl ⟨m,h3,.inr ⟨j,h1,h2⟩⟩
 · rw [h4] at hst;cases hst
 · exact .inr ⟨h2,h1,h3⟩
theorem Made.far (h:Made B B1 X w w' H H' fp keep lent nx ro rof dd) {id m:Nat} {e e1:Ent} {r s t s1 t1:Nat} (he:B id=some e) (hst:e.st=.real r s t) (hid:id ∉ fp) (h1:B1 m=some e1) (hst1:e1.st=.real r s1 t1):False:=by
 obtain ⟨q1,q2⟩:=h.old.lt _ _ _ _ _ he hst
 obtain ⟨q3,q4⟩:=h.new.lt _ _ _ _ _ h1 hst1
 by_cases hl:id ∈ lent
 · refine h.evo.lasts.out r q1 ?_ (.inr ⟨m,e1,s1,t1,h1,hst1⟩)
   rintro (hx | ⟨j,e2,s2,t2,k1,k2⟩)
   · rcases hx with hx | ⟨id',e',s',t',c1,c2,c3,c4⟩
     · exact q2 hx
     · have:=h.old.inj _ _ _ _ _ _ _ _ _ he c1 hst c2
       subst this;exact c4 hl
   · obtain ⟨id',k3,k4⟩:=z3L k1
     have:=h.old.inj _ _ _ _ _ _ _ _ _ he k4 hst k2
     subst this;exact hid (List.mem_of_getElem? k3)
 · exact q4 (.inr ⟨id,e,s,t,he,hst,hid,hl⟩)
theorem Made.kept (h:Made B B1 X w w' H H' fp keep lent nx ro rof dd) {id:Nat} {e:Ent} {r s t:Nat} (he:B id=some e) (hst:e.st=.real r s t) (hid:id ∉ fp):w'.heap[r]?=w.heap[r]?:=by
 obtain ⟨q1,q2⟩:=h.old.lt _ _ _ _ _ he hst
 by_cases hl:id ∈ lent
 · refine h.evo.lasts.same r q1 ?_
   rintro (hx | ⟨j,e2,s2,t2,k1,k2⟩)
   · rcases hx with hx | ⟨id',e',s',t',c1,c2,c3,c4⟩
     · exact q2 hx
     · have:=h.old.inj _ _ _ _ _ _ _ _ _ he c1 hst c2
       subst this;exact c4 hl
   · obtain ⟨id',k3,k4⟩:=z3L k1
     have:=h.old.inj _ _ _ _ _ _ _ _ _ he k4 hst k2
     subst this;exact hid (List.mem_of_getElem? k3)
 · exact h.evo.fix r (.inr ⟨id,e,s,t,he,hst,hid,hl⟩)
theorem Made.at_fp (h:Made B B1 X w w' H H' fp keep lent nx ro rof dd) {id j:Nat} (hj:fp[j]?=some id):z2n B B1 fp keep lent nx dd id=B1 j:=by
 unfold z2n
 rw [z9q h.nodup hj]
theorem Made.at_old (h:Made B B1 X w w' H H' fp keep lent nx ro rof dd) {id:Nat} {e:Ent} (he:B id=some e) (hid:id ∉ fp):z2n B B1 fp keep lent nx dd id=if dd && lent.contains id then some { e with st:=.dead } else some e:=by
 unfold z2n
 have h1:idx fp id=none:=by
  cases hi:idx fp id with
  | none=>rfl
  | some j=>exact absurd (List.mem_of_getElem? (z2v hi)) hid
 have h2:z7W keep nx id=none:=by
  cases hm:z7W keep nx id with
  | none=>rfl
  | some m=>have:=h.new_none hm;rw [he] at this;cases this
 rw [h1,h2,he]
 rfl
theorem Made.at_new (h:Made B B1 X w w' H H' fp keep lent nx ro rof dd) {j m:Nat} (hj:keep[j]?=some m):z2n B B1 fp keep lent nx dd (nx+j)=B1 m:=by
 have hm:z7W keep nx (nx+j)=some m:=by unfold z7W;rw [if_pos (by omega),Nat.add_sub_cancel_left,hj]
 unfold z2n
 rw [h.new_fp hm,hm]
theorem Made.evolve (h:Made B B1 X w w' H H' fp keep lent nx ro rof dd):Evo ro B X w (z2n B B1 fp keep lent nx dd) w':=by
 refine ⟨⟨h.evo.lasts.size,fun r hr hy=>h.evo.lasts.same r hr fun h'=>hy (zJ3 h'),fun r hr hy hy'=>?_⟩,fun id e he=>?_,h.evo.os,fun id e hid he=>?_,fun r hx=>h.evo.fix r (.inl hx)⟩
 · rcases hy' with hx | ⟨id,e,s,t,h1,h2⟩
   · exact hy (.inl hx)
   · rcases h.mem h1 h2 with ⟨m,k1,_⟩ | ⟨k1,_,_⟩
     · exact h.evo.lasts.out r hr (fun h'=>hy (zJ3 h')) (.inr ⟨m,e,s,t,k1,h2⟩)
     · exact hy (.inr ⟨id,e,s,t,k1,h2⟩)
 · by_cases hm:id ∈ fp
   · obtain ⟨j,hj⟩:=z9r hm
     obtain ⟨e',k1,k2⟩:=h.evo.ble j e (by rw [z6m (z2v hj),he])
     exact ⟨e',by rw [h.at_fp (z2v hj),k1],k2⟩
   · rw [h.at_old he hm]
     split
     · exact ⟨_,rfl,Nat.le_refl _,fun _=>⟨rfl,.inr rfl⟩⟩
     · exact ⟨e,rfl,.refl _⟩
 · by_cases hm:id ∈ fp
   · obtain ⟨j,hj⟩:=z9r hm
     have hj':=z2v hj
     rcases h.own with ho | ho
     · have hlt:j < rof:=by rw [ho];exact (List.getElem?_eq_some_iff.1 hj').1
       obtain ⟨k1,k2⟩:=h.evo.ro j e hlt (by rw [z6m hj',he])
       exact ⟨by rw [h.at_fp hj',k1],k2⟩
     · have:=ho id hm;omega
   · rw [h.at_old he hm]
     split
     · rename_i hd
       simp only [Bool.and_eq_true,List.contains_iff_mem] at hd
       have:=h.dead hd.1 id hd.2;omega
     · exact ⟨rfl,fun r s t hst=>h.kept he hst hm⟩
theorem Made.lasts2 (h:Made B B1 X w w' H H' fp keep lent nx ro rof dd) (hd:dd=true ∨ lent=[]):Lasts (avoid (z8E X B fp lent) B1) w' (avoid X (z2n B B1 fp keep lent nx dd)) w':=by
 refine ⟨Nat.le_refl _,fun _ _ _=>rfl,fun r _ hy hy'=>hy ?_⟩
 rcases hy' with hx | ⟨id,e,s,t,h1,h2⟩
 · exact .inl (.inl hx)
 · rcases h.mem h1 h2 with ⟨m,k1,_⟩ | ⟨k1,k2,k3⟩
   · exact .inr ⟨m,e,s,t,k1,h2⟩
   · refine .inl (.inr ⟨id,e,s,t,k1,h2,k2,?_⟩)
     rcases hd with hd | hd
     · exact k3 hd
     · rw [hd];simp
def backN (fp keep:List Nat) (nx:Nat) (id:Nat):Option Nat:=if id < fp.length then fp[id]? else (idx keep id).map (nx+·)
theorem Made.backed (h:Made B B1 X w w' H H' fp keep lent nx ro rof dd):∀ id j e,backN fp keep nx id=some j→B1 id=some e→z2n B B1 fp keep lent nx dd j=some e:=by
 intro id j e hj he
 unfold Tidy.backN at hj
 split at hj
 · rw [h.at_fp hj,he]
 · simp only [Option.map_eq_some_iff] at hj
   obtain ⟨m,hm,rfl⟩:=hj
   rw [h.at_new (z2v hm),he]
end
section
variable {E:Env} {P:Program} {w w':World} {X:Nat→Prop} {B B1:BMap} {H H' H2:Heap}
variable {fp keep lent:List Nat} {nx ro rof:Nat} {dd:Bool}
theorem zFT {es:List AVal} (h:z2S es=true):z2S (flatC es)=true:=by
 have app2:∀ a b:List AVal,z2S (a++b)=(z2S a && z2S b):=by
  intro a b
  induction a with
  | nil=>rfl
  | cons x a ih=>simp [z2S,ih,Bool.and_assoc]
 induction es with
 | nil=>rfl
 | cons e es ih=>
   simp only [z2S,Bool.and_eq_true] at h
   simp only [flatC,app2,Bool.and_eq_true]
   refine ⟨?_,ih h.2⟩
   cases e <;> simp_all [AVal.cellsOf,z2S,AVal.noLit]
theorem BOk.noLit {Y Y':Nat→Prop} {b:Blk} {e:Ent} (hb:litFree b=true) (h:BOk Y w B b e):BOk Y' w B b e:=by
 unfold BOk at h ⊢
 split at h
 · rename_i g sz fl es r sh tot hst
   obtain ⟨q1,q2,q3,q4,q5,c,T,q6,q7,q8⟩:=h
   exact ⟨q1,q2,q3,q4,q5,c,T,q6,q7,z6B.2 _ _ (zFT (by simpa [litFree] using hb)) q8⟩
 · exact h
 · rename_i m r s t hst
   obtain ⟨q1,me,cl,q2,q3⟩:=h
   refine ⟨q1,me,cl,q2,?_⟩
   have hb:m.all (fun p=>p.1.noLit && p.2.noLit)=true:=by simpa [litFree] using hb
   generalize me.toList=es at q3
   clear q2 hst
   induction m generalizing es with
   | nil=>cases es <;> simp_all [MRel]
   | cons x m ih=>
     obtain ⟨k,v⟩:=x
     cases es with
     | nil=>simp [MRel] at q3
     | cons e es=>
       simp only [List.all_cons,Bool.and_eq_true] at hb
       obtain ⟨z1,z2,z3⟩:=q3
       exact ⟨z6B.1 _ _ hb.1.1 z1,z6B.1 _ _ hb.1.2 z2,ih (by simpa [litFree] using hb.2) hb.2 _ z3⟩
 · trivial
 · exact h.elim
theorem Made.block (h:Made B B1 X w w' H H' fp keep lent nx ro rof dd) {m:Nat} {b:Blk} (hb:H'[m]?=some b) (hl:(dd=true ∨ lent=[]) ∨ litFree b=true):
    (b=.free∧B1 m=none) ∨ ∃ e,B1 m=some e∧BOk (avoid X (z2n B B1 fp keep lent nx dd)) w' (z2n B B1 fp keep lent nx dd) (renB (backN fp keep nx) b) e:=by
 rcases h.new.blk m b hb with h1 | ⟨e,h1,h2⟩
 · exact .inl h1
 · refine .inr ⟨e,h1,?_⟩
   rcases hl with hl | hl
   · exact h2.ren (h.lasts2 hl) h.backed
   · exact (BOk.noLit (Y':=avoid X (z2n B B1 fp keep lent nx dd)) hl h2).ren (.refl _ _) h.backed
structure Laid (H H' H2:Heap) (B:BMap) (fp keep lent:List Nat) (nx rof:Nat) (dd:Bool):Prop where
 foot:∀ (j id:Nat),fp[j]?=some id→(rof=fp.length∧H2[id]?=H[id]?) ∨ ∃ b,H'[j]?=some b∧H2[id]?=some (renB (backN fp keep nx) b)
 kept:∀ (j m:Nat),keep[j]?=some m→∃ b,H'[m]?=some b∧H2[nx+j]?=some (renB (backN fp keep nx) b)
 lentD:dd=true→∀ id ∈ lent,H2[id]?=some .dead
 rest:∀ id,id ∉ fp→z7W keep nx id=none→(dd=true→id ∉ lent)→H2[id]?=H[id]? ∨ (B id=none∧(H2[id]?=some .free ∨ H2[id]?=none))
theorem Made.back (h:Made B B1 X w w' H H' fp keep lent nx ro rof dd) (hl:Laid H H' H2 B fp keep lent nx rof dd)
    (hlit:(dd=true ∨ lent=[]) ∨ ((∀ m ∈ keep,∀ b,H'[m]?=some b→litFree b=true)∧(rof=fp.length ∨ ∀ j b,j < fp.length→H'[j]?=some b→litFree b=true))) (hro:rof=fp.length→∀ id ∈ fp,H2[id]?=H[id]?) (hro':rof ≠ fp.length→∀ (j id:Nat),fp[j]?=some id→∃ b,H'[j]?=some b∧H2[id]?=some (renB (backN fp keep nx) b)):
    HRel (z2n B B1 fp keep lent nx dd) X w' H2:=by
 have hev:=h.evolve
 -- a footprint block that the callee could not write
 have same:rof=fp.length→∀ (j id:Nat),fp[j]?=some id→z2n B B1 fp keep lent nx dd id=B id:=by
  intro hr j id hj
  have hm:=List.mem_of_getElem? hj
  obtain ⟨e,he⟩:=h.fp_some hm
  have hlt:j < rof:=by rw [hr];exact (List.getElem?_eq_some_iff.1 hj).1
  obtain ⟨k1,_⟩:=h.evo.ro j e hlt (by rw [z6m hj,he])
  rw [h.at_fp hj,k1,he]
 have dom:∀ id e,z2n B B1 fp keep lent nx dd id=some e→id < H2.length:=by
  intro id e he
  have of_some:∀ b,H2[id]?=some b→id < H2.length:=fun b hb=>(List.getElem?_eq_some_iff.1 hb).1
  rcases h.cases he with ⟨j,h1,h2⟩ | ⟨j,m,rfl,h2,h3⟩ | ⟨h1,h2,h3,_⟩ | ⟨h1,h2,h3⟩
  · rcases hl.foot j id h1 with ⟨_,k⟩ | ⟨b,_,k⟩
    · obtain ⟨e0,he0⟩:=h.fp_some (List.mem_of_getElem? h1)
      have hlt:=h.old.dom id e0 he0
      rw [List.getElem?_eq_getElem hlt] at k
      exact of_some _ k
    · exact of_some _ k
  · obtain ⟨b,_,k⟩:=hl.kept j m h2
    exact of_some _ k
  · exact of_some _ (hl.lentD h2 id h3)
  · have hn:z7W keep nx id=none:=by
      cases hm:z7W keep nx id with
      | none=>rfl
      | some m=>have:=h.new_none hm;rw [h2] at this;cases this
    rcases hl.rest id h1 hn h3 with k | ⟨k,_⟩
    · have hlt:=h.old.dom id e h2
      rw [List.getElem?_eq_getElem hlt] at k
      exact of_some _ k
    · rw [h2] at k;cases k
 refine ⟨dom,?_,?_,?_,?_⟩
 · intro id id' e e' r s t s' t' h1 h2 h3 h4
   rcases h.mem h1 h3 with ⟨m,k1,k2⟩ | ⟨k1,k2,k3⟩
   · rcases h.mem h2 h4 with ⟨m',j1,j2⟩ | ⟨j1,j2,j3⟩
     · have hmm:=h.new.inj _ _ _ _ _ _ _ _ _ k1 j1 h3 h4
       subst hmm
       rcases k2 with ⟨j,a1,a2⟩ | ⟨j,a1,a2⟩
       · rcases j2 with ⟨i,b1,b2⟩ | ⟨i,b1,b2⟩
         · subst a2;subst b2
           rw [a1] at b1;exact Option.some.inj b1
         · exfalso
           have:=h.kge m (List.mem_of_getElem? b2)
           have:=(List.getElem?_eq_some_iff.1 a1).1
           omega
       · rcases j2 with ⟨i,b1,b2⟩ | ⟨i,b1,b2⟩
         · exfalso
           have:=h.kge m (List.mem_of_getElem? a2)
           have:=(List.getElem?_eq_some_iff.1 b1).1
           omega
         · have k5:=z9q h.knodup a2
           have k6:=z9q h.knodup b2
           rw [k5] at k6
           rw [a1,b1,Option.some.inj k6]
     · exact (h.far j1 h4 j2 k1 h3).elim
   · rcases h.mem h2 h4 with ⟨m',j1,j2⟩ | ⟨j1,j2,j3⟩
     · exact (h.far k1 h3 k2 j1 h4).elim
     · exact h.old.inj _ _ _ _ _ _ _ _ _ k1 j1 h3 h4
 · intro id e r s t h1 h2
   rcases h.mem h1 h2 with ⟨m,k1,_⟩ | ⟨k1,_,_⟩
   · obtain ⟨q1,q2⟩:=h.new.lt _ _ _ _ _ k1 h2
     exact ⟨q1,fun hx=>q2 (.inl hx)⟩
   · obtain ⟨q1,q2⟩:=h.old.lt _ _ _ _ _ k1 h2
     exact ⟨Nat.lt_of_lt_of_le q1 h.evo.lasts.size,q2⟩
 · intro r hx
   exact Nat.lt_of_lt_of_le (h.old.xlt r hx) h.evo.lasts.size
 · intro id b hb
   -- a block that stays as it was
   have stays:z2n B B1 fp keep lent nx dd id=B id→(∀ e r s t,B id=some e→e.st=.real r s t→w'.heap[r]?=w.heap[r]?)→H[id]?=some b→(b=.free∧z2n B B1 fp keep lent nx dd id=none) ∨ ∃ e,z2n B B1 fp keep lent nx dd id=some e∧BOk (avoid X (z2n B B1 fp keep lent nx dd)) w' (z2n B B1 fp keep lent nx dd) b e:=by
    intro he hm hb0
    rcases h.old.blk id b hb0 with ⟨k1,k2⟩ | ⟨e,k1,k2⟩
    · exact .inl ⟨k1,by rw [he,k2]⟩
    · exact .inr ⟨e,by rw [he,k1],k2.last hev.lasts hev.ble fun r s t hst=>hm e r s t k1 hst⟩
   by_cases hfp:id ∈ fp
   · obtain ⟨j,hj⟩:=z9r hfp
     have hj:=z2v hj
     by_cases hr:rof=fp.length
     · have hH:=hro hr id hfp
       rw [hb] at hH
       refine stays (same hr j id hj) (fun e r s t he hst=>?_) hH.symm
       have hlt:j < rof:=by rw [hr];exact (List.getElem?_eq_some_iff.1 hj).1
       exact (h.evo.ro j e hlt (by rw [z6m hj,he])).2 r s t hst
     · obtain ⟨b0,k1,k2⟩:=hro' hr j id hj
       rw [hb] at k2;cases k2
       have hlf:(dd=true ∨ lent=[]) ∨ litFree b0=true:=hlit.imp_right fun ⟨_,h2⟩=>h2.elim (fun h=>absurd h hr) (fun h2=>h2 j b0 (List.getElem?_eq_some_iff.1 hj).1 k1)
       rcases h.block k1 hlf with ⟨rfl,k3⟩ | ⟨e,k3,k4⟩
       · exact .inl ⟨rfl,by rw [h.at_fp hj,k3]⟩
       · exact .inr ⟨e,by rw [h.at_fp hj,k3],k4⟩
   · cases hn:z7W keep nx id with
     | some m=>
       obtain ⟨j,rfl,hj⟩:=z8P hn
       obtain ⟨b0,k1,k2⟩:=hl.kept j m hj
       rw [hb] at k2;cases k2
       have hlf:(dd=true ∨ lent=[]) ∨ litFree b0=true:=hlit.imp_right fun ⟨h1,_⟩=>h1 m (List.mem_of_getElem? hj) b0 k1
       rcases h.block k1 hlf with ⟨rfl,k3⟩ | ⟨e,k3,k4⟩
       · exact .inl ⟨rfl,by rw [h.at_new hj,k3]⟩
       · exact .inr ⟨e,by rw [h.at_new hj,k3],k4⟩
     | none=>
       by_cases hd:dd=true∧id ∈ lent
       · have:=hl.lentD hd.1 id hd.2
         rw [hb] at this;cases this
         cases hB:B id with
         | none=>
           obtain ⟨e,he⟩:=h.lentB id hd.2
           rw [hB] at he;cases he
         | some e=>
           refine .inr ⟨{ e with st:=.dead },?_,by simp [BOk]⟩
           rw [h.at_old hB hfp,if_pos (by simp [hd.1,hd.2])]
       · have hd:dd=true→id ∉ lent:=fun h1 h2=>hd ⟨h1,h2⟩
         have hB2:z2n B B1 fp keep lent nx dd id=B id:=by
          unfold z2n
          have h1:idx fp id=none:=by
           cases hi:idx fp id with
           | none=>rfl
           | some j=>exact absurd (List.mem_of_getElem? (z2v hi)) hfp
          rw [h1,hn]
          simp only
          rw [if_neg (by simp only [Bool.and_eq_true,List.contains_iff_mem,not_and];exact hd)]
         rcases hl.rest id hfp hn hd with k | ⟨k1,k2⟩
         · rw [hb] at k
           exact stays hB2 (fun e r s t he hst=>h.kept he hst hfp) k.symm
         · rcases k2 with k2 | k2
           · rw [hb] at k2;cases k2
             exact .inl ⟨rfl,by rw [hB2,k1]⟩
           · rw [hb] at k2;cases k2
end
section
variable {E:Env} {P:Program} {w w':World} {X:Nat→Prop} {B B1:BMap} {H H' H2:Heap}
variable {fp keep lent:List Nat} {nx ro rof:Nat} {dd:Bool}
theorem z8J (hH:HRel B X w H) {Y':Nat→Prop} (hL:Lasts (avoid X B) w Y' w) (hY:∀ id e r s t,id ∈ lent→B id=some e→e.st=.real r s t→¬ Y' r) {lits:List Nat}:
    ∀ (vs:List AVal) (i:Nat) (ws:List AVal) (ids:List Nat) (xs:List Value),lend H lits vs i=some (ws,ids)→(∀ id ∈ ids,id ∈ lent)→VRelL (avoid X B) w B vs xs→VRelL Y' w B ws xs∧∀ id ∈ ids,Live H id
 | [],_,ws,ids,xs,h,_,hv=>by
   simp only [lend,Option.some.injEq,Prod.mk.injEq] at h
   obtain ⟨rfl,rfl⟩:=h
   rw [z08] at hv;subst hv
   exact ⟨z0N,by simp⟩
 | v :: vs,i,ws,ids,xs,h,hi,hv=>by
   obtain ⟨x,xs',rfl,h1,h2⟩:=z05.1 hv
   simp only [lend] at h
   split at h
   · cases h
   · rename_i ws' ids' hr
     split at h
     · split at h
       · rename_i u l g1 g2
         cases h
         obtain ⟨k1,k2⟩:=z8J hH hL hY vs (i+1) ws' ids' xs' hr (fun id hid=>hi id (by simp [hid])) h2
         obtain ⟨r1,r2,r3,r4,_⟩:=z4d fuel0 v.refs [] l g2 (by simp) (by simp) (by simp)
         refine ⟨z0D.2 ⟨?_,k1⟩,fun id hid=>?_⟩
         · exact z6v (S:=fun id=>id ∈ l) hH (fun id hid g sz es he j hj hl _=>r3 id hid g sz es he j hj hl) (fun id e r s t hid=>hY id e r s t (hi id (by simp [hid]))) hL 8 v u x g1 h1 fun id hid hl _=>r4 id hid hl
         · rcases List.mem_append.1 hid with hid | hid
           · exact r1 id hid
           · exact k2 id hid
       · cases h
     · cases h
       obtain ⟨k1,k2⟩:=z8J hH hL hY vs (i+1) _ _ xs' hr hi h2
       exact ⟨z0D.2 ⟨h1.last hL (.refl _),k1⟩,k2⟩
theorem zDk {k:Nat}:∀ (n:Nat) (v u:AVal),handBack H k keep n v=some u→v.oneC=true→u.oneC=true
 | 0,v,u,h,ho=>by simp only [handBack,Option.some.injEq] at h;subst h;exact ho
 | n+1,v,u,h,ho=>by
   unfold handBack at h
   split at h
   · split at h
     · cases h;rfl
     · exact zAc 8 _ u h rfl
   · simp [AVal.oneC] at ho
   · simp [AVal.oneC] at ho
   · cases h;exact ho
theorem z4F (hH:HRel B X w H) {k:Nat} {Y':Nat→Prop} (hL:Lasts (avoid X B) w Y' w) (hY:∀ id e r s t,k≤id→id ∉ keep→B id=some e→e.st=.real r s t→¬ Y' r):
    ∀ (n:Nat) (v u:AVal) (x:Value),handBack H k keep n v=some u→VRel (avoid X B) w B v x→VRel Y' w B u x
 | 0,v,u,x,h,hv=>by simp only [handBack,Option.some.injEq] at h;subst h;exact hv.last hL (.refl _)
 | n+1,v,u,x,h,hv=>by
   unfold handBack at h
   split at h
   · rename_i id g i len cl
     split at h
     · cases h;exact hv.last hL (.refl _)
     · exact z6v (S:=fun id=>k≤id∧id ∉ keep) hH (fun id _ g sz es _ j _ _ hok=>by simpa using hok) (fun id e r s t ⟨h1,h2⟩=>hY id e r s t h1 h2) hL 8 _ u x h hv fun j _ _ hok=>by simpa using hok
   · rename_i cs
     obtain ⟨m,hm,rfl⟩:=z1u h
     simp only [VRel] at hv ⊢
     obtain ⟨vs,rfl,h1,h2⟩:=hv
     refine ⟨vs,rfl,z7P hm h1 fun y _ u z hu hz=>z4F hH hL hY n y u z hu hz,fun c hc=>?_⟩
     obtain ⟨y,hy,he⟩:=z49 hm c hc
     exact zDk n y c he (h2 y hy)
   · rename_i cs
     obtain ⟨m,hm,rfl⟩:=z1u h
     simp only [VRel] at hv ⊢
     obtain ⟨vs,rfl,h1⟩:=hv
     exact ⟨vs,rfl,z7P hm h1 fun y _ u z hu hz=>z4F hH hL hY n y u z hu hz⟩
   · cases h;exact hv.last hL (.refl _)
end
section
variable {E:Env} {P:Program} {w w':World} {X:Nat→Prop} {B B1:BMap} {H H' H2:Heap}
theorem zIy {β:Type}:∀ {ws:List (Nat × β)} {l:List β} {k:Nat} {b:β},(ws.map (·.1)).Nodup→(k,b) ∈ ws→k < l.length→(app l ws)[k]?=some b
 | [],_,_,_,_,h,_=>by cases h
 | (k',b') :: ws,l,k,b,hn,h,hk=>by
   simp only [List.map_cons,List.nodup_cons] at hn
   simp only [app]
   rcases List.mem_cons.1 h with h | h
   · cases h
     rw [z9L _ _ (fun p hp e=>hn.1 (List.mem_map.2 ⟨p,hp,e⟩)),List.getElem?_set_self hk]
   · exact zIy hn.2 h (by simpa using hk)
theorem zDC {α β:Type}:∀ {l:List α} {m:List β},l.length=m.length→(l.zip m).map (·.1)=l
 | [],m,_=>by simp
 | x :: l,[],h=>by simp at h
 | x :: l,y :: m,h=>by simp [zDC (l:=l) (m:=m) (by simpa using h)]
theorem zQo {α β:Type} {l:List α} {m:List β} {j:Nat} {a:α} {b:β} (h1:l[j]?=some a) (h2:m[j]?=some b):(a,b) ∈ l.zip m:=by
 have:(l.zip m)[j]?=some (a,b):=by rw [List.getElem?_zip_eq_some];exact ⟨h1,h2⟩
 exact List.mem_of_getElem? this
theorem z5c:∀ (l:List Blk) (H:Heap) (nx:Nat),(l=[] ∨ nx=H.length ∨ nx+l.length≤H.length)→(∀ j b,l[j]?=some b→(putU H (numbered nx l))[nx+j]?=some b)∧(∀ id,(id < nx ∨ nx+l.length≤id)→(putU H (numbered nx l))[id]?=H[id]?)
 | [],H,nx,_=>⟨by simp,fun _ _=>rfl⟩
 | x :: l,H,nx,h=>by
   simp only [numbered,putU]
   rcases h with h | rfl | h
   · cases h
   · rw [if_neg (by omega)]
     obtain ⟨k1,k2⟩:=z5c l (H++[x]) (H.length+1) (.inr (.inl (by simp)))
     refine ⟨fun j b hj=>?_,fun id hid=>?_⟩
     · cases j with
       | zero=>
         simp at hj;subst hj
         rw [k2 _ (.inl (by omega))]
         simp
       | succ j=>
         have:=k1 j b (by simpa using hj)
         have e:H.length+(j+1)=H.length+1+j:=by omega
         rw [e];exact this
     · simp only [List.length_cons] at hid
       rw [k2 id (by omega)]
       rcases hid with hid | hid
       · rw [List.getElem?_append_left hid]
       · rw [List.getElem?_eq_none (by simp;omega),List.getElem?_eq_none (by omega)]
   · simp only [List.length_cons] at h
     rw [if_pos (by omega)]
     obtain ⟨k1,k2⟩:=z5c l (H.set nx x) (nx+1) (.inr (.inr (by simp;omega)))
     refine ⟨fun j b hj=>?_,fun id hid=>?_⟩
     · cases j with
       | zero=>
         simp at hj;subst hj
         rw [k2 _ (.inl (by omega)),Nat.add_zero,List.getElem?_set_self (by omega)]
       | succ j=>
         have:=k1 j b (by simpa using hj)
         have e:nx+(j+1)=nx+1+j:=by omega
         rw [e];exact this
     · simp only [List.length_cons] at hid
       rw [k2 id (by omega),List.getElem?_set_ne (by omega)]
theorem z3S:∀ (l:List Blk) (H:Heap) (nx:Nat),(l=[] ∨ nx=H.length ∨ nx+l.length≤H.length)→H.length≤(putU H (numbered nx l)).length
 | [],_,_,_=>Nat.le_refl _
 | x :: l,H,nx,h=>by
   simp only [numbered,putU]
   rcases h with h | rfl | h
   · cases h
   · rw [if_neg (by omega)]
     have:=z3S l (H++[x]) (H.length+1) (.inr (.inl (by simp)))
     simp at this;omega
   · simp only [List.length_cons] at h
     rw [if_pos (by omega)]
     have:=z3S l (H.set nx x) (nx+1) (.inr (.inr (by simp;omega)))
     simpa using this
theorem zH1:∀ (l:List Nat) (H:Heap),(∀ id ∈ l,id < H.length)→(∀ id ∈ l,(putU H (l.map (·,Blk.dead)))[id]?=some .dead)∧(∀ id,id ∉ l→(putU H (l.map (·,Blk.dead)))[id]?=H[id]?)
 | [],_,_=>⟨by simp,fun _ _=>rfl⟩
 | x :: l,H,h=>by
   simp only [List.map_cons,putU]
   rw [if_pos (h x (by simp))]
   obtain ⟨k1,k2⟩:=zH1 l (H.set x .dead) (fun id hid=>by simpa using h id (by simp [hid]))
   refine ⟨fun id hid=>?_,fun id hid=>?_⟩
   · by_cases hl:id ∈ l
     · exact k1 id hl
     · have:id=x:=(List.mem_cons.1 hid).resolve_right hl
       subst this
       rw [k2 id hl,List.getElem?_set_self (h id (by simp))]
   · simp only [List.mem_cons,not_or] at hid
     rw [k2 id hid.2,List.getElem?_set_ne (fun e=>hid.1 e.symm)]
end
section
variable {E:Env} {P:Program} {w w':World} {X:Nat→Prop} {B B1:BMap} {H H' H2:Heap}
variable {fp keep lent:List Nat} {nx ro rof:Nat} {dd:Bool}
theorem zGq {l:List Nat} {x:Nat}:x ∈ uniq l ↔ x ∈ l:=by
 induction l with
 | nil=>simp [uniq]
 | cons y l ih=>
   simp only [uniq]
   split
   · rename_i h
     have h:y ∈ l:=by simpa using h
     rw [ih]
     exact ⟨fun hx=>by simp [hx],fun hx=>(List.mem_cons.1 hx).elim (fun e=>e ▸ h) fun h=>h⟩
   · simp [ih]
theorem zIf (l:List Nat):(uniq l).Nodup:=by
 induction l with
 | nil=>simp [uniq]
 | cons y l ih=>
   simp only [uniq]
   split
   · exact ih
   · rename_i h
     rw [List.nodup_cons]
     exact ⟨fun hm=>h (by simpa using zGq.1 hm),ih⟩
def z2s (fp keep lent:List Nat) (H':Heap) (kept:List Blk) (nx:Nat) (roh dd:Bool):Ups:=
 (if roh then [] else fp.zip ((H'.take fp.length).map (renB (backN fp keep nx))))++numbered nx (kept.map (renB (backN fp keep nx)))++(if dd then lent.map (·,Blk.dead) else [])
theorem z6j:∀ {l:List Nat} {bs:List Blk},getAll H l=some bs→∀ (j id:Nat),l[j]?=some id→∃ b,bs[j]?=some b∧H[id]?=some b
 | [],_,_,j,id,h=>by simp at h
 | x :: l,bs,h,j,id,hj=>by
   simp only [getAll] at h
   split at h
   · rename_i b bs' h1 h2
     cases h
     cases j with
     | zero=>simp at hj;subst hj;exact ⟨b,rfl,h1⟩
     | succ j=>simpa using z6j h2 j id (by simpa using hj)
   · cases h
theorem Made.laid (h:Made B B1 X w w' H H' fp keep lent nx ro rof dd) {kept:List Blk} (hk:getAll H' keep=some kept) {roh:Bool} (hroh:roh=true→rof=fp.length) (hplace:kept=[] ∨ nx=H.length ∨ nx+kept.length≤H.length):
    Laid H H' (putU H (z2s fp keep lent H' kept nx roh dd)) B fp keep lent nx rof dd∧(roh=true→∀ id ∈ fp,(putU H (z2s fp keep lent H' kept nx roh dd))[id]?=H[id]?) ∧
     (roh=false→∀ (j id:Nat),fp[j]?=some id→∃ b,H'[j]?=some b∧(putU H (z2s fp keep lent H' kept nx roh dd))[id]?=some (renB (backN fp keep nx) b)):=by
 obtain ⟨klen,kget⟩:=z5z hk
 have fpB:∀ id ∈ fp,∃ e,B id=some e:=fun id hid=>h.fp_some hid
 have fplt:∀ id ∈ fp,id < H.length:=fun id hid=>by obtain ⟨e,he⟩:=fpB id hid;exact h.old.dom id e he
 have lentlt:∀ id ∈ lent,id < H.length:=fun id hid=>by obtain ⟨e,he⟩:=h.lentB id hid;exact h.old.dom id e he
 have fpH':∀ (j id:Nat),fp[j]?=some id→∃ b,H'[j]?=some b:=by
  intro j id hj
  obtain ⟨e,he⟩:=fpB id (List.mem_of_getElem? hj)
  obtain ⟨e',he',_⟩:=h.evo.ble j e (by rw [z6m hj,he])
  have:=h.new.dom j e' he'
  exact ⟨_,List.getElem?_eq_getElem this⟩
 have hklen:fp.length≤H'.length:=by
  rcases Nat.eq_zero_or_pos fp.length with h0 | h0
  · omega
  · obtain ⟨b,hb⟩:=fpH' (fp.length - 1) fp[fp.length - 1] (List.getElem?_eq_getElem (by omega))
    have:=(List.getElem?_eq_some_iff.1 hb).1
    omega
 -- a place with an entry is no new one
 have notNew:∀ id e,B id=some e→id < nx ∨ nx+kept.length≤id:=by
  intro id e he
  rcases Nat.lt_or_ge id nx with h1 | h1
  · exact .inl h1
  · right
    rcases Nat.lt_or_ge id (nx+kept.length) with h2 | h2
    · have:=h.free (id - nx) (by omega)
      rw [show nx+(id - nx)=id by omega,he] at this
      cases this
    · exact h2
 let A:Ups:=if roh then [] else fp.zip ((H'.take fp.length).map (renB (backN fp keep nx)))
 have hzl:fp.length=((H'.take fp.length).map (renB (backN fp keep nx))).length:=by simp;omega
 have hAlt:∀ u ∈ A,u.1 < H.length:=by
  intro u hu
  simp only [A] at hu
  split at hu
  · cases hu
  · have:=List.mem_map_of_mem (f:=fun p:Nat × Blk=>p.1) hu
    rw [zDC hzl] at this
    exact fplt _ this
 have hA:putU H A=app H A:=zCn hAlt
 have hAlen:(putU H A).length=H.length:=by rw [hA,zBB]
 have hAout:∀ id,id ∉ fp→(putU H A)[id]?=H[id]?:=by
  intro id hid
  rw [hA]
  refine z9L _ _ fun p hp e=>?_
  simp only [A] at hp
  split at hp
  · cases hp
  · have:=List.mem_map_of_mem (f:=fun p:Nat × Blk=>p.1) hp
    rw [zDC hzl] at this
    exact hid (e ▸ this)
 have hAin:roh=false→∀ (j id:Nat),fp[j]?=some id→∃ b,H'[j]?=some b∧(putU H A)[id]?=some (renB (backN fp keep nx) b):=by
  intro hr j id hj
  obtain ⟨b,hb⟩:=fpH' j id hj
  refine ⟨b,hb,?_⟩
  rw [hA]
  have hjl:=(List.getElem?_eq_some_iff.1 hj).1
  have hm:(id,renB (backN fp keep nx) b) ∈ A:=by
   simp only [A,hr,Bool.false_eq_true,if_false]
   refine zQo hj ?_
   rw [List.getElem?_map,List.getElem?_take,if_pos hjl,hb];rfl
  refine zIy ?_ hm (fplt id (List.mem_of_getElem? hj))
  simp only [A,hr,Bool.false_eq_true,if_false]
  rw [zDC hzl];exact h.nodup
 have hplace':kept.map (renB (backN fp keep nx))=[] ∨ nx=(putU H A).length ∨ nx+(kept.map (renB (backN fp keep nx))).length≤(putU H A).length:=by
  rw [hAlen,List.length_map]
  exact hplace.imp_left fun h=>by rw [h];rfl
 obtain ⟨n1,n2⟩:=z5c (kept.map (renB (backN fp keep nx))) (putU H A) nx hplace'
 have n3:=z3S (kept.map (renB (backN fp keep nx))) (putU H A) nx hplace'
 simp only [List.length_map] at n2
 generalize hHN:putU (putU H A) (numbered nx (kept.map (renB (backN fp keep nx))))=HN at n1 n2 n3
 have hups:putU H (z2s fp keep lent H' kept nx roh dd)=putU HN (if dd then lent.map (·,Blk.dead) else []):=by
  unfold z2s
  rw [z6r,z6r,← hHN]
 obtain ⟨d1,d2⟩:=zH1 lent HN (fun id hid=>by have:=lentlt id hid;omega)
 have hD:∀ id,(dd=true→id ∉ lent)→(putU H (z2s fp keep lent H' kept nx roh dd))[id]?=HN[id]?:=by
  intro id hid
  rw [hups]
  cases dd with
  | false=>rfl
  | true=>exact d2 id (hid rfl)
 have fpget:∀ id ∈ fp,(putU H (z2s fp keep lent H' kept nx roh dd))[id]?=(putU H A)[id]?:=by
  intro id hid
  obtain ⟨e,he⟩:=fpB id hid
  rw [hD id fun _ hl=>h.apart id hl hid,n2 id (notNew id e he)]
 refine ⟨⟨fun j id hj=>?_,fun j m hj=>?_,fun hd id hid=>?_,fun id hid hn hl=>?_⟩,fun hr id hid=>?_,fun hr j id hj=>?_⟩
 · have hid:=List.mem_of_getElem? hj
   rw [fpget id hid]
   cases hr:roh with
   | true=>left;refine ⟨hroh hr,?_⟩;simp [A,hr,putU]
   | false=>right;exact hAin hr j id hj
 · obtain ⟨b,k1,k2⟩:=z6j hk j m hj
   refine ⟨b,k2,?_⟩
   have hj':=(List.getElem?_eq_some_iff.1 hj).1
   rw [hD (nx+j) fun _ hl=>by
    obtain ⟨e,he⟩:=h.lentB _ hl
    have:=h.free j hj'
    rw [he] at this;cases this]
   exact n1 j _ (by rw [List.getElem?_map,k1];rfl)
 · rw [hups,if_pos hd];exact d1 id hid
 · left
   rw [hD id hl]
   have:id < nx ∨ nx+kept.length≤id:=by
    rcases Nat.lt_or_ge id nx with h1 | h1
    · exact .inl h1
    · right
      unfold z7W at hn
      rw [if_pos h1] at hn
      have:=List.getElem?_eq_none_iff.1 hn
      omega
   rw [n2 id this,hAout id hid]
 · rw [fpget id hid];simp [A,hr,putU]
 · rw [fpget id (List.mem_of_getElem? hj)];exact hAin hr j id hj
end
section
variable {E:Env} {P:Program} {w w':World} {X:Nat→Prop} {B B1:BMap} {H H' H2:Heap}
variable {fp keep lent:List Nat} {nx ro rof:Nat} {dd:Bool}
theorem zKz {us:Ups} {kl:Nat} (h:Slots H B nx (us.countP fun u=>decide (nx≤u.1))) (hk:kl≤us.countP fun u=>decide (nx≤u.1)) (hdom:∀ id e,B id=some e→id < H.length):
    (kl=0 ∨ nx=H.length ∨ nx+kl≤H.length)∧∀ j,j < kl→B (nx+j)=none:=by
 rcases h with h | h
 · refine ⟨.inr (.inl h),fun j _=>?_⟩
   cases hb:B (nx+j) with
   | none=>rfl
   | some e=>have:=hdom _ e hb;omega
 · refine ⟨?_,fun j hj=>(h j (by omega)).2.2⟩
   rcases Nat.eq_zero_or_pos kl with h0 | h0
   · exact .inl h0
   · have:=(h (kl - 1) (by omega)).1
     exact .inr (.inr (by omega))
theorem zAr (l:List Blk) (n nx:Nat) (h:nx≤n):(numbered n l).countP (fun u=>decide (nx≤u.1))=l.length:=by
 induction l generalizing n with
 | nil=>rfl
 | cons x l ih=>
   simp only [numbered,List.countP_cons,h,decide_true,if_true,List.length_cons]
   rw [ih (n+1) (by omega)]
theorem zJX {H':Heap} {kept:List Blk} {roh:Bool}:kept.length≤(z2s fp keep lent H' kept nx roh dd).countP fun u=>decide (nx≤u.1):=by
 unfold z2s
 rw [List.countP_append,List.countP_append,zAr _ nx nx (Nat.le_refl _),List.length_map]
 omega
def zPn (X:Nat→Prop) (B B1:BMap) (fp keep lent:List Nat) (r:Nat):Prop:=
 z8E X B fp lent r ∨ ∃ id e s t,B1 id=some e∧e.st=.real r s t∧(id < fp.length ∨ id ∈ keep)
theorem zFI:Lasts (avoid (z8E X B fp lent) B1) w' (zPn X B B1 fp keep lent) w':=by
 refine ⟨Nat.le_refl _,fun _ _ _=>rfl,fun r _ hy hy'=>hy ?_⟩
 rcases hy' with h | ⟨id,e,s,t,h1,h2,_⟩
 · exact .inl h
 · exact .inr ⟨id,e,s,t,h1,h2⟩
theorem Made.keptY2 (h:Made B B1 X w w' H H' fp keep lent nx ro rof dd) (hd:dd=true ∨ lent=[]):Lasts (zPn X B B1 fp keep lent) w' (avoid X (z2n B B1 fp keep lent nx dd)) w':=by
 refine ⟨Nat.le_refl _,fun _ _ _=>rfl,fun r _ hy hy'=>hy ?_⟩
 rcases hy' with hx | ⟨id,e,s,t,h1,h2⟩
 · exact .inl (.inl hx)
 · rcases h.mem h1 h2 with ⟨m,k1,k2⟩ | ⟨k1,k2,k3⟩
   · refine .inr ⟨m,e,s,t,k1,h2,?_⟩
     rcases k2 with ⟨j,a1,rfl⟩ | ⟨j,a1,a2⟩
     · exact .inl (List.getElem?_eq_some_iff.1 a1).1
     · exact .inr (List.mem_of_getElem? a2)
   · refine .inl (.inr ⟨id,e,s,t,k1,h2,k2,?_⟩)
     rcases hd with hd | hd
     · exact k3 hd
     · rw [hd];simp
theorem Made.result (h:Made B B1 X w w' H H' fp keep lent nx ro rof dd) {v u:AVal} {x:Value} (hb:handBack H' fp.length keep 4 v=some u) (hv:VRel (avoid (z8E X B fp lent) B1) w' B1 v x) (hl:(dd=true ∨ lent=[]) ∨ u.noLit=true):
    VRel (avoid X (z2n B B1 fp keep lent nx dd)) w' (z2n B B1 fp keep lent nx dd) (u.ren (backN fp keep nx)) x:=by
 have h1:VRel (zPn X B B1 fp keep lent) w' B1 u x:=z4F h.new zFI (fun id e r s t hid hnk he hst hy=>by
  rcases hy with hy | ⟨id',e',s',t',c1,c2,c3⟩
  · exact (h.new.lt _ _ _ _ _ he hst).2 hy
  · have:=h.new.inj _ _ _ _ _ _ _ _ _ he c1 hst c2
    subst this
    rcases c3 with c3 | c3
    · omega
    · exact hnk c3) 4 v u x hb hv
 have h2:VRel (avoid X (z2n B B1 fp keep lent nx dd)) w' B1 u x:=by
  rcases hl with hl | hl
  · exact h1.last (h.keptY2 hl) (.refl _)
  · exact z6B.1 u x hl h1
 exact (z7f (backN fp keep nx)).1 u x h.backed h2
theorem zLv {run:Nat→List AVal→Heap→Nat→Option (CRes × Heap)} (hrun:zIp P run):z9F P (callF E run):=by
 intro f args ro H nx r out h X B w vs hH hvs hfree
 unfold callF at h
 cases hw:(E.hint f).whole with
 | true=>
   simp only [hw,if_true] at h
   split at h
   · rename_i r0 H0 hr
     cases h
     exact hrun f args H ro r H0 hr X B w vs hH hvs
   · cases h
 | false=>
   simp only [hw,Bool.false_eq_true,if_false] at h
   split at h
   · cases h
   · rename_i as lent hl
     split at h
     · cases h
     · rename_i fp hr
       split at h
       · cases h
       · rename_i bs hb
         split at h
         · cases h
         · rename_i hchk
           simp only [Bool.or_eq_true,Bool.not_eq_true',Bool.and_eq_true,not_or,not_and,Bool.not_eq_false] at hchk
           obtain ⟨hap,hown⟩:=hchk
           have hap:∀ id ∈ lent,id ∉ fp:=by simpa using hap
           have hown:(E.hint f).ro=true ∨ ∀ id ∈ fp,ro≤id:=by
            cases hro:(E.hint f).ro with
            | true=>exact .inl rfl
            | false=>right;simpa using hown hro
           obtain ⟨f1,f2,_,_,_⟩:=z4d fuel0 (refsL as) [] fp hr (by simp) (by simp) (by simp)
           have hcal:HRel (mapF B fp) (z8E X B fp lent) w (bs.map (renB (idx fp))):=hH.callee f2 f1 hb
           have hYl:∀ id e r s t,id ∈ lent→B id=some e→e.st=.real r s t→¬ avoid (z8E X B fp lent) (mapF B fp) r:=by
            intro id e r s t hid he hst hy
            rcases hy with hx | ⟨j,e2,s2,t2,k1,k2⟩
            · rcases hx with hx | ⟨id',e',s',t',c1,c2,c3,c4⟩
              · exact (hH.lt _ _ _ _ _ he hst).2 hx
              · have:=hH.inj _ _ _ _ _ _ _ _ _ he c1 hst c2
                subst this;exact c4 hid
            · obtain ⟨id',k3,k4⟩:=z3L k1
              have:=hH.inj _ _ _ _ _ _ _ _ _ he k4 hst k2
              subst this;exact hap id hid (List.mem_of_getElem? k3)
           obtain ⟨ha,hlive⟩:=z8J (lent:=lent) hH (zOB (fp:=fp) (lent:=lent)) hYl args 0 as lent vs.toList hl (fun _ h=>h) hvs
           have hargs:VRelL (avoid (z8E X B fp lent) (mapF B fp)) w (mapF B fp) (renL (idx fp) as) vs.toList:=(z7f (idx fp)).2 _ _ zH4 ha
           have hlentB:∀ id ∈ lent,∃ e,B id=some e:=by
            intro id hid
            rcases hlive id hid with ⟨_,_,_,_,h1⟩ | ⟨_,h1⟩
            · rcases hH.blk id _ h1 with ⟨h2,_⟩ | ⟨e,h2,_⟩
              · cases h2
              · exact ⟨e,h2⟩
            · rcases hH.blk id _ h1 with ⟨h2,_⟩ | ⟨e,h2,_⟩
              · cases h2
              · exact ⟨e,h2⟩
           split at h
           · cases h
           · rename_i r0 H' hr0
             generalize hkeep:(if (E.hint f).keepAll=true then List.range' fp.length (H'.length - fp.length) else uniq ((E.hint f).keep.filter fun j=>decide (fp.length≤j) && decide (j < H'.length)))=keep at h
             have hkn:keep.Nodup:=by
              rw [← hkeep];split
              · exact List.nodup_range'
              · exact zIf _
             have hkg:∀ m ∈ keep,fp.length≤m:=by
              intro m hm
              rw [← hkeep] at hm
              split at hm
              · exact (List.mem_range'_1.1 hm).1
              · rw [zGq,List.mem_filter] at hm
                simp only [Bool.and_eq_true,decide_eq_true_eq] at hm
                exact hm.2.1
             split at h
             · cases h
             · rename_i kept hk
               have klen:=(z5z hk).1
               obtain ⟨q1,q2⟩:=hrun f _ _ _ r0 H' hr0 (z8E X B fp lent) (mapF B fp) w vs hcal hargs
               refine ⟨q1,Calls.mono q2 fun e w2 he=>?_⟩
               obtain ⟨B1,g1,g2,g3⟩:=he
               -- what has been made,for either way of handing back
               have made:∀ (dd:Bool) (us:Ups),out=.ups us→us=z2s fp keep lent H' kept nx (E.hint f).ro dd→(dd=true→∀ id ∈ lent,ro≤id)→((dd=true ∨ lent=[]) ∨ ((∀ b ∈ kept,litFree b=true)∧((E.hint f).ro=true ∨ ∀ b ∈ H'.take fp.length,litFree b=true))) →
                   ∃ hM:Made B B1 X w w2 H H' fp keep lent nx ro (if (E.hint f).ro=true then fp.length else 0) dd,HRel (z2n B B1 fp keep lent nx dd) X w2 (putU H us):=by
                intro dd us hout hus hdd hlit
                rw [hout] at hfree
                simp only [zEo] at hfree
                rw [hus] at hfree
                obtain ⟨p1,p2⟩:=zKz (kl:=kept.length) hfree zJX hH.dom
                have hM:Made B B1 X w w2 H H' fp keep lent nx ro (if (E.hint f).ro=true then fp.length else 0) dd:=
                 { old:=hH,new:=g1,evo:=g2,nodup:=f2,live:=f1,knodup:=hkn,kge:=hkg,apart:=hap,lentB:=hlentB,free:=fun j hj=>p2 j (by omega),
                   own:=by
                    rcases hown with h1 | h1
                    · left;rw [if_pos h1]
                    · exact .inr h1
                   dead:=hdd }
                refine ⟨hM,?_⟩
                have hplace:kept=[] ∨ nx=H.length ∨ nx+kept.length≤H.length:=p1.imp_left fun h=>List.eq_nil_of_length_eq_zero h
                obtain ⟨l1,l2,l3⟩:=hM.laid hk (roh:=(E.hint f).ro) (fun h=>by rw [if_pos h]) hplace
                rw [hus]
                have lit2:(dd=true ∨ lent=[]) ∨ ((∀ m ∈ keep,∀ b,H'[m]?=some b→litFree b=true)∧((if (E.hint f).ro=true then fp.length else 0)=fp.length ∨ ∀ (j:Nat) (b:Blk),j < fp.length→H'[j]?=some b→litFree b=true)):=by
                 refine hlit.imp_right fun ⟨h1,h2⟩=>⟨fun m hm b hb=>?_,?_⟩
                 · obtain ⟨j,hj,hje⟩:=List.getElem_of_mem hm
                   obtain ⟨b',k1,k2⟩:=z6j hk j m (by rw [List.getElem?_eq_getElem hj,hje])
                   rw [hb] at k2;cases k2
                   exact h1 b (List.mem_of_getElem? k1)
                 · rcases h2 with h2 | h2
                   · left;rw [if_pos h2]
                   · right
                     intro j b hj hb
                     exact h2 b (List.mem_of_getElem? (i:=j) (by rw [List.getElem?_take,if_pos hj,hb]))
                have c1:(if (E.hint f).ro=true then fp.length else 0)=fp.length→∀ id ∈ fp,(putU H (z2s fp keep lent H' kept nx (E.hint f).ro dd))[id]?=H[id]?:=by
                 intro hrf
                 cases hro:(E.hint f).ro with
                 | true=>rw [hro] at l2;exact l2 rfl
                 | false=>
                   rw [hro] at hrf
                   simp only [Bool.false_eq_true,if_false] at hrf
                   intro id hid
                   rw [List.eq_nil_of_length_eq_zero hrf.symm] at hid;cases hid
                have c2:(if (E.hint f).ro=true then fp.length else 0) ≠ fp.length→(E.hint f).ro=false:=by
                 intro hrf
                 cases hro:(E.hint f).ro with
                 | true=>rw [if_pos hro] at hrf;exact absurd rfl hrf
                 | false=>rfl
                exact hM.back l1 lit2 c1 fun hrf=>l3 (c2 hrf)
               have hback:(fun id=>if id < fp.length then fp[id]? else Option.map (fun x=>nx+x) (idx keep id))=backN fp keep nx:=rfl
               rw [hback] at h
               cases r0 with
               | panic v=>
                 simp only at h
                 split at h
                 · rename_i hdd
                   cases h
                   obtain ⟨hM,hH2⟩:=made true _ rfl (by simp [z2s]) (fun _=>by simpa using hdd) (.inl (.inl rfl))
                   refine ⟨_,hH2,hM.evolve,?_⟩
                   cases e with
                   | panicked ch=>
                     obtain ⟨v',hch,hv⟩:=g3
                     exact ⟨v',hch,(z7f (backN fp keep nx)).1 v v' hM.backed (hv.last (hM.lasts2 (.inl rfl)) (.refl _))⟩
                   | _=>exact g3.elim
                 · cases h
               | ret v=>
                 simp only at h
                 split at h
                 · cases h
                 · rename_i u hu
                   split at h
                   · rename_i hfine
                     cases h
                     have hlit:((false=true ∨ lent=[]) ∨ ((∀ b ∈ kept,litFree b=true)∧((E.hint f).ro=true ∨ ∀ b ∈ H'.take fp.length,litFree b=true)))∧((false=true ∨ lent=[]) ∨ u.noLit=true):=by
                      simp only [Bool.or_eq_true,Bool.and_eq_true,List.isEmpty_iff,List.all_eq_true] at hfine
                      rcases hfine with h1 | ⟨⟨h1,h2⟩,h3⟩
                      · exact ⟨.inl (.inr h1),.inl (.inr h1)⟩
                      · exact ⟨.inr ⟨h2,h3⟩,.inr h1⟩
                     obtain ⟨hM,hH2⟩:=made false _ rfl (by simp [z2s]) (fun h=>by cases h) hlit.1
                     refine ⟨_,hH2,hM.evolve,?_⟩
                     cases e with
                     | returned x=>exact hM.result hu g3 hlit.2
                     | _=>exact g3.elim
                   · split at h
                     · rename_i hdd
                       cases h
                       obtain ⟨hM,hH2⟩:=made true _ rfl (by simp [z2s]) (fun _=>by simpa using hdd) (.inl (.inl rfl))
                       refine ⟨_,hH2,hM.evolve,?_⟩
                       cases e with
                       | returned x=>exact hM.result hu g3 (.inl (.inl rfl))
                       | _=>exact g3.elim
                     · cases h
end
section
variable {E:Env} {P:Program} {X:Nat→Prop}
theorem zKE {B:BMap} {w:World} {Y:Nat→Prop} {t:Nat} {a v:AVal} {av:Value} {H:Heap} (ha:VRel Y w B a av) (h:load E t a H=some v):∃ ad,av=.pointer (some ad):=by
 unfold load at h
 cases ht:E.ti t with
 | none=>simp [ht] at h
 | some ti=>
   simp only [ht] at h
   cases a with
   | lptr e f=>simp only [VRel] at ha;obtain ⟨r,o,vs,rfl,_⟩:=ha;exact ⟨_,rfl⟩
   | ptr id g i f=>simp only [VRel] at ha;obtain ⟨ad,rfl,_⟩:=ha;exact ⟨_,rfl⟩
   | _=>simp at h
theorem z4I (hE:EnvOk E P) {s:St} {w:World} {B:BMap} {tmps:Array Value} (hH:HRel B X w s.H) (hT:VRelL (avoid X B) w B s.tmps tmps.toList)
    {g:ResultVar→Sem Value} (hg1:∀ t,g (.tmp t)=pure (tmps.getD t undef)) (hg2:∀ a t,g (.cell a t)=(do loadVar t (← asAddr (tmps.getD a undef)))):
    ∀ {rs:List ResultVar} {vs:List AVal},resultsOf E s rs=some vs→∃ us:List Value,(rs.mapM g:Sem (List Value)).run P w=.ok us w∧VRelL (avoid X B) w B vs us
 | [],vs,h=>by
   simp only [resultsOf,Option.some.injEq] at h
   subst h
   exact ⟨[],by simp,z0N⟩
 | .tmp t :: rs,vs,h=>by
   simp only [resultsOf] at h
   split at h
   · rename_i v vs' hv hr
     cases h
     obtain ⟨us,h1,h2⟩:=z4I hE hH hT hg1 hg2 hr
     obtain ⟨x,h3,h4⟩:=z3F hT hv
     have h5:tmps.getD t undef=x:=by
      rw [Array.getElem?_toList] at h3
      simp [Array.getD_eq_getD_getElem?,h3]
     refine ⟨x :: us,?_,z0D.2 ⟨h4,h2⟩⟩
     rw [List.mapM_cons]
     simp only [hg1,Sem.run_bind,Sem.run_pure,Result.andThen_ok,h1,h5]
   · cases h
 | .cell a t :: rs,vs,h=>by
   simp only [resultsOf] at h
   split at h
   · rename_i av ha
     split at h
     · rename_i v vs' hv hr
       cases h
       obtain ⟨us,h1,h2⟩:=z4I hE hH hT hg1 hg2 hr
       obtain ⟨x,h3,h4⟩:=z3F hT ha
       have h5:tmps.getD a undef=x:=by
        rw [Array.getElem?_toList] at h3
        simp [Array.getD_eq_getD_getElem?,h3]
       obtain ⟨v',h6,h7⟩:=zBq hE hH h4 hv
       obtain ⟨ad,rfl⟩:=zKE h4 hv
       refine ⟨v' :: us,?_,z0D.2 ⟨h7,h2⟩⟩
       rw [List.mapM_cons]
       simp only [Instr.loadAt,Instr.sureAddr,pure_bind] at h6
       have h8:asAddr (.pointer (some ad))=pure ad:=rfl
       simp only [hg2,Sem.run_bind,Sem.run_pure,Result.andThen_ok,h5,h8,h6,h1]
     · cases h
   · cases h
theorem zQ3 {Y:Nat→Prop} {w:World} {B:BMap} {vs:List AVal} {us:List Value} (h:VRelL Y w B vs us):VRel Y w B (one vs) (if h:us.toArray.size=1 then us.toArray[0] else .tuple us.toArray):=by
 match vs,us,h with
 | [],us,h=>rw [z08] at h;subst h;exact tuple0
 | [a],us,h=>
   obtain ⟨v,vs',rfl,h1,h2⟩:=z05.1 h
   rw [z08] at h2;subst h2
   simpa [one] using h1
 | a :: b :: l,us,h=>
   have hl:=z0O h
   have:¬ us.toArray.size=1:=by simp;simp at hl;omega
   rw [dif_neg this]
   simp only [one,VRel]
   exact ⟨_,rfl,by simpa using h⟩
theorem z7g (hE:EnvOk E P) {s:St} {w:World} {B:BMap} {tmps:Array Value} (hH:HRel B X w s.H) (hT:VRelL (avoid X B) w B s.tmps tmps.toList) {fn:Func} {vs:List AVal} (h:resultsOf E s fn.results.toList=some vs):
    ∃ v,(results fn tmps).run P w=.ok v w∧VRel (avoid X B) w B (one vs) v:=by
 unfold results
 obtain ⟨us,h1,h2⟩:=z4I hE hH hT (g:=fun
  | .tmp t=>pure (tmps.getD t undef)
  | .cell a t=>do loadVar t (← asAddr (tmps.getD a undef))) (fun _=>rfl) (fun _ _=>rfl) h
 refine ⟨_,?_,zQ3 h2⟩
 rw [Array.mapM_eq_mapM_toList]
 simp only [map_eq_pure_bind,bind_assoc,pure_bind,Sem.run_bind]
 exact (congrArg (fun r=>Result.andThen r _) h1).trans (by simp)
theorem z8e (hE:EnvOk E P) {f:Nat} {fn:Func} {c:Code} (hf:E.fns f=some fn) (hb:fn.body=some c) (vs:Array Value) (w:World):(callFunc f vs).run P w=.ok (.enter f vs) w:=by
 obtain ⟨h1,h2⟩:=hE.fn f fn hf
 have h3:fn.name ≠ "runtime.NumGoroutine":=by simpa using h2
 simp [callFunc,program,Sem.run,h1,h3,hb]
theorem zLR {P:Program} {Q:Exit→Act→List Frame→World→Prop} {a:Act} {cs:List Frame} {w:World} {id:Nat} {c:Code}
    (h:c.wpS P (fun e a' cs' w'=>match e with | .exit j=>Q (if j=id then .normal else .exit j) a' cs' w' | e=>Q e a' cs' w') a cs w):(Code.block id c).wpS P Q a cs w:=by
 intro b k hb hr
 obtain ⟨e,a₁,cs₁,w₁,hq,harr⟩:=h b (.inBlock id :: k) hb hr
 cases e with
 | normal=>exact ⟨.normal,a₁,cs₁,w₁,hq,.head step_block (Steps.trans harr (.one step_inBlock))⟩
 | exit id'=>
   by_cases hid:id'=id
   · simp only [hid,if_true] at hq
     exact ⟨.normal,a₁,cs₁,w₁,hq,.head step_block (harr k (by simp [exitTo,hid]))⟩
   · simp only [hid,if_false] at hq
     refine ⟨.exit id',a₁,cs₁,w₁,hq,fun k' hk=>.head step_block (harr k' ?_)⟩
     have:(id == id')=false:=by simp;exact fun h=>hid h.symm
     simp [exitTo,this,hk]
 | goto l=>exact ⟨_,a₁,cs₁,w₁,hq,fun k' hk=>.head step_block (harr k' (by simp [gotoIn,hk]))⟩
 | ret=>exact ⟨_,a₁,cs₁,w₁,hq,.of_steps (.one step_block) harr⟩
 | panic ch=>exact ⟨_,a₁,cs₁,w₁,hq,.of_steps (.one step_block) harr⟩
 | outgrown=>exact ⟨_,a₁,cs₁,w₁,hq,.of_steps (b:=b) (k:=k) (e:=.outgrown) (.one step_block) harr⟩
def RecRel (Y:Nat→Prop) (w:World) (B:BMap):Rec→FrameMode→Prop
 | .idle,u=>u=.returning
 | .active v,u=>∃ v',u=.panicking [{ v:=v',recovered:=false }]∧VRel Y w B v v'
 | .done,u=>∃ v',u=.panicking [{ v:=v',recovered:=true }]
theorem RecRel.last {Y Y':Nat→Prop} {w w':World} (hl:Lasts Y w Y' w') {B B':BMap} (hB:BLe B B') {r:Rec} {u:FrameMode} (h:RecRel Y w B r u):RecRel Y' w' B' r u:=by
 cases r with
 | idle=>exact h
 | active v=>obtain ⟨v',h1,h2⟩:=h;exact ⟨v',h1,h2.last hl hB⟩
 | done=>exact h
def ExOkD (X:Nat→Prop) (s:St) (B:BMap) (w:World) (c₀:Frame) (cs:List Frame) (ex:Ex) (s':St) (r':Rec) (e:Exit) (a':Act) (cs':List Frame) (w':World):Prop:=
 s'.ro=s.ro∧s'.defers=s.defers∧∃ B',Sim X B' w' s' a'∧Evo s.ro B X w B' w'∧zHN X B' w' ex e∧∃ u',cs'={ c₀ with mode:=u' } :: cs∧RecRel (avoid X B') w' B' r' u'
theorem ExOkD.trans {s s1:St} {B B1:BMap} {w w1:World} {c₀:Frame} {cs:List Frame} {ex:Ex} {s':St} {r':Rec} {e:Exit} {a':Act} {cs':List Frame} {w':World} {u:FrameMode} (hr:s1.ro=s.ro) (hd:s1.defers=s.defers) (hE:Evo s.ro B X w B1 w1)
    (h:ExOkD X s1 B1 w1 { c₀ with mode:=u } cs ex s' r' e a' cs' w'):ExOkD X s B w c₀ cs ex s' r' e a' cs' w':=by
 obtain ⟨h1,h2,B',h3,h4,h5,u',h6,h7⟩:=h
 exact ⟨h1.trans hr,h2.trans hd,B',h3,hE.trans (hr ▸ h4),h5,u',h6,h7⟩
def zRc (run:St→Rec→Option (Ex × St × Rec)) (wp:(Exit→Act→List Frame→World→Prop)→Act→List Frame→World→Prop):Prop:=
 ∀ (X:Nat→Prop) (s:St) (r:Rec) (a:Act) (w:World) (B:BMap) (c₀:Frame) (cs:List Frame) (ex:Ex) (s':St) (r':Rec) (Q:Exit→Act→List Frame→World→Prop),run s r=some (ex,s',r')→Sim X B w s a→RecRel (avoid X B) w B r c₀.mode →
  (∀ e a' cs' w',ExOkD X s B w c₀ cs ex s' r' e a' cs' w'→Q e a' cs' w')→wp Q a (c₀ :: cs) w
theorem zCs {c:Frame} {cs:List Frame} (h:c.mode=.returning):recoverD (c :: cs)=none:=by
 simp [recoverD,h]
theorem zCr {c:Frame} {cs:List Frame} {v:Value} (h:c.mode=.panicking [{ v:=v,recovered:=true }]):recoverD (c :: cs)=none:=by
 simp [recoverD,h]
theorem zAJ {c:Frame} {cs:List Frame} {v:Value} (h:c.mode=.panicking [{ v:=v,recovered:=false }]):recoverD (c :: cs)=some (v,{ c with mode:=.panicking [{ v:=v,recovered:=true }] } :: cs):=by
 simp [recoverD,h]
theorem zDx {Y:Nat→Prop} {w:World} {B:BMap}:VRel Y w B .niliface .nilIface:=by simp [VRel]
theorem St.put_defers (s:St) (dst:Option Nat) (v:AVal):(s.put dst v).defers=s.defers:=by cases dst <;> rfl
theorem z7j (hE:EnvOk E P) {all:Array Oper}:∀ (os:List Oper) (i:Nat),all.toList.drop i=os→zRc (fun s r=>z51 E all os s r) (fun Q a cs w=>wpOpsS P all Q (List.range' i os.length) a cs w)
 | [],i,hd,X,s,r,a,w,B,c₀,cs,ex,s',r',Q,h,hS,hR,hQ=>by
   simp only [z51,Option.some.injEq,Prod.mk.injEq] at h
   obtain ⟨rfl,rfl,rfl⟩:=h
   exact hQ _ _ _ _ ⟨rfl,rfl,B,hS,.refl _ _ _ _,trivial,c₀.mode,rfl,hR⟩
 | o :: os,i,hd,X,s,r,a,w,B,c₀,cs,ex,s',r',Q,h,hS,hR,hQ=>by
   have hi:all[i]?=some o:=by
    have:=congrArg (·[0]?) hd
    simpa [List.getElem?_drop] using this
   have hd':all.toList.drop (i+1)=os:=by
    have:=congrArg (List.drop 1) hd
    simpa [List.drop_drop,Nat.add_comm] using this
   simp only [List.length_cons,List.range'_succ,wpOpsS,hi]
   simp only [z51] at h
   have next:∀ (s1:St) (r1:Rec) (a1:Act) (w1:World) (B1:BMap) (u:FrameMode),z51 E all os s1 r1=some (ex,s',r')→Sim X B1 w1 s1 a1→Evo s.ro B X w B1 w1→RecRel (avoid X B1) w1 B1 r1 u→s1.ro=s.ro→s1.defers=s.defers →
       wpOpsS P all Q (List.range' (i+1) os.length) a1 ({ c₀ with mode:=u } :: cs) w1:=by
    intro s1 r1 a1 w1 B1 u h1 h2 h3 h4 h5 h6
    exact z7j hE os (i+1) hd' X s1 r1 a1 w1 B1 { c₀ with mode:=u } cs ex s' r' Q h1 h2 h4 fun e a' cs' w' hx=>hQ e a' cs' w' (hx.trans h5 h6 h3)
   split at h
   · cases h
   · rename_i hw
     rw [z6K hS.tmps hw]
     simp only [Bool.false_eq_true,if_false]
     exact next _ r _ w B c₀.mode h (z7c hS o.dst) (.refl _ _ _ _) hR (St.put_ro _ _ _) (St.put_defers _ _ _)
   · rename_i hw
     rw [z6K hS.tmps hw]
     simp only [if_true]
     split at h
     · rename_i at_ ell sp hop
       have hrun:(execOp a.eval o).run P w=.ok .recover w:=by
        simp only [execOp,hop]
        simp [resolve,invoke,Go.builtin]
       rw [hrun]
       simp only
       split at h
       · rename_i v
         obtain ⟨v',h1,h2⟩:=hR
         rw [zAJ h1]
         exact next _ .done _ w B _ h (hS.put h2 o.dst) (.refl _ _ _ _) ⟨v',rfl⟩ (St.put_ro _ _ _) (St.put_defers _ _ _)
       · rename_i hne
         have hrec:recoverD (c₀ :: cs)=none:=by
          cases r with
          | idle=>exact zCs hR
          | active v=>exact absurd rfl (hne v)
          | done=>obtain ⟨v',h1⟩:=hR;exact zCr h1
         rw [hrec]
         exact next _ r _ w B c₀.mode h (hS.put zDx o.dst) (.refl _ _ _ _) hR (St.put_ro _ _ _) (St.put_defers _ _ _)
     · rename_i hno
       split at h
       · rename_i v us hst
         obtain ⟨v',w',B',h1,h2,h3,h4⟩:=z3h hE hS hst (fun _=>.all)
         have:=next _ r (a.put o.dst v') w' B' c₀.mode h ((hS.evo h2 h3).put h4 o.dst) h3 (hR.last h3.lasts h3.ble) (St.put_ro _ _ _) (St.put_defers _ _ _)
         rcases h1 with h1 | ⟨h1,rfl⟩
         · rw [h1];exact this
         · rw [h1];exact this
       · rename_i v hst
         cases h
         obtain ⟨v',h1,h2⟩:=z3h hE hS hst trivial
         rw [h1]
         exact hQ _ _ _ _ ⟨rfl,rfl,B,hS,.refl _ _ _ _,⟨v',rfl,h2⟩,c₀.mode,rfl,hR⟩
       · cases h
end
section
variable {E:Env} {P:Program} {X:Nat→Prop}
theorem ExOkD.not_normal {s:St} {B:BMap} {w:World} {c₀:Frame} {cs:List Frame} {ex:Ex} {s':St} {r':Rec} {e:Exit} {a':Act} {cs':List Frame} {w':World} (h:ExOkD X s B w c₀ cs ex s' r' e a' cs' w') (hn:ex ≠ .normal):e ≠ .normal:=by
 obtain ⟨_,_,B',_,_,h3,_⟩:=h
 cases ex <;> cases e <;> simp_all [zHN]
theorem zNS {s:St} {B:BMap} {w:World} {c₀:Frame} {cs:List Frame} {ex:Ex} {s':St} {r':Rec} {K:Act→List Frame→World→Prop} {Q:Exit→Act→List Frame→World→Prop} (hn:ex ≠ .normal)
    (hQ:∀ e a' cs' w',ExOkD X s B w c₀ cs ex s' r' e a' cs' w'→Q e a' cs' w'):∀ e a' cs' w',ExOkD X s B w c₀ cs ex s' r' e a' cs' w'→Exit.thenS K Q e a' cs' w':=by
 intro e a' cs' w' h
 have h1:=h.not_normal hn
 have h2:=hQ e a' cs' w' h
 cases e with
 | normal=>exact absurd rfl h1
 | _=>exact h2
theorem z9h (hE:EnvOk E P) (c:Code):zRc (z6g E c) (fun Q a cs w=>c.wpS P Q a cs w):=by
 induction c with
 | skip=>
   intro X s r a w B c₀ cs ex s' r' Q h hS hR hQ
   simp only [z6g,Option.some.injEq,Prod.mk.injEq] at h
   obtain ⟨rfl,rfl,rfl⟩:=h
   exact wpS_of_wp (wp_skip (hQ _ _ _ _ ⟨rfl,rfl,B,hS,.refl _ _ _ _,trivial,c₀.mode,rfl,hR⟩))
 | exit id=>
   intro X s r a w B c₀ cs ex s' r' Q h hS hR hQ
   simp only [z6g,Option.some.injEq,Prod.mk.injEq] at h
   obtain ⟨rfl,rfl,rfl⟩:=h
   exact wpS_of_wp (wp_exit (hQ _ _ _ _ ⟨rfl,rfl,B,hS,.refl _ _ _ _,rfl,c₀.mode,rfl,hR⟩))
 | ret=>
   intro X s r a w B c₀ cs ex s' r' Q h hS hR hQ
   simp only [z6g,Option.some.injEq,Prod.mk.injEq] at h
   obtain ⟨rfl,rfl,rfl⟩:=h
   exact wpS_of_wp (wp_ret (hQ _ _ _ _ ⟨rfl,rfl,B,hS,.refl _ _ _ _,trivial,c₀.mode,rfl,hR⟩))
 | region id ops draw=>
   intro X s r a w B c₀ cs ex s' r' Q h hS hR hQ
   simp only [z6g] at h
   cases draw with
   | true=>simp at h
   | false=>
     simp only [Bool.false_eq_true,if_false] at h
     refine wpS_region ?_
     rw [List.range_eq_range',← Array.length_toList]
     exact z7j hE ops.toList 0 rfl X s r a w B c₀ cs ex s' r' Q h hS hR hQ
 | seq c d ihc ihd=>
   intro X s r a w B c₀ cs ex s' r' Q h hS hR hQ
   simp only [z6g] at h
   refine wpS_seq ?_
   split at h
   · rename_i s1 r1 hc
     refine ihc X s r a w B c₀ cs .normal s1 r1 _ hc hS hR fun e a' cs' w' he=>?_
     obtain ⟨h1,h2,B',h3,h4,h5,u',h6,h7⟩:=he
     cases e with
     | normal=>
       subst h6
       exact ihd X s1 r1 a' w' B' { c₀ with mode:=u' } cs ex s' r' Q h h3 h7 fun e2 a2 cs2 w2 hx=>hQ e2 a2 cs2 w2 (hx.trans h1 h2 h4)
     | _=>exact h5.elim
   · rename_i hne
     refine ihc X s r a w B c₀ cs ex s' r' _ h hS hR (zNS (fun e=>?_) hQ)
     subst e
     exact hne _ _ h
 | cond c x y ihx ihy=>
   intro X s r a w B c₀ cs ex s' r' Q h hS hR hQ
   simp only [z6g] at h
   split at h
   · rename_i hc
     exact wpS_cond (z1F.1 (z0Q hS.tmps hc)) (by simpa using ihx X s r a w B c₀ cs ex s' r' Q h hS hR hQ)
   · rename_i hc
     exact wpS_cond (z1F.1 (z0Q hS.tmps hc)) (by simpa using ihy X s r a w B c₀ cs ex s' r' Q h hS hR hQ)
   · cases h
 | block id c ihc=>
   intro X s r a w B c₀ cs ex s' r' Q h hS hR hQ
   simp only [z6g] at h
   refine zLR ?_
   split at h
   · rename_i j s1 r1 hc
     cases h
     refine ihc X s r a w B c₀ cs (.exit j) _ _ _ hc hS hR fun e a' cs' w' he=>?_
     obtain ⟨h1,h2,B',h3,h4,h5,u',h6,h7⟩:=he
     cases e with
     | exit j'=>
       have hx:j=j':=h5
       subst hx
       simp only
       refine hQ _ _ _ _ ⟨h1,h2,B',h3,h4,?_,u',h6,h7⟩
       by_cases hj:j=id
       · rw [if_pos hj,if_pos hj];trivial
       · rw [if_neg hj,if_neg hj];rfl
     | _=>exact h5.elim
   · rename_i hne
     refine ihc X s r a w B c₀ cs ex s' r' _ h hS hR fun e a' cs' w' he=>?_
     have h2:=hQ e a' cs' w' he
     cases e with
     | exit j=>
       obtain ⟨_,_,_,_,_,hx,_⟩:=he
       cases ex with
       | exit i=>exact absurd h (hne i s' r')
       | _=>exact hx.elim
     | _=>exact h2
 | _=>
   intro X s r a w B c₀ cs ex s' r' Q h
   simp [z6g] at h
def z9K (Y:Nat→Prop) (w:World) (B:BMap):Mode→FrameMode→Prop
 | .ret,u=>u=.returning
 | .panic v,u=>∃ v',u=.panicking [{ v:=v',recovered:=false }]∧VRel Y w B v v'
theorem DRel.nil_iff {Y:Nat→Prop} {w:World} {B:BMap} {m:List Deferred} (h:DRel Y w B [] m):m=[]:=by
 cases m with
 | nil=>rfl
 | cons _ _=>exact h.elim
theorem z9l {Y:Nat→Prop} {w:World} {B:BMap} {args:List AVal} {vs:Array Value} (h:VRelL Y w B args vs.toList) (n:Nat):
    VRelL Y w B (args++List.replicate (n - args.length) (.tuple [])) (vs++Array.replicate (n - vs.size) undef).toList:=by
 have hl:args.length=vs.size:=by simpa using z0O h
 rw [Array.toList_append,Array.toList_replicate,hl]
 exact VRelL_append h (VRelL_replicate tuple0 _)
theorem z5m (hE:EnvOk E P) {fn:Func} {tmps:Array Value} {R:Ending→World→Prop} {ro:Nat} {m':Mode} {H':Heap}:∀ (ds:List (Nat × List AVal)) (m:Mode) (H:Heap) (dv:List Deferred) (u:FrameMode) (w:World) (B:BMap),
    unwind E ds m H ro=some (m',H')→HRel B X w H→DRel (avoid X B) w B ds dv→z9K (avoid X B) w B m u →
    (∀ w' B' u',HRel B' X w' H'→Evo ro B X w B' w'→z9K (avoid X B') w' B' m' u'→Leaves P fn tmps R [] u' w')→Leaves P fn tmps R dv u w
 | [],m,H,dv,u,w,B,h,hH,hD,hM,hQ=>by
   simp only [unwind,Option.some.injEq,Prod.mk.injEq] at h
   obtain ⟨rfl,rfl⟩:=h
   rw [hD.nil_iff]
   exact hQ w B u hH (.refl _ _ _ _) hM
 | (f,args) :: ds,m,H,dv,u,w,B,h,hH,hD,hM,hQ=>by
   cases dv with
   | nil=>exact hD.elim
   | cons d dv=>
     obtain ⟨⟨cap,hd1,hd2⟩,hD'⟩:=hD
     simp only [unwind] at h
     split at h
     · cases h
     · rename_i fn1 hf
       split at h
       · cases h
       · rename_i c hb
         have hu:u ≠ .run:=by
          cases m with
          | ret=>have hM:u=.returning:=hM;rw [hM];simp
          | panic v=>obtain ⟨v',hM,_⟩:=hM;rw [hM];simp
         obtain ⟨dt,da⟩:=d
         simp only at hd1 hd2
         subst hd1
         refine leaves_cons (f:=f) (args:=da++cap) hu (by simpa [invoke] using z8e hE hf hb (da++cap) w) ?_
         have hrec:RecRel (avoid X B) w B (zSo m) u:=by
          cases m with
          | ret=>exact hM
          | panic v=>exact hM
         obtain ⟨hfn,_⟩:=hE.fn f fn1 hf
         have rest:∀ (e:Exit) (a':Act) (c₀:Frame) (cs cs':List Frame) (w':World) (s1:St) (r1:Rec) (ex:Ex),(ex=.normal ∨ ex=.ret) →
             (match resultsOf E s1 fn1.results.toList with | none=>none | some _=>unwind E ds (zKX r1) s1.H ro)=some (m',H') →
             ExOkD X ⟨args++List.replicate (fn1.ntmps - args.length) (.tuple []),H,[],ro,[]⟩ B w c₀ cs ex s1 r1 e a' cs' w' →
             bodyPostS P fn1 c₀ cs (fun | .returned _,u',w'=>Leaves P fn tmps R dv (settle u') w' | .panicked chain,u',w'=>Leaves P fn tmps R dv (raised u' chain) w' | .outgrown,_,w'=>R .outgrown w') e a' cs' w':=by
          intro e a' c₀ cs cs' w' s1 r1 ex hex h hx
          obtain ⟨h1,h2,B',h3,h4,h5,u',h6,h7⟩:=hx
          split at h
          · cases h
          · rename_i vs hvs
            obtain ⟨v,hv,_⟩:=z7g hE h3.heap h3.tmps hvs
            have hdn:a'.defers=[]:=by
             have:=h3.defs
             rw [h2] at this
             exact this.nil_iff
            have hD2:DRel (avoid X B') w' B' ds dv:=hD'.last h4.lasts h4.ble
            have hM2:z9K (avoid X B') w' B' (zKX r1) (settle u'):=by
             cases r1 with
             | idle=>have h7:u'=.returning:=h7;rw [h7];rfl
             | active v=>obtain ⟨v',h8,h9⟩:=h7;rw [h8];exact ⟨v',rfl,h9⟩
             | done=>obtain ⟨v',h8⟩:=h7;rw [h8];rfl
            have hL:Leaves P fn tmps R dv (settle u') w':=z5m hE ds _ _ dv _ w' B' h h3.heap hD2 hM2 fun w2 B2 u2 k1 k2 k3=>hQ w2 B2 u2 k1 (h4.trans k2) k3
            rcases hex with rfl | rfl
            · cases e with
              | normal=>exact ⟨hdn,u',h6,v,hv,hL⟩
              | _=>exact h5.elim
            · cases e with
              | ret=>exact ⟨hdn,u',h6,v,hv,hL⟩
              | _=>exact h5.elim
         refine callsD_of_wpS hfn hb fun c₀ cs hc₀=>?_
         split at h
         · rename_i s1 r1 hx
           refine z9h hE c X _ _ _ w B c₀ cs _ s1 r1 _ hx ⟨hH,z9l hd2 _,trivial⟩ (by rw [hc₀];exact hrec) fun e a' cs' w' he=>?_
           exact rest e a' c₀ cs cs' w' s1 r1 .normal (.inl rfl) h he
         · rename_i s1 r1 hx
           refine z9h hE c X _ _ _ w B c₀ cs _ s1 r1 _ hx ⟨hH,z9l hd2 _,trivial⟩ (by rw [hc₀];exact hrec) fun e a' cs' w' he=>?_
           exact rest e a' c₀ cs cs' w' s1 r1 .ret (.inr rfl) h he
         · cases h
theorem zKv (hE:EnvOk E P) {ex:Code→St→Option (Ex × St)} (hok:∀ f fn c,E.fns f=some fn→fn.body=some c→zOg P ex c):zIp P (runF E ex):=by
 intro f args H ro r H' h X B w vs hH hvs
 unfold runF at h
 split at h
 · cases h
 · rename_i fn hf
   split at h
   · cases h
   · rename_i c hb
     refine ⟨z8e hE hf hb vs w,?_⟩
     obtain ⟨hfn,_⟩:=hE.fn f fn hf
     refine calls_of_wp_defers hfn hb ?_
     split at h
     · cases h
     · cases h
     · rename_i e1 s1 hno hx
       refine hok f fn c hf hb X _ _ w B e1 s1 _ hx ⟨hH,z9l hvs _,trivial⟩ fun e a' w' he=>?_
       obtain ⟨h1,B',h2,h3,h4⟩:=he
       have h1:s1.ro=ro:=h1
       split at h
       · cases h
       · rename_i v H1 hu
         cases h
         have key:∀ (u:FrameMode),z9K (avoid X B') w' B' (modeEx e1) u→Leaves P fn a'.tmps (z8z X ro B w H' (.panic v)) a'.defers u w':=by
          intro u hM
          refine z5m hE s1.defers _ s1.H a'.defers u w' B' hu h2.heap h2.defs hM fun w2 B2 u2 k1 k2 k3=>?_
          obtain ⟨v',rfl,k4⟩:=k3
          exact ⟨B2,k1,h3.trans k2,v',rfl,k4⟩
         cases e1 with
         | normal=>cases e with
           | normal=>exact key _ rfl
           | _=>exact h4.elim
         | ret=>cases e with
           | ret=>exact key _ rfl
           | _=>exact h4.elim
         | panic v0=>cases e with
           | panic ch=>obtain ⟨v',rfl,h5⟩:=h4;exact key _ ⟨v',rfl,h5⟩
           | _=>exact h4.elim
         | exit id=>exact (hno id rfl).elim
       · rename_i H1 hu
         split at h
         · rename_i vals hvals
           cases h
           have key:∀ (u:FrameMode),z9K (avoid X B') w' B' (modeEx e1) u→Leaves P fn a'.tmps (z8z X ro B w H' (.ret (one vals))) a'.defers u w':=by
            intro u hM
            refine z5m hE s1.defers _ s1.H a'.defers u w' B' hu h2.heap h2.defs hM fun w2 B2 u2 k1 k2 k3=>?_
            have k3:u2=.returning:=k3
            subst k3
            obtain ⟨v,k4,k5⟩:=z7g (s:={ s1 with H:=H' }) hE k1 (VRelL.last k2.lasts k2.ble h2.tmps) hvals
            exact ⟨v,k4,B2,k1,h3.trans k2,k5⟩
           cases e1 with
           | normal=>cases e with
             | normal=>exact key _ rfl
             | _=>exact h4.elim
           | ret=>cases e with
             | ret=>exact key _ rfl
             | _=>exact h4.elim
           | panic v0=>cases e with
             | panic ch=>obtain ⟨v',rfl,h5⟩:=h4;exact key _ ⟨v',rfl,h5⟩
             | _=>exact h4.elim
           | exit id=>exact (hno id rfl).elim
         · cases h
def zLX (E:Env):Prop:=∀ f fn c,E.fns f=some fn→fn.body=some c→z2t c=true
theorem zBT (hE:EnvOk E P) (hA:zLX E):∀ n,(∀ c,z2t c=true→zOg P (exec E n) c)∧(∀ c,z2t c=true→zOh P (fun c s=>exec E n (.loop c) s) c)
 | 0=>by
   refine ⟨fun c _ X s a w B ex s' Q h=>?_,fun c _ X s a w B ex s' Q h=>?_⟩
   · simp [exec] at h
   · simp [exec] at h
 | n+1=>by
   obtain ⟨ih1,ih2⟩:=zBT hE hA n
   have hrun:zIp P (runF E (exec E n)):=zKv hE fun f fn c hf hb=>ih1 c (hA f fn c hf hb)
   have hC:z9F P (callF E (runF E (exec E n))):=zLv hrun
   have hL:z5F (callF E (runF E (exec E n))):=zEy
   have hLoop:∀ c,z2t c=true→zOh P (fun b s=>match exec E n b s with
       | some (.normal,s')=>exec E n (.loop b) (trunc s.H.length s')
       | r=>r) c:=by
    intro c hok X s a w B ex s' Q h hS hQ
    refine .round ?_
    simp only at h
    split at h
    · rename_i s1 hc
      refine ih1 c hok X s a w B .normal s1 _ hc hS fun e a' w' he=>?_
      obtain ⟨rfl,hro,B',hS',hEv⟩:=he.normal
      obtain ⟨B2,k1,k2,k3⟩:=zFz (s0:=s) hS.heap.dom hS' hEv
      refine ih2 c hok X _ a' w' B2 ex s' Q h k1 fun e2 a2 w2 h2=>hQ e2 a2 w2 ?_
      rw [k3,hro] at h2
      exact h2.trans k2
    · rename_i hne
      refine ih1 c hok X s a w B ex s' _ h hS (zLF (fun e=>?_) hQ)
      subst e
      exact hne _ h
   refine ⟨fun c hok=>?_,fun c hok=>?_⟩
   · exact z2B hE hC hL hLoop c hok
   · intro X s a w B ex s' Q h hS hQ
     exact hLoop c hok X s a w B ex s' Q h hS hQ
theorem zQM (hE:EnvOk E P) (hA:zLX E) (n:Nat):zIp P (runN E n):=by
 have:=zKv hE (ex:=exec E n) fun f fn c hf hb=>(zBT hE hA n).1 c (hA f fn c hf hb)
 exact this
end
def zSt:TyD→Bool
 | .bool | .int _ | .string=>true
 | _=>false
def zEM (P:Program) (t:Nat) (d:TyD):Bool:=zSt d && (match P.underlying t with | some k=>decide (tyd k=d) | none=>false)
def z8g (P:Program):Nat→List Field→List TyD→Bool
 | _,[],[]=>true
 | n,f :: fs,d :: ds=>f.name != "_" && f.offset == n && zEM P f.type d && z8g P (n+1) fs ds
 | _,_,_=>false
def EqTy.chk (P:Program) (q:EqTy):Bool:=!P.eqGuardType P.depth q.t && match P.underlying q.t with
 | some (.struct fs)=>q.agg && z8g P 0 fs.toList q.ds && !P.stoodInHeld q.t
 | some (.array n e)=>q.agg && (match q.ds with | d :: _=>zEM P e d && decide (q.ds=List.replicate n d) && P.cellsOf e == 1 | []=>false)
 | some _=>!q.agg && (match q.ds with | [d]=>zEM P q.t d | _=>false)
 | none=>false
section
variable {P:Program} {Y:Nat→Prop} {B:BMap} {w:World}
theorem z2d {t:Nat} {d:TyD} (h:zEM P t d=true):P.plainKey t=true∧∃ k,P.underlying t=some k∧tyd k=d:=by
 unfold zEM at h
 simp only [Bool.and_eq_true] at h
 obtain ⟨h1,h2⟩:=h
 split at h2
 · rename_i k hk
   have h2:=of_decide_eq_true h2
   refine ⟨?_,k,hk,h2⟩
   unfold Program.plainKey
   rw [hk]
   subst h2
   cases k <;> simp_all [tyd,zSt]
 · cases h2
theorem z5P {t:Nat} {d:TyD} (h:zEM P t d=true) (dd:Nat) {x y:AVal} {xv yv:Value} {b:Bool} (hs:scal d x=true) (hx:VRel Y w B x xv) (hy:VRel Y w B y yv) (he:eqv x y=some b):
    (Op.equalIn (dd+1) t xv yv).run P w=.ok b w:=by
 obtain ⟨_,k,hk,rfl⟩:=z2d h
 cases x <;> cases y <;> simp only [eqv] at he <;> first
  | (cases he;done)
  | skip
 · simp only [VRel] at hx hy;subst hx;subst hy
   simp only [Option.some.injEq] at he;subst he
   cases k <;> simp [tyd,scal] at hs
   exact run_equalIn_bool w dd t _ _ hk
 · simp only [VRel] at hx hy;subst hx;subst hy
   split at he
   · rename_i hkk;subst hkk
     simp only [Option.some.injEq] at he;subst he
     cases k <;> simp [tyd,scal] at hs
     subst hs
     rw [run_equalIn_int w dd t _ _ _ _ hk]
     congr 1
   · cases he
 · simp only [VRel] at hx hy;subst hx;subst hy
   simp only [Option.some.injEq] at he;subst he
   cases k <;> simp [tyd,scal] at hs
   rw [run_equalIn_string w dd t _ _ hk]
   simp [ByteArray.toList_eq]
 · cases k <;> simp [tyd,scal] at hs
theorem z79 (dd:Nat) {xs ys:Array Value}:∀ (fs:List Field) (ds:List TyD) (n:Nat) (as bs:List AVal) (b:Bool),z8g P n fs ds=true→z3Z ds as=true→eqvL as bs=some b →
    VRelL Y w B as (xs.toList.drop n)→VRelL Y w B bs (ys.toList.drop n)→(Op.eqFields (dd+1) xs ys fs).run P w=.ok b w
 | [],[],n,as,bs,b,_,hs,he,_,_=>by
   cases as with
   | nil=>cases bs with
     | nil=>simp only [eqvL,Option.some.injEq] at he;subst he;simp [Op.eqFields]
     | cons _ _=>simp [eqvL] at he
   | cons _ _=>simp [z3Z] at hs
 | f :: fs,d :: ds,n,as,bs,b,hf,hs,he,ha,hb=>by
   simp only [z8g,Bool.and_eq_true,bne_iff_ne,ne_eq,beq_iff_eq] at hf
   obtain ⟨⟨⟨hn,ho⟩,ht⟩,hr⟩:=hf
   cases as with
   | nil=>simp [z3Z] at hs
   | cons a as=>
     cases bs with
     | nil=>simp [eqvL] at he
     | cons c bs=>
       simp only [z3Z,Bool.and_eq_true] at hs
       simp only [eqvL] at he
       split at he
       · rename_i x y h1 h2
         simp only [Option.some.injEq] at he;subst he
         obtain ⟨v,vs,e1,g1,g2⟩:=z05.1 ha
         obtain ⟨u,us,e2,g3,g4⟩:=z05.1 hb
         have k1:xs[f.offset]?=some v:=by
          have:=congrArg (·[0]?) e1
          rw [ho];simpa [List.getElem?_drop] using this
         have k2:ys[f.offset]?=some u:=by
          have:=congrArg (·[0]?) e2
          rw [ho];simpa [List.getElem?_drop] using this
         have l1:xs.toList.drop (n+1)=vs:=by
          have:=congrArg (List.drop 1) e1
          simpa [List.drop_drop,Nat.add_comm] using this
         have l2:ys.toList.drop (n+1)=us:=by
          have:=congrArg (List.drop 1) e2
          simpa [List.drop_drop,Nat.add_comm] using this
         have hp:=(z2d ht).1
         have hq:=z5P ht dd hs.1 g1 g3 h1
         have ih:=z79 dd fs ds (n+1) as bs y hr hs.2 h2 (by rw [l1];exact g2) (by rw [l2];exact g4)
         simp only [Op.eqFields,hn,ne_eq,not_false_eq_true,if_true,Sem.run_bind,run_part_plain w hp k1,run_part_plain w hp k2,hq,Result.andThen_ok]
         cases x
         · simp
         · simpa using ih
       · cases he
 | [],_ :: _,_,_,_,_,hf,_,_,_,_=>by simp [z8g] at hf
 | _ :: _,[],_,_,_,_,hf,_,_,_,_=>by simp [z8g] at hf
theorem z8f (dd:Nat) {e:Nat} {d:TyD} (ht:zEM P e d=true) (hc:P.cellsOf e=1) {xs ys:Array Value}:∀ (m n:Nat) (as bs:List AVal) (b:Bool),z3Z (List.replicate m d) as=true→eqvL as bs=some b →
    VRelL Y w B as (xs.toList.drop n)→VRelL Y w B bs (ys.toList.drop n)→(Op.eqItems (dd+1) e (P.cellsOf e) xs ys (List.range' n m)).run P w=.ok b w
 | 0,n,as,bs,b,hs,he,_,_=>by
   cases as with
   | nil=>cases bs with
     | nil=>simp only [eqvL,Option.some.injEq] at he;subst he;simp [Op.eqItems]
     | cons _ _=>simp [eqvL] at he
   | cons _ _=>simp [z3Z] at hs
 | m+1,n,as,bs,b,hs,he,ha,hb=>by
   rw [List.replicate_succ] at hs
   cases as with
   | nil=>simp [z3Z] at hs
   | cons a as=>
     cases bs with
     | nil=>simp [eqvL] at he
     | cons c bs=>
       simp only [z3Z,Bool.and_eq_true] at hs
       simp only [eqvL] at he
       split at he
       · rename_i x y h1 h2
         simp only [Option.some.injEq] at he;subst he
         obtain ⟨v,vs,e1,g1,g2⟩:=z05.1 ha
         obtain ⟨u,us,e2,g3,g4⟩:=z05.1 hb
         have k1:xs[n * P.cellsOf e]?=some v:=by
          have:=congrArg (·[0]?) e1
          rw [hc,Nat.mul_one];simpa [List.getElem?_drop] using this
         have k2:ys[n * P.cellsOf e]?=some u:=by
          have:=congrArg (·[0]?) e2
          rw [hc,Nat.mul_one];simpa [List.getElem?_drop] using this
         have l1:xs.toList.drop (n+1)=vs:=by
          have:=congrArg (List.drop 1) e1
          simpa [List.drop_drop,Nat.add_comm] using this
         have l2:ys.toList.drop (n+1)=us:=by
          have:=congrArg (List.drop 1) e2
          simpa [List.drop_drop,Nat.add_comm] using this
         have hp:=(z2d ht).1
         have hq:=z5P ht dd hs.1 g1 g3 h1
         have ih:=z8f dd ht hc m (n+1) as bs y hs.2 h2 (by rw [l1];exact g2) (by rw [l2];exact g4)
         simp only [List.range'_succ,Op.eqItems,Sem.run_bind,run_part_plain w hp k1,run_part_plain w hp k2,hq,Result.andThen_ok]
         cases x
         · simp
         · simpa using ih
       · cases he
theorem z4q {t:Nat} {d:TyD} (h:zEM P t d=true) (dd:Nat) (e:Bool) {x:AVal} {xv:Value} (hs:scal d x=true) (hx:VRel Y w B x xv):(Instr.checkKey e (dd+1) t xv).run P w=.ok () w:=by
 obtain ⟨_,k,hk,rfl⟩:=z2d h
 cases x <;> cases k <;> simp [tyd,scal] at hs <;> (simp only [VRel] at hx;subst hx;simp [Instr.checkKey,z0G hk])
theorem EqTy.ok {q:EqTy} (h:q.chk P=true):EqOk P q:=by
 obtain ⟨t,ag,ds⟩:=q
 unfold EqTy.chk at h
 simp only [Bool.and_eq_true,Bool.not_eq_true'] at h
 obtain ⟨hg,h⟩:=h
 split at h
 · rename_i fs hu
   simp only [Bool.and_eq_true,Bool.not_eq_true'] at h
   obtain ⟨⟨ha,hf⟩,hp⟩:=h
   subst ha
   refine ⟨⟨_,hu⟩,fun Y w B x y xv yv b hx1 hx hy he=>?_,hg,fun Y w B x xv e hx1 hx=>?_⟩
   · cases x <;> simp [EqTy.fits] at hx1
     rename_i xs
     cases y <;> simp only [eqv] at he <;> first
      | (cases he;done)
      | skip
     rename_i ys
     simp only [VRel] at hx hy
     obtain ⟨xa,rfl,h1,_⟩:=hx
     obtain ⟨ya,rfl,h2,_⟩:=hy
     have hfo:P.fieldsOf t=fs:=by simp [Program.fieldsOf,hu]
     have hu':P.underlying t=some (.struct (P.fieldsOf t)):=by rw [hfo];exact hu
     unfold Op.equal
     show (Op.equalIn (9999+1) t _ _).run P w=_
     rw [run_equalIn_struct w 9999 t xa ya hu' hp,hfo]
     exact z79 9998 fs.toList ds 0 xs ys b hf hx1 he (by simpa using h1) (by simpa using h2)
   · cases x <;> simp [EqTy.fits] at hx1
     rename_i xs
     simp only [VRel] at hx
     obtain ⟨xa,rfl,h1,hone⟩:=hx
     clear hone
     show (Instr.checkKey e (9999+1) t _).run P w=_
     rw [Instr.checkKey]
     simp only [Sem.run_bind,z0G hu,Result.andThen_ok]
     rw [← Array.forIn_toList]
     have h1':VRelL Y w B xs (xa.toList.drop 0):=by simpa using h1
     generalize fs.toList=L at hf
     generalize 0=n at hf h1'
     clear h1 hu
     induction L generalizing n ds xs with
     | nil=>simp
     | cons f L ih=>
       cases ds with
       | nil=>simp [z8g] at hf
       | cons d ds=>
         simp only [z8g,Bool.and_eq_true,bne_iff_ne,ne_eq,beq_iff_eq] at hf
         obtain ⟨⟨⟨hn,ho⟩,ht⟩,hr⟩:=hf
         cases xs with
         | nil=>simp [z3Z] at hx1
         | cons a as=>
           simp only [z3Z,Bool.and_eq_true] at hx1
           obtain ⟨v,vs,e1,g1,g2⟩:=z05.1 h1'
           have k1:xa[f.offset]?=some v:=by
            have:=congrArg (·[0]?) e1
            rw [ho];simpa [List.getElem?_drop] using this
           have l1:xa.toList.drop (n+1)=vs:=by
            have:=congrArg (List.drop 1) e1
            simpa [List.drop_drop,Nat.add_comm] using this
           have hp:=(z2d ht).1
           have hq:=z4q ht 9998 e hx1.1 g1
           simp only [List.forIn_cons,Sem.run_bind,hn,ne_eq,not_false_eq_true,if_true,Result.andThen_ok,run_part_plain w hp k1,hq,Sem.run_pure]
           exact ih ds as hx1.2 (n+1) hr (by rw [l1];exact g2)
 · rename_i n e hu
   simp only [Bool.and_eq_true] at h
   obtain ⟨ha,h⟩:=h
   subst ha
   split at h
   · rename_i d ds'
     simp only [Bool.and_eq_true,decide_eq_true_eq,beq_iff_eq] at h
     obtain ⟨⟨ht,hd⟩,hc⟩:=h
     obtain ⟨k,hk⟩:=(z2d ht).2
     obtain ⟨i,hi⟩:=info_of_underlying hk.1
     refine ⟨⟨_,hu⟩,fun Y w B x y xv yv b hx1 hx hy he=>?_,hg,fun Y w B x xv em hx1 hx=>?_⟩
     · cases x <;> simp [EqTy.fits] at hx1
       rename_i xs
       cases y <;> simp only [eqv] at he <;> first
        | (cases he;done)
        | skip
       rename_i ys
       simp only [VRel] at hx hy
       obtain ⟨xa,rfl,h1,_⟩:=hx
       obtain ⟨ya,rfl,h2,_⟩:=hy
       unfold Op.equal
       show (Op.equalIn (9999+1) t _ _).run P w=_
       rw [run_equalIn_array w 9999 xa ya hu hi,List.range_eq_range']
       rw [hd] at hx1
       exact z8f 9998 ht hc n 0 xs ys b hx1 he (by simpa using h1) (by simpa using h2)
     · cases x <;> simp [EqTy.fits] at hx1
       rename_i xs
       simp only [VRel] at hx
       obtain ⟨xa,rfl,h1,hone⟩:=hx
       clear hone
       show (Instr.checkKey em (9999+1) t _).run P w=_
       rw [Instr.checkKey]
       simp only [Sem.run_bind,z0G hu,Result.andThen_ok]
       simp only [Std.Legacy.Range.forIn_eq_forIn_range',Std.Legacy.Range.size,Nat.sub_zero,Nat.add_one_sub_one,Nat.div_one]
       rw [hd] at hx1
       have hp:=(z2d ht).1
       have h1':VRelL Y w B xs (xa.toList.drop 0):=by simpa using h1
       generalize 0=i0 at h1' ⊢
       clear h1 hu hd
       induction n generalizing i0 xs with
       | zero=>simp
       | succ m ih=>
         rw [List.replicate_succ] at hx1
         cases xs with
         | nil=>simp [z3Z] at hx1
         | cons a as=>
           simp only [z3Z,Bool.and_eq_true] at hx1
           obtain ⟨v,vs,e1,g1,g2⟩:=z05.1 h1'
           have k1:xa[i0 * P.cellsOf e]?=some v:=by
            have:=congrArg (·[0]?) e1
            rw [hc,Nat.mul_one];simpa [List.getElem?_drop] using this
           have l1:xa.toList.drop (i0+1)=vs:=by
            have:=congrArg (List.drop 1) e1
            simpa [List.drop_drop,Nat.add_comm] using this
           have hq:=z4q ht 9998 em hx1.1 g1
           simp only [List.range'_succ,List.forIn_cons,Sem.run_bind,run_sizeOf w hi,Result.andThen_ok,run_part_plain w hp k1,hq,Sem.run_pure]
           exact ih as hx1.2 (i0+1) (by rw [l1];exact g2)
   · cases h
 · rename_i k hu
   simp only [Bool.and_eq_true,Bool.not_eq_true'] at h
   obtain ⟨ha,h⟩:=h
   subst ha
   split at h
   · rename_i d
     refine ⟨⟨_,hu⟩,fun Y w B x y xv yv b hx1 hx hy he=>?_,hg,fun Y w B x xv em hx1 hx=>?_⟩
     · have hs:scal d x=true:=by cases x <;> simp_all [EqTy.fits,z3Z]
       exact z5P h 9999 hs hx hy he
     · have hs:scal d x=true:=by cases x <;> simp_all [EqTy.fits,z3Z]
       exact z4q h 9999 em hs hx
   · cases h
 · cases h
def zHM:AVal→Value→Bool
 | .bool a,.bool b=>a == b
 | .int k n,.int k' n'=>decide (k=k') && decide (n=n')
 | .str l,.string s=>l == s.data.toList
 | .nilptr,.pointer none=>true
 | .lit true 0 [],.slice none 0 0=>true
 | .nilmap,.map none=>true
 | .nilfunc,.nilFunc=>true
 | .niliface,.nilIface=>true
 | .undef,v=>v.oneCell'
 | .tuple [],.tuple ⟨[]⟩=>true
 | _,_=>false
def z8b:List AVal→List Value→Bool
 | [],[]=>true
 | a :: as,v :: vs=>a.oneC && zHM a v && z8b as vs
 | _,_=>false
def zDB (a:AVal) (v:Value):Bool:=match a,v with
 | .agg cs,.agg vs=>z8b cs vs.toList
 | a,v=>zHM a v
theorem zC2 {a:AVal} {v:Value} (h:zHM a v=true):VRel Y w B a v:=by
 unfold zHM at h
 split at h
 · simp only [VRel];simp at h;rw [h]
 · simp only [VRel];simp at h;rw [h.1,h.2]
 · rename_i l s
   simp only [VRel];simp at h;obtain ⟨⟨s⟩⟩:=s;simp at h;rw [h]
 · simp [VRel]
 · simp only [VRel];exact ⟨none,0,rfl,by simp,by simp,by simp,by simp,by simp⟩
 · simp [VRel]
 · simp [VRel]
 · simp [VRel]
 · simp only [VRel];exact h
 · exact tuple0
 · cases h
theorem zAl:∀ (as:List AVal) (vs:List Value),z8b as vs=true→VRelL Y w B as vs∧∀ c ∈ as,c.oneC=true
 | [],[],_=>⟨z0N,by simp⟩
 | a :: as,v :: vs,h=>by
   simp only [z8b,Bool.and_eq_true] at h
   obtain ⟨h1,h2⟩:=zAl as vs h.2
   refine ⟨z0D.2 ⟨zC2 h.1.2,h1⟩,?_⟩
   intro c hc
   rcases List.mem_cons.1 hc with rfl | hc
   · exact h.1.1
   · exact h2 c hc
 | [],_ :: _,h=>by simp [z8b] at h
 | _ :: _,[],h=>by simp [z8b] at h
theorem zAm {a:AVal} {v:Value} (h:zDB a v=true):VRel Y w B a v:=by
 unfold zDB at h
 split at h
 · obtain ⟨h1,h2⟩:=zAl (Y:=Y) (w:=w) (B:=B) _ _ h
   simp only [VRel]
   exact ⟨_,rfl,h1,h2⟩
 · exact zC2 h
def z8c:List AVal→List Value→Bool
 | [],[]=>true
 | a :: as,v :: vs=>zDB a v && z8c as vs
 | _,_=>false
theorem zAn:∀ (as:List AVal) (vs:List Value),z8c as vs=true→VRelL Y w B as vs
 | [],[],_=>z0N
 | a :: as,v :: vs,h=>by
   simp only [z8c,Bool.and_eq_true] at h
   exact z0D.2 ⟨zAm h.1,zAn as vs h.2⟩
 | [],_ :: _,h=>by simp [z8c] at h
 | _ :: _,[],h=>by simp [z8c] at h
def zG7 (a:AVal) (v:Value):Bool:=match a,v with
 | .tuple cs,.tuple vs=>z8c cs vs.toList
 | a,v=>zDB a v
theorem zG8 {a:AVal} {v:Value} (h:zG7 a v=true):VRel Y w B a v:=by
 unfold zG7 at h
 split at h
 · simp only [VRel]
   exact ⟨_,rfl,zAn _ _ h⟩
 · exact zAm h
def zQb (P:Program) (t:Nat) (ti:TI):Bool:=match P.info? t,P.underlying t with
 | some info,some d=>decide (tyd d=ti.d) && info.size == ti.sz && info.bytes == ti.bytes && (match info.zero with | some z=>zG7 ti.zero z | none=>false)
 | _,_=>false
theorem zNa {t:Nat} {ti:TI} (h:zQb P t ti=true):∃ info d z,TOk P t ti info d z:=by
 unfold zQb at h
 split at h
 · rename_i info d hi hd
   simp only [Bool.and_eq_true,decide_eq_true_eq,beq_iff_eq] at h
   obtain ⟨⟨⟨h1,h2⟩,h3⟩,h4⟩:=h
   split at h4
   · rename_i z hz
     exact ⟨info,d,z,hi,hd,h1,h2,h3,hz,fun _ _ _=>zG8 h4⟩
   · cases h4
 · cases h
def zHK (P:Program):Nat→List TI→Bool
 | _,[]=>true
 | n,ti :: l=>zQb P n ti && zHK P (n+1) l
theorem zEh:∀ {l:List TI} {n:Nat},zHK P n l=true→∀ (i:Nat) (ti:TI),l[i]?=some ti→∃ info d z,TOk P (n+i) ti info d z
 | ti0 :: l,n,h,i,ti,hi=>by
   simp only [zHK,Bool.and_eq_true] at h
   cases i with
   | zero=>simp at hi;subst hi;exact zNa h.1
   | succ i=>
     have:=zEh h.2 i ti (by simpa using hi)
     rwa [show n+1+i=n+(i+1) by omega] at this
 | [],_,_,_,_,hi=>by simp at hi
end
abbrev RunT:=Nat→List AVal→Heap→Nat→Option (CRes × Heap)
abbrev CallT:=Nat→List AVal→Nat→Heap→Nat→Option (CRes × Out)
abbrev ExT:=Code→St→Option (Ex × St)
def zRb (r r':RunT):Prop:=∀ f args H ro x,r f args H ro=some x→r' f args H ro=some x
def z9E (c c':CallT):Prop:=∀ f args ro H nx x,c f args ro H nx=some x→c' f args ro H nx=some x
def ExLe (e e':ExT):Prop:=∀ c s x,e c s=some x→e' c s=some x
section
variable {E:Env}
def keepOf (h:Hint) (k:Nat) (H':Heap):List Nat:=if h.keepAll then List.range' k (H'.length - k) else uniq (h.keep.filter (fun j=>decide (k≤j) && decide (j < H'.length)))
def backF (nx:Nat) (fp keep:List Nat) (id:Nat):Option Nat:=if id < fp.length then fp[id]? else (idx keep id).map (nx+·)
def callUpd (h:Hint) (nx:Nat) (fp keep:List Nat) (H':Heap) (kept:List Blk):Ups:=(if h.ro then [] else fp.zip ((H'.take fp.length).map (renB (backF nx fp keep))))++numbered nx (kept.map (renB (backF nx fp keep)))
def callBack (h:Hint) (ro nx:Nat) (fp lent:List Nat) (x:CRes × Heap):Option (CRes × Out):=
 match getAll x.2 (keepOf h fp.length x.2) with
 | none=>none
 | some kept=>match x.1 with
   | .panic v=>if lent.all fun id=>decide (ro≤id) then some (.panic (v.ren (backF nx fp (keepOf h fp.length x.2))),.ups (callUpd h nx fp (keepOf h fp.length x.2) x.2 kept++lent.map (·,.dead))) else none
   | .ret v=>match handBack x.2 fp.length (keepOf h fp.length x.2) 4 v with
     | none=>none
     | some v=>
       if lent.isEmpty || (v.noLit && kept.all litFree && (h.ro || (x.2.take fp.length).all litFree)) then some (.ret (v.ren (backF nx fp (keepOf h fp.length x.2))),.ups (callUpd h nx fp (keepOf h fp.length x.2) x.2 kept))
       else if lent.all fun id=>decide (ro≤id) then some (.ret (v.ren (backF nx fp (keepOf h fp.length x.2))),.ups (callUpd h nx fp (keepOf h fp.length x.2) x.2 kept++lent.map (·,.dead))) else none
theorem zEz {f:Nat} (h:(E.hint f).whole=true) (run:RunT) (args:List AVal) (ro:Nat) (H:Heap) (nx:Nat):callF E run f args ro H nx=(run f args H ro).bind fun x=>some (x.1,.whole x.2):=by
 unfold callF
 simp only [h,if_true]
 cases run f args H ro <;> rfl
theorem callF_small {f:Nat} (h:(E.hint f).whole=false) (run:RunT) (args:List AVal) (ro:Nat) (H:Heap) (nx:Nat):callF E run f args ro H nx=match lend H (E.hint f).lits args 0 with
    | none=>none
    | some (as,lent)=>match reach H fuel0 (refsL as) [] with
      | none=>none
      | some fp=>match getAll H fp with
        | none=>none
        | some bs=>if !(lent.all fun id=>!fp.contains id) || (!(E.hint f).ro && !(fp.all fun id=>decide (ro≤id))) then none else
          (run f (renL (idx fp) as) (bs.map (renB (idx fp))) (if (E.hint f).ro then fp.length else 0)).bind (callBack (E.hint f) ro nx fp lent):=by
 unfold callF
 simp only [h,Bool.false_eq_true,if_false]
 cases lend H (E.hint f).lits args 0 with
 | none=>rfl
 | some p=>
   obtain ⟨as,lent⟩:=p
   simp only
   cases reach H fuel0 (refsL as) [] with
   | none=>rfl
   | some fp=>
     simp only
     cases getAll H fp with
     | none=>rfl
     | some bs=>
       simp only
       split
       · rfl
       · cases run f (renL (idx fp) as) (bs.map (renB (idx fp))) (if (E.hint f).ro then fp.length else 0) with
         | none=>rfl
         | some x=>rfl
theorem z9S (f:Nat) (args:List AVal) (ro:Nat) (H:Heap) (nx:Nat):
    (∀ run:RunT,callF E run f args ro H nx=none) ∨ ∃ a' H' ro',∃ G:CRes × Heap→Option (CRes × Out),∀ run:RunT,callF E run f args ro H nx=(run f a' H' ro').bind G:=by
 cases hw:(E.hint f).whole with
 | true=>exact .inr ⟨args,H,ro,_,fun run=>zEz hw run args ro H nx⟩
 | false=>
   simp only [callF_small hw]
   cases lend H (E.hint f).lits args 0 with
   | none=>exact .inl fun _=>rfl
   | some p=>
     obtain ⟨as,lent⟩:=p
     simp only
     cases reach H fuel0 (refsL as) [] with
     | none=>exact .inl fun _=>rfl
     | some fp=>
       simp only
       cases getAll H fp with
       | none=>exact .inl fun _=>rfl
       | some bs=>
         simp only
         split
         · exact .inl fun _=>rfl
         · exact .inr ⟨_,_,_,_,fun run=>rfl⟩
theorem z84 {r r':RunT} (h:zRb r r'):z9E (callF E r) (callF E r'):=by
 intro f args ro H nx x hx
 rcases z9S (E:=E) f args ro H nx with h0 | ⟨a',H',ro',G,h0⟩
 · rw [h0] at hx;cases hx
 · rw [h0] at hx ⊢
   obtain ⟨y,h1,h2⟩:=Option.bind_eq_some_iff.1 hx
   rw [h _ _ _ _ _ h1];exact h2
theorem z2G {c c':CallT} (h:z9E c c') (all:Array Oper):∀ (os:List Oper) (s:St) (x:Ex × St),z1E E c all os s=some x→z1E E c' all os s=some x
 | [],_,_,hx=>hx
 | o :: os,s,x,hx=>by
   simp only [z1E] at hx ⊢
   split at hx
   · cases hx
   · exact z2G h all os _ _ hx
   · split at hx
     · cases hx
     · exact z2G h all os _ _ hx
     · exact hx
     · exact z2G h all os _ _ hx
     · rename_i f args _
       cases hc:c f args s.ro s.H s.H.length with
       | none=>simp [hc] at hx
       | some y=>
         rw [h _ _ _ _ _ _ hc]
         rw [hc] at hx
         obtain ⟨r,o'⟩:=y
         cases r <;> cases o' <;> simp only at hx ⊢
         · exact z2G h all os _ _ hx
         · exact z2G h all os _ _ hx
         · exact hx
         · exact hx
theorem z3H {c c':CallT} (h:z9E c c') (all:Array Oper):∀ (os:List Oper) (i:Nat) (s:St) (x:St × List Foot),z19 E c all i os s=some x→z19 E c' all i os s=some x
 | [],_,_,_,hx=>hx
 | o :: os,i,s,x,hx=>by
   simp only [z19] at hx ⊢
   split at hx
   · cases hx
   · exact z3H h all os _ _ _ hx
   · split at hx
     · split at hx
       · rename_i hc
         simp only [hc,if_true] 
         split at hx
         · rename_i hd
           rw [z3H h all os _ _ _ hd];exact hx
         · cases hx
       · cases hx
     · rename_i f args _
       cases hc:c f args s.ro s.H s.H.length with
       | none=>simp [hc] at hx
       | some y=>
         rw [h _ _ _ _ _ _ hc]
         rw [hc] at hx
         obtain ⟨r,o'⟩:=y
         cases r <;> cases o' <;> (try simp only at hx ⊢) <;> first
          | (cases hx;done)
          | skip
         split at hx
         · rename_i heq1 heq2
           cases heq1
           (try simp only [heq2])
           split at hx
           · rename_i hcs
             simp only [hcs,if_true]
             split at hx
             · rename_i hd
               rw [z3H h all os _ _ _ hd];exact hx
             · cases hx
           · cases hx
         · cases hx
     · cases hx
theorem zAy {c c':CallT} (h:z9E c c') (all:Array Oper) (draw:Bool) (s:St) (x:Ex × St) (hx:z20 E c all draw s=some x):z20 E c' all draw s=some x:=by
 unfold z20 at hx ⊢
 cases draw with
 | false=>exact z2G h all _ _ _ hx
 | true=>
   simp only [if_true] at hx ⊢
   split at hx
   · rename_i hd
     rw [z3H h all _ _ _ _ hd];exact hx
   · cases hx
theorem z5w {c c':CallT} (h:z9E c c') {L L':ExT} (hL:ExLe L L'):∀ (k:Code),∀ (s:St) (x:Ex × St),z1t E c L k s=some x→z1t E c' L' k s=some x:=by
 intro k
 induction k with
 | region id ops draw=>intro s x hx;exact zAy h ops draw s x hx
 | seq a b iha ihb=>
   intro s x hx
   simp only [z1t] at hx ⊢
   split at hx
   · rename_i s' ha
     rw [iha _ _ ha];exact ihb _ _ hx
   · rename_i hne
     rw [iha _ _ hx]
     obtain ⟨e,s'⟩:=x
     cases e <;> first
      | rfl
      | exact absurd hx (hne s')
 | cond cc a b iha ihb=>
   intro s x hx
   simp only [z1t] at hx ⊢
   split at hx
   · exact iha _ _ hx
   · exact ihb _ _ hx
   · cases hx
 | block id b ihb=>
   intro s x hx
   simp only [z1t] at hx ⊢
   split at hx
   · rename_i j s' hb
     rw [ihb _ _ hb];exact hx
   · rename_i hne
     rw [ihb _ _ hx]
     obtain ⟨e,s'⟩:=x
     cases e <;> first
      | rfl
      | exact absurd hx (hne _ s')
 | loop b=>intro s x hx;simp only [z1t] at hx ⊢;exact hL _ _ _ hx
 | _=>intro s x hx;simpa only [z1t] using hx
theorem z5h {e e':ExT} (h:ExLe e e'):zRb (runF E e) (runF E e'):=by
 intro f args H ro x hx
 unfold runF at hx ⊢
 split at hx
 · cases hx
 · rename_i fn hf
   split at hx
   · cases hx
   · rename_i c hb
     split at hx
     · cases hx
     · cases hx
     · rename_i e1 s1 hne he
       rw [h _ _ _ he]
       cases e1 with
       | exit id=>exact (hne id rfl).elim
       | _=>exact hx
theorem zBS:∀ n,ExLe (exec E n) (exec E (n+1))
 | 0=>by intro c s x hx;simp [exec] at hx
 | n+1=>by
   have ih:=zBS n
   intro c s x hx
   have h1:z9E (callF E (runF E (exec E n))) (callF E (runF E (exec E (n+1)))):=z84 (z5h ih)
   show z1t E _ _ c s=some x
   refine z5w h1 (fun b s x hx=>?_) c s x hx
   split at hx
   · rename_i s' hb
     rw [ih _ _ _ hb];exact ih _ _ _ hx
   · rename_i hne
     rw [ih _ _ _ hx]
     obtain ⟨e,s'⟩:=x
     cases e <;> first
      | rfl
      | exact absurd hx (hne s')
theorem z3J {n m:Nat} (h:n≤m):ExLe (exec E n) (exec E m):=by
 induction h with
 | refl=>intro c s x hx;exact hx
 | step _ ih=>intro c s x hx;exact zBS _ _ _ _ (ih _ _ _ hx)
noncomputable def lim {α:Type} (g:Nat→Option α):Option α:=by
 classical exact if h:∃ n a,g n=some a then some h.choose_spec.choose else none
theorem zMc {α:Type} {g:Nat→Option α} (hm:∀ n m a,n≤m→g n=some a→g m=some a) {a:α}:lim g=some a ↔ ∃ n,g n=some a:=by
 unfold lim
 constructor
 · intro h
   split at h
   · rename_i hx
     cases h
     exact ⟨_,hx.choose_spec.choose_spec⟩
   · cases h
 · rintro ⟨n,hn⟩
   have hx:∃ n a,g n=some a:=⟨n,a,hn⟩
   rw [dif_pos hx]
   have h1:=hm _ (max n hx.choose) _ (Nat.le_max_right _ _) hx.choose_spec.choose_spec
   have h2:=hm _ (max n hx.choose) _ (Nat.le_max_left _ _) hn
   rw [h1] at h2
   exact h2
noncomputable def execT (E:Env):ExT:=fun c s=>lim fun n=>exec E n c s
theorem z1j {c:Code} {s:St} {x:Ex × St}:execT E c s=some x ↔ ∃ n,exec E n c s=some x:=
 zMc fun _ _ _ h=>z3J h _ _ _
noncomputable def runT (E:Env):RunT:=runF E (execT E)
theorem runT_some {f:Nat} {args:List AVal} {H:Heap} {ro:Nat} {x:CRes × Heap}:runT E f args H ro=some x ↔ ∃ n,runN E n f args H ro=some x:=by
 constructor
 · intro h
   unfold runT runF at h
   cases hf:E.fns f with
   | none=>simp [hf] at h
   | some fn=>
     cases hb:fn.body with
     | none=>simp [hf,hb] at h
     | some c=>
       simp only [hf,hb] at h
       cases he:execT E c ⟨args++List.replicate (fn.ntmps - args.length) (.tuple []),H,[],ro,(E.hint f).virt⟩ with
       | none=>simp [he] at h
       | some y=>
         obtain ⟨n,hn⟩:=z1j.1 he
         refine ⟨n,?_⟩
         unfold runN runF
         simp only [hf,hb,hn]
         rw [he] at h
         exact h
 · rintro ⟨n,hn⟩
   exact z5h (e:=exec E n) (fun c s x h=>z1j.2 ⟨n,h⟩) _ _ _ _ _ hn
noncomputable abbrev callT (E:Env):CallT:=callF E (runT E)
theorem zHY {f:Nat} {args:List AVal} {ro:Nat} {H:Heap} {nx:Nat} {x:CRes × Out} (h:callT E f args ro H nx=some x):∃ n,∀ m,n≤m→callF E (runN E m) f args ro H nx=some x:=by
 rcases z9S (E:=E) f args ro H nx with h0 | ⟨a',H',ro',G,h0⟩
 · rw [callT,h0] at h;cases h
 · rw [callT,h0] at h
   obtain ⟨y,h1,h2⟩:=Option.bind_eq_some_iff.1 h
   obtain ⟨n,hn⟩:=runT_some.1 h1
   refine ⟨n,fun m hm=>?_⟩
   rw [h0]
   rw [show runN E m f a' H' ro'=some y from z5h (z3J hm) _ _ _ _ _ hn]
   exact h2
structure Grows (cs:Nat→CallT) (c:CallT):Prop where
 mono:∀ n m,n≤m→z9E (cs n) (cs m)
 lim:∀ f args ro H nx x,c f args ro H nx=some x→∃ n,cs n f args ro H nx=some x
theorem z37 {cs:Nat→CallT} {c:CallT} (h:Grows cs c) (all:Array Oper):∀ (os:List Oper) (s:St) (x:Ex × St),z1E E c all os s=some x→∃ n,z1E E (cs n) all os s=some x
 | [],_,_,hx=>⟨0,hx⟩
 | o :: os,s,x,hx=>by
   simp only [z1E] at hx ⊢
   split at hx
   · cases hx
   · exact z37 h all os _ _ hx
   · split at hx
     · cases hx
     · exact z37 h all os _ _ hx
     · exact ⟨0,hx⟩
     · exact z37 h all os _ _ hx
     · rename_i f args _
       cases hc:c f args s.ro s.H s.H.length with
       | none=>simp [hc] at hx
       | some y=>
         obtain ⟨n,hn⟩:=h.lim _ _ _ _ _ _ hc
         rw [hc] at hx
         obtain ⟨r,o'⟩:=y
         cases r <;> cases o' <;> simp only at hx
         · obtain ⟨m,hm⟩:=z37 h all os _ _ hx
           refine ⟨max n m,?_⟩
           rw [h.mono _ _ (Nat.le_max_left n m) _ _ _ _ _ _ hn]
           exact z2G (h.mono _ _ (Nat.le_max_right n m)) all os _ _ hm
         · obtain ⟨m,hm⟩:=z37 h all os _ _ hx
           refine ⟨max n m,?_⟩
           rw [h.mono _ _ (Nat.le_max_left n m) _ _ _ _ _ _ hn]
           exact z2G (h.mono _ _ (Nat.le_max_right n m)) all os _ _ hm
         · exact ⟨n,by rw [hn];exact hx⟩
         · exact ⟨n,by rw [hn];exact hx⟩
theorem z48 {cs:Nat→CallT} {c:CallT} (h:Grows cs c) (all:Array Oper):∀ (os:List Oper) (i:Nat) (s:St) (x:St × List Foot),z19 E c all i os s=some x→∃ n,z19 E (cs n) all i os s=some x
 | [],_,_,_,hx=>⟨0,hx⟩
 | o :: os,i,s,x,hx=>by
   simp only [z19] at hx ⊢
   split at hx
   · cases hx
   · exact z48 h all os _ _ _ hx
   · split at hx
     · split at hx
       · rename_i hc
         simp only [hc,if_true]
         split at hx
         · rename_i hd
           obtain ⟨n,hn⟩:=z48 h all os _ _ _ hd
           exact ⟨n,by rw [hn];exact hx⟩
         · cases hx
       · cases hx
     · rename_i f args _
       cases hc:c f args s.ro s.H s.H.length with
       | none=>simp [hc] at hx
       | some y=>
         obtain ⟨n,hn⟩:=h.lim _ _ _ _ _ _ hc
         rw [hc] at hx
         obtain ⟨r,o'⟩:=y
         cases r <;> cases o' <;> (try simp only at hx) <;> first
          | (cases hx;done)
          | skip
         split at hx
         · rename_i heq1 heq2
           cases heq1
           (try simp only [heq2])
           split at hx
           · rename_i hcs
             split at hx
             · rename_i hd
               obtain ⟨m,hm⟩:=z48 h all os _ _ _ hd
               refine ⟨max n m,?_⟩
               rw [h.mono _ _ (Nat.le_max_left n m) _ _ _ _ _ _ hn]
               simp only [hcs,if_true]
               rw [z3H (h.mono _ _ (Nat.le_max_right n m)) all os _ _ _ hm];exact hx
             · cases hx
           · cases hx
         · cases hx
     · cases hx
theorem zAx {cs:Nat→CallT} {c:CallT} (h:Grows cs c) (all:Array Oper) (draw:Bool) (s:St) (x:Ex × St) (hx:z20 E c all draw s=some x):∃ n,z20 E (cs n) all draw s=some x:=by
 unfold z20 at hx ⊢
 cases draw with
 | false=>exact z37 h all _ _ _ hx
 | true=>
   simp only [if_true] at hx ⊢
   split at hx
   · rename_i hd
     obtain ⟨n,hn⟩:=z48 h all _ _ _ _ hd
     exact ⟨n,by rw [hn];exact hx⟩
   · cases hx
theorem zHr {cs:Nat→CallT} {c:CallT} (h:Grows cs c) {Ls:Nat→ExT} {L:ExT} (hLm:∀ n m,n≤m→ExLe (Ls n) (Ls m)) (hL:∀ k s x,L k s=some x→∃ n,Ls n k s=some x):
    ∀ (k:Code),∀ (s:St) (x:Ex × St),z1t E c L k s=some x→∃ n,z1t E (cs n) (Ls n) k s=some x:=by
 intro k
 induction k with
 | region id ops draw=>intro s x hx;exact zAx h ops draw s x hx
 | seq a b iha ihb=>
   intro s x hx
   simp only [z1t] at hx ⊢
   split at hx
   · rename_i s' ha
     obtain ⟨n,hn⟩:=iha _ _ ha
     obtain ⟨m,hm⟩:=ihb _ _ hx
     refine ⟨max n m,?_⟩
     rw [z5w (h.mono _ _ (Nat.le_max_left n m)) (hLm _ _ (Nat.le_max_left n m)) a _ _ hn]
     exact z5w (h.mono _ _ (Nat.le_max_right n m)) (hLm _ _ (Nat.le_max_right n m)) b _ _ hm
   · rename_i hne
     obtain ⟨n,hn⟩:=iha _ _ hx
     refine ⟨n,?_⟩
     rw [hn]
     obtain ⟨e,s'⟩:=x
     cases e <;> first
      | rfl
      | exact absurd hx (hne s')
 | cond cc a b iha ihb=>
   intro s x hx
   simp only [z1t] at hx ⊢
   split at hx
   · exact iha _ _ hx
   · exact ihb _ _ hx
   · cases hx
 | block id b ihb=>
   intro s x hx
   simp only [z1t] at hx ⊢
   split at hx
   · rename_i j s' hb
     obtain ⟨n,hn⟩:=ihb _ _ hb
     exact ⟨n,by rw [hn];exact hx⟩
   · rename_i hne
     obtain ⟨n,hn⟩:=ihb _ _ hx
     refine ⟨n,?_⟩
     rw [hn]
     obtain ⟨e,s'⟩:=x
     cases e <;> first
      | rfl
      | exact absurd hx (hne _ s')
 | loop b=>intro s x hx;simp only [z1t] at hx ⊢;exact hL _ _ _ hx
 | _=>intro s x hx;exact ⟨0,by simpa only [z1t] using hx⟩
noncomputable def zFN (E:Env):ExT:=fun b s=>match execT E b s with
 | some (.normal,s')=>execT E (.loop b) (trunc s.H.length s')
 | r=>r
theorem z2u (c:Code) (s:St):execT E c s=z1t E (callT E) (zFN E) c s:=by
 have hstep:∀ n,∀ c s x,exec E (n+1) c s=some x→z1t E (callT E) (zFN E) c s=some x:=by
  intro n c s x hx
  refine z5w (c:=callF E (runF E (exec E n))) (z84 (z5h fun c s x h=>z1j.2 ⟨n,h⟩)) (fun b s x hx=>?_) c s x hx
  unfold zFN
  split at hx
  · rename_i s' hb
    rw [z1j.2 ⟨n,hb⟩]
    exact z1j.2 ⟨n,hx⟩
  · rename_i hne
    rw [z1j.2 ⟨n,hx⟩]
    obtain ⟨e,s'⟩:=x
    cases e <;> first
     | rfl
     | exact absurd hx (hne s')
 have hg:Grows (fun n=>callF E (runF E (exec E n))) (callT E):=by
  refine ⟨fun n m h=>z84 (z5h (z3J h)),fun f args ro H nx x hx=>?_⟩
  obtain ⟨n,hn⟩:=zHY hx
  exact ⟨n,hn n (Nat.le_refl _)⟩
 have hback:∀ x,z1t E (callT E) (zFN E) c s=some x→execT E c s=some x:=by
  intro x hx
  obtain ⟨n,hn⟩:=zHr hg (Ls:=fun n b s=>match exec E n b s with
   | some (.normal,s')=>exec E n (.loop b) (trunc s.H.length s')
   | r=>r) (fun n m h b s x hx=>by
     simp only at hx ⊢
     split at hx
     · rename_i s' hb
       rw [z3J h _ _ _ hb];exact z3J h _ _ _ hx
     · rename_i hne
       rw [z3J h _ _ _ hx]
       obtain ⟨e,s'⟩:=x
       cases e <;> first
        | rfl
        | exact absurd hx (hne s')) (fun b s x hx=>by
     unfold zFN at hx
     split at hx
     · rename_i s' hb
       obtain ⟨n,hn⟩:=z1j.1 hb
       obtain ⟨m,hm⟩:=z1j.1 hx
       refine ⟨max n m,?_⟩
       rw [z3J (Nat.le_max_left n m) _ _ _ hn]
       exact z3J (Nat.le_max_right n m) _ _ _ hm
     · rename_i hne
       obtain ⟨n,hn⟩:=z1j.1 hx
       refine ⟨n,?_⟩
       rw [hn]
       obtain ⟨e,s'⟩:=x
       cases e <;> first
        | rfl
        | exact absurd hx (hne s')) c s x hx
  exact z1j.2 ⟨n+1,hn⟩
 cases hx:execT E c s with
 | some x=>
   obtain ⟨n,hn⟩:=z1j.1 hx
   cases n with
   | zero=>simp [exec] at hn
   | succ n=>exact (hstep n c s x hn).symm
 | none=>
   cases hy:z1t E (callT E) (zFN E) c s with
   | none=>rfl
   | some y=>rw [hback y hy] at hx;cases hx
theorem zHv (s:St):execT E .skip s=some (.normal,s):=by rw [z2u];rfl
theorem zDc (id:Nat) (ops:Array Oper) (draw:Bool) (s:St):execT E (.region id ops draw) s=z20 E (callT E) ops draw s:=by rw [z2u];rfl
theorem zJu (a b:Code) (s:St):execT E (.seq a b) s=match execT E a s with
    | some (.normal,s')=>execT E b s'
    | r=>r:=by
 rw [z2u]
 simp only [z1t,← z2u]
 rfl
theorem zHs (c:Operand) (a b:Code) (s:St):execT E (.cond c a b) s=match s.eval c with
    | some (.bool true)=>execT E a s
    | some (.bool false)=>execT E b s
    | _=>none:=by
 rw [z2u]
 simp only [z1t,← z2u]
 rfl
theorem zFC (id:Nat) (c:Code) (s:St):execT E (.block id c) s=match execT E c s with
    | some (.exit j,s')=>some (if j=id then (.normal,s') else (.exit j,s'))
    | r=>r:=by
 rw [z2u]
 simp only [z1t,← z2u]
 rfl
theorem zHu (c:Code) (s:St):execT E (.loop c) s=match execT E c s with
    | some (.normal,s')=>execT E (.loop c) (trunc s.H.length s')
    | r=>r:=by
 rw [z2u]
 simp only [z1t,zFN]
theorem zHt (id:Nat) (s:St):execT E (.exit id) s=some (.exit id,s):=by rw [z2u];rfl
theorem zJt (s:St):execT E .ret s=some (.ret,s):=by rw [z2u];rfl
theorem zQN {P:Program} (hE:EnvOk E P) (hA:zLX E):zIp P (runT E):=by
 intro f args H ro r H' h
 obtain ⟨n,hn⟩:=runT_some.1 h
 exact zQM hE hA n f args H ro r H' hn
end
def _root_.Go.Code.at:Code→List Nat→Code
 | c,[]=>c
 | .seq a _,0 :: l=>Code.at a l
 | .seq _ b,_ :: l=>Code.at b l
 | .cond _ a _,0 :: l=>Code.at a l
 | .cond _ _ b,_ :: l=>Code.at b l
 | .block _ c,_ :: l=>Code.at c l
 | .loop c,_ :: l=>Code.at c l
 | c,_=>c
def _root_.Go.Func.at (f:Func) (l:List Nat):Code:=(f.body.getD .skip).at l
section
variable {E:Env} {call:CallT}
@[go_sem] theorem zUH (all:Array Oper) (s:St):z20 E call all false s=z1E E call all all.toList s:=rfl
@[go_sem] theorem zUG (all:Array Oper) (s:St):z20 E call all true s=match z19 E call all 0 all.toList s with
    | some (s',l)=>if apart (Region.before all) l then some (.normal,s') else none
    | none=>none:=rfl
def z6U (all:Array Oper) (os:List Oper) (s:St) (dst:Option Nat):Option ORes→Option (Ex × St)
 | none=>none
 | some (.val v us)=>z1E E call all os ({ s with H:=putU s.H us }.put dst v)
 | some (.panic v)=>some (.panic v,s)
 | some (.defer f args)=>z1E E call all os ({ s with defers:=(f,args) :: s.defers }.put dst (.tuple []))
 | some (.call f args)=>match call f args s.ro s.H s.H.length with
   | none=>none
   | some (.ret v,.ups us)=>z1E E call all os ({ s with H:=putU s.H us }.put dst v)
   | some (.ret v,.whole H)=>z1E E call all os ({ s with H:=H }.put dst v)
   | some (.panic v,.ups us)=>some (.panic v,{ s with H:=putU s.H us })
   | some (.panic v,.whole H)=>some (.panic v,{ s with H:=H })
@[go_sem] theorem zV7 (all:Array Oper) (s:St):z1E E call all [] s=some (.normal,s):=rfl
@[go_sem] theorem zUA (all:Array Oper) (d:Option Nat) (op:Op) (ty:Nat) (p:String) (af:Array Edge) (os:List Oper) (s:St):
    z1E E call all (⟨d,op,ty,p,af,none⟩ :: os) s=z6U (E:=E) (call:=call) all os s d (stepOp E s.H.length s ⟨d,op,ty,p,af,none⟩):=by
 simp only [z1E,want]
 cases stepOp E s.H.length s ⟨d,op,ty,p,af,none⟩ with
 | none=>rfl
 | some r=>cases r <;> rfl
def zGl (all:Array Oper) (os:List Oper) (s:St) (o:Oper):Option Bool→Option (Ex × St)
 | none=>none
 | some false=>z1E E call all os (s.put o.dst (.tuple []))
 | some true=>z6U (E:=E) (call:=call) all os s o.dst (stepOp E s.H.length s o)
@[go_sem] theorem zO3 (all:Array Oper) (os:List Oper) (s:St) (o:Oper):zGl (E:=E) (call:=call) all os s o (some false)=z1E E call all os (s.put o.dst (.tuple [])):=rfl
@[go_sem] theorem zPb (all:Array Oper) (os:List Oper) (s:St) (o:Oper):zGl (E:=E) (call:=call) all os s o (some true)=z6U (E:=E) (call:=call) all os s o.dst (stepOp E s.H.length s o):=rfl
@[go_sem] theorem zSd (all:Array Oper) (d:Option Nat) (op:Op) (ty:Nat) (p:String) (af:Array Edge) (j:Nat) (b:Bool) (os:List Oper) (s:St):
    z1E E call all (⟨d,op,ty,p,af,some (j,b)⟩ :: os) s=zGl (E:=E) (call:=call) all os s ⟨d,op,ty,p,af,some (j,b)⟩ (want all s ⟨d,op,ty,p,af,some (j,b)⟩):=by
 simp only [z1E]
 cases want all s ⟨d,op,ty,p,af,some (j,b)⟩ with
 | none=>rfl
 | some w=>
   cases w with
   | false=>rfl
   | true=>
     simp only [zGl]
     cases stepOp E s.H.length s ⟨d,op,ty,p,af,some (j,b)⟩ with
     | none=>rfl
     | some r=>cases r <;> rfl
@[go_sem] theorem zRd (all:Array Oper) (os:List Oper) (s:St) (d:Option Nat) (v:AVal) (us:Ups):z6U (E:=E) (call:=call) all os s d (some (.val v us))=z1E E call all os ({ s with H:=putU s.H us }.put d v):=rfl
@[go_sem] theorem zOo (all:Array Oper) (os:List Oper) (s:St) (d:Option Nat) (v:AVal):z6U (E:=E) (call:=call) all os s d (some (.panic v))=some (.panic v,s):=rfl
@[go_sem] theorem zOn (all:Array Oper) (os:List Oper) (s:St) (d:Option Nat) (f:Nat) (args:List AVal):z6U (E:=E) (call:=call) all os s d (some (.defer f args))=z1E E call all os ({ s with defers:=(f,args) :: s.defers }.put d (.tuple [])):=rfl
def zHX (all:Array Oper) (os:List Oper) (s:St) (d:Option Nat):Option (CRes × Out)→Option (Ex × St)
 | none=>none
 | some (.ret v,.ups us)=>z1E E call all os ({ s with H:=putU s.H us }.put d v)
 | some (.ret v,.whole H)=>z1E E call all os ({ s with H:=H }.put d v)
 | some (.panic v,.ups us)=>some (.panic v,{ s with H:=putU s.H us })
 | some (.panic v,.whole H)=>some (.panic v,{ s with H:=H })
@[go_sem] theorem zQz (all:Array Oper) (os:List Oper) (s:St) (d:Option Nat):zHX (E:=E) (call:=call) all os s d none=none:=rfl
@[go_sem] theorem zRu (all:Array Oper) (os:List Oper) (s:St) (d:Option Nat) (v:AVal) (us:Ups):zHX (E:=E) (call:=call) all os s d (some (.ret v,.ups us))=z1E E call all os ({ s with H:=putU s.H us }.put d v):=rfl
@[go_sem] theorem zP4 (all:Array Oper) (os:List Oper) (s:St) (d:Option Nat) (v:AVal) (H:Heap):zHX (E:=E) (call:=call) all os s d (some (.ret v,.whole H))=z1E E call all os ({ s with H:=H }.put d v):=rfl
@[go_sem] theorem zP3 (all:Array Oper) (os:List Oper) (s:St) (d:Option Nat) (v:AVal) (us:Ups):zHX (E:=E) (call:=call) all os s d (some (.panic v,.ups us))=some (.panic v,{ s with H:=putU s.H us }):=rfl
@[go_sem] theorem zNs (all:Array Oper) (os:List Oper) (s:St) (d:Option Nat) (v:AVal) (H:Heap):zHX (E:=E) (call:=call) all os s d (some (.panic v,.whole H))=some (.panic v,{ s with H:=H }):=rfl
@[go_sem] theorem zQp (all:Array Oper) (os:List Oper) (s:St) (d:Option Nat) (f:Nat) (args:List AVal):z6U (E:=E) (call:=call) all os s d (some (.call f args))=zHX (E:=E) (call:=call) all os s d (call f args s.ro s.H s.H.length):=rfl
def z2q (all:Array Oper) (i:Nat) (os:List Oper) (s:St) (o:Oper):Option ORes→Option (St × List Foot)
 | some (.val v us)=>if consec s.H.length s.H.length us && (z1R s o).all (fun j=>decide (j < s.H.length)) then match z19 E call all (i+1) os ({ s with H:=putU s.H us }.put o.dst v) with
     | some (s',l)=>some (s',⟨i,z1R s o,us.map (·.1)⟩ :: l)
     | none=>none
   else none
 | some (.call f args)=>match call f args s.ro s.H s.H.length,looks s.H fuel0 (refsL args) [] with
   | some (.ret v,.ups us),some fp=>if consec s.H.length s.H.length us then match z19 E call all (i+1) os ({ s with H:=putU s.H us }.put o.dst v) with
       | some (s',l)=>some (s',⟨i,fp,us.map (·.1)⟩ :: l)
       | none=>none
     else none
   | _,_=>none
 | _=>none
@[go_sem] theorem zTq (all:Array Oper) (i:Nat) (s:St):z19 E call all i [] s=some (s,[]):=rfl
@[go_sem] theorem zSD (all:Array Oper) (i:Nat) (d:Option Nat) (op:Op) (ty:Nat) (p:String) (af:Array Edge) (os:List Oper) (s:St):
    z19 E call all i (⟨d,op,ty,p,af,none⟩ :: os) s=z2q (E:=E) (call:=call) all i os s ⟨d,op,ty,p,af,none⟩ (stepOp E s.H.length s ⟨d,op,ty,p,af,none⟩):=by
 simp only [z19,want]
 cases stepOp E s.H.length s ⟨d,op,ty,p,af,none⟩ with
 | none=>rfl
 | some r=>
   cases r with
   | call f args=>
     simp only [z2q] <;> rfl
   | _=>rfl
def zGk (all:Array Oper) (i:Nat) (os:List Oper) (s:St) (o:Oper):Option Bool→Option (St × List Foot)
 | none=>none
 | some false=>z19 E call all (i+1) os (s.put o.dst (.tuple []))
 | some true=>z2q (E:=E) (call:=call) all i os s o (stepOp E s.H.length s o)
@[go_sem] theorem zO2 (all:Array Oper) (i:Nat) (os:List Oper) (s:St) (o:Oper):zGk (E:=E) (call:=call) all i os s o (some false)=z19 E call all (i+1) os (s.put o.dst (.tuple [])):=rfl
@[go_sem] theorem zPa (all:Array Oper) (i:Nat) (os:List Oper) (s:St) (o:Oper):zGk (E:=E) (call:=call) all i os s o (some true)=z2q (E:=E) (call:=call) all i os s o (stepOp E s.H.length s o):=rfl
@[go_sem] theorem zR7 (all:Array Oper) (i:Nat) (d:Option Nat) (op:Op) (ty:Nat) (p:String) (af:Array Edge) (j:Nat) (b:Bool) (os:List Oper) (s:St):
    z19 E call all i (⟨d,op,ty,p,af,some (j,b)⟩ :: os) s=zGk (E:=E) (call:=call) all i os s ⟨d,op,ty,p,af,some (j,b)⟩ (want all s ⟨d,op,ty,p,af,some (j,b)⟩):=by
 simp only [z19]
 cases want all s ⟨d,op,ty,p,af,some (j,b)⟩ with
 | none=>rfl
 | some w=>
   cases w with
   | false=>rfl
   | true=>
     simp only [zGk]
     cases stepOp E s.H.length s ⟨d,op,ty,p,af,some (j,b)⟩ with
     | none=>rfl
     | some r=>
       cases r with
       | call f args=>simp only [z2q] <;> rfl
       | _=>rfl
def zK0 (f:Foot):Option (St × List Foot)→Option (St × List Foot)
 | some (s',l)=>some (s',f :: l)
 | none=>none
@[go_sem] theorem zRC (f:Foot) (s:St) (l:List Foot):zK0 f (some (s,l))=some (s,f :: l):=rfl
@[go_sem] theorem zTr (all:Array Oper) (i:Nat) (os:List Oper) (s:St) (o:Oper) (v:AVal) (us:Ups):z2q (E:=E) (call:=call) all i os s o (some (.val v us))=if consec s.H.length s.H.length us && (z1R s o).all (fun j=>decide (j < s.H.length)) then zK0 ⟨i,z1R s o,us.map (·.1)⟩ (z19 E call all (i+1) os ({ s with H:=putU s.H us }.put o.dst v)) else none:=by
 simp only [z2q,zK0] <;> rfl
def zSA (all:Array Oper) (i:Nat) (os:List Oper) (s:St) (o:Oper):Option (CRes × Out)→Option (List Nat)→Option (St × List Foot)
 | some (.ret v,.ups us),some fp=>if consec s.H.length s.H.length us then zK0 ⟨i,fp,us.map (·.1)⟩ (z19 E call all (i+1) os ({ s with H:=putU s.H us }.put o.dst v)) else none
 | _,_=>none
@[go_sem] theorem zSB (all:Array Oper) (i:Nat) (os:List Oper) (s:St) (o:Oper) (v:AVal) (us:Ups) (fp:List Nat):zSA (E:=E) (call:=call) all i os s o (some (.ret v,.ups us)) (some fp) =
    if consec s.H.length s.H.length us then zK0 ⟨i,fp,us.map (·.1)⟩ (z19 E call all (i+1) os ({ s with H:=putU s.H us }.put o.dst v)) else none:=rfl
@[go_sem] theorem zSC (all:Array Oper) (i:Nat) (os:List Oper) (s:St) (o:Oper) (f:Nat) (args:List AVal):z2q (E:=E) (call:=call) all i os s o (some (.call f args))=zSA (E:=E) (call:=call) all i os s o (call f args s.ro s.H s.H.length) (looks s.H fuel0 (refsL args) []):=by
 simp only [z2q]
 cases call f args s.ro s.H s.H.length with
 | none=>rfl
 | some x=>
   obtain ⟨r,o'⟩:=x
   cases looks s.H fuel0 (refsL args) [] <;> cases r <;> cases o' <;> rfl
end
section
variable {E:Env} {nx:Nat} {s:St} {d:Option Nat} {ty:Nat} {p:String} {af:Array Edge} {g:Option (Nat × Bool)}
def valO:Option AVal→Option ORes
 | some y=>some (.val y [])
 | none=>none
@[go_sem] theorem zTM (y:AVal):valO (some y)=some (.val y []):=rfl
theorem z27 (x:Option AVal):(x.map fun y=>ORes.val y [])=valO x:=by cases x <;> rfl
@[go_sem] theorem zV5 {x:Operand}:stepOp E nx s ⟨d,.move x,ty,p,af,g⟩=valO (s.eval x):=z27 _
@[go_sem] theorem zSb {x:Operand}:stepOp E nx s ⟨d,.assign x,ty,p,af,g⟩=if d.elim false s.virt.contains then (match s.eval x with
    | some (.lit true 0 [])=>some (.val (.ref nx 0 0 0 false) [(nx,.cells 0 0 false [])])
    | x=>valO x) else valO (s.eval x):=by
 simp only [stepOp]
 split
 · rename_i h
   rw [h]
   split <;> rfl
 · rename_i x' hne
   cases d.elim false s.virt.contains with
   | false=>simp only [Bool.false_eq_true,if_false];exact z27 _
   | true=>
     simp only [if_true]
     exact z27 _
@[go_sem] theorem zV4 {t:Nat} {x:Operand}:stepOp E nx s ⟨d,.load t x,ty,p,af,g⟩=match s.eval x with
    | some a=>valO (load E t a s.H)
    | none=>none:=by
 simp only [stepOp]
 cases s.eval x with
 | none=>rfl
 | some a=>exact z27 _
@[go_sem] theorem zU9 {t:Nat} {a x:Operand}:stepOp E nx s ⟨d,.store t a x,ty,p,af,g⟩=match s.eval a,s.eval x with
    | some a,some x=>(store E s.ro t a x s.H).map (.val (.tuple []))
    | _,_=>none:=rfl
@[go_sem] theorem zQ5 {x:Operand}:stepOp E nx s ⟨d,.nilCheck x,ty,p,af,g⟩=match s.eval x with
    | some (.ptr id g i f)=>some (.val (.ptr id g i f) [])
    | some (.lptr e f)=>some (.val (.lptr e f) [])
    | _=>none:=rfl
@[go_sem] theorem zVU {op:BinOp} {t:Nat} {x y:Operand} {u:Nat}:stepOp E nx s ⟨d,.binOp op t x y u,ty,p,af,g⟩=match E.ti t,s.eval x,s.eval y with
    | some ti,some a,some b=>match ti.d,y with
      | .iface,.const _=>valO (binOp E op t ti a b)
      | .iface,_=>none
      | _,_=>valO (binOp E op t ti a b)
    | _,_,_=>none:=by
 simp only [stepOp,z27] <;> rfl
@[go_sem] theorem zVY {op:UnOp} {t:Nat} {x:Operand}:stepOp E nx s ⟨d,.unOp op t x,ty,p,af,g⟩=match s.eval x with
    | some a=>valO (unOp op a)
    | none=>none:=by
 simp only [stepOp,z27] <;> rfl
@[go_sem] theorem zRH {a b:Nat} {x:Operand}:stepOp E nx s ⟨d,.convert a b x,ty,p,af,g⟩=match E.ti a,E.ti b,s.eval x with
    | some a,some b,some x=>valO (convert s.H a b (match a.d,b.d with | .slice e,_=>E.ti e | _,.slice e=>E.ti e | _,_=>none) x)
    | _,_,_=>none:=by
 simp only [stepOp,z27] <;> rfl
@[go_sem] theorem zU8 {t:Nat} {x:Operand} {lo hi mx:Option Operand}:stepOp E nx s ⟨d,.slice t x lo hi mx,ty,p,af,g⟩=match s.eval x,z5Q s lo,z5Q s hi,z5Q s mx with
    | some x,some lo,some hi,some mx=>valO (z0g E s.H t x lo hi mx)
    | _,_,_,_=>none:=by
 simp only [stepOp,z27] <;> rfl
@[go_sem] theorem zRI {x:Operand} {i:Nat}:stepOp E nx s ⟨d,.extract x i,ty,p,af,g⟩=match s.eval x with
    | some (.tuple vs)=>valO vs[i]?
    | _=>none:=by
 simp only [stepOp,z27] <;> rfl
@[go_sem] theorem zU3 {f:Operand} {args:Array Operand} {ats:Array Nat}:stepOp E nx s ⟨d,.call ⟨.value f,args,ats⟩,ty,p,af,g⟩=match z34 s args.toList with
    | some args=>(match s.eval f with
      | some (.func g first cap)=>some (.call g (first++args++cap))
      | _=>none)
    | none=>none:=by
 simp only [stepOp]
 cases z34 s args.toList with
 | none=>rfl
 | some a=>rfl
@[go_sem] theorem zRG {b:Builtin} {args:Array Operand} {ats:Array Nat}:stepOp E nx s ⟨d,.call ⟨.builtin b,args,ats⟩,ty,p,af,g⟩=match z34 s args.toList with
    | some args=>builtin E nx s b ats.toList args
    | none=>none:=by
 simp only [stepOp]
 cases z34 s args.toList with
 | none=>rfl
 | some a=>rfl
@[go_sem] theorem zOL {t:Nat} {x ix:Operand}:stepOp E nx s ⟨d,.indexAddr t x ix,ty,p,af,g⟩=match E.ti t,s.eval x,s.eval ix with
    | some ti,some x,some (.int _ n)=>(match ti.d,x with
      | .slice e,x=>match E.ti e with
        | some te=>if 0≤n then (match x with
          | .lit _ sz es=>if sz=te.sz then valO (es[n.toNat]?.map fun e=>.lptr e 0) else none
          | .ref id g i len _=>match s.H[id]? with
            | some (.cells g' sz _ _)=>if g'=g && sz=te.sz && decide (n < len) then some (.val (.ptr id g (i+n.toNat) 0) []) else none
            | _=>none
          | .view id g i f len=>if te.sz=1 && decide (n < len) then some (.val (.ptr id g i (f+n.toNat)) []) else none
          | _=>none) else none
        | none=>none
      | .array len e,x=>match E.ti e with
        | some te=>if 0≤n && decide (n < len) then (match x with
          | .ptr id g i f=>some (.val (.ptr id g i (f+n.toNat * te.sz)) [])
          | .lptr e f=>some (.val (.lptr e (f+n.toNat * te.sz)) [])
          | _=>none) else none
        | none=>none
      | _,_=>none)
    | _,_,_=>none:=by
 simp only [stepOp,z27] <;> rfl
@[go_sem] theorem zOK {t:Nat} {x:Operand} {f:Nat}:stepOp E nx s ⟨d,.fieldAddr t x f,ty,p,af,g⟩=match E.ti t,s.eval x with
    | some { d:=.struct fs,.. },some a=>match fs[f]? with
      | some (ft,off)=>match E.ti ft with
        | some fi=>if fi.sz=0 then none else (match a with
          | .ptr id g i o=>some (.val (.ptr id g i (o+off)) [])
          | .lptr e o=>some (.val (.lptr e (o+off)) [])
          | _=>none)
        | none=>none
      | none=>none
    | _,_=>none:=by
 simp only [stepOp,z27] <;> rfl
@[go_sem] theorem zU5 {t:Nat} {x:Operand} {f:Nat}:stepOp E nx s ⟨d,.field t x f,ty,p,af,g⟩=match E.ti t,s.eval x with
    | some { d:=.struct fs,.. },some (.agg cs)=>(match fs[f]? with
      | some (ft,off)=>(match E.ti ft with
        | some fi=>valO (part fi cs off)
        | none=>none)
      | none=>none)
    | _,_=>none:=by
 simp only [stepOp,z27] <;> rfl
@[go_sem] theorem zU6 {t:Nat} {x ix:Operand}:stepOp E nx s ⟨d,.index t x ix,ty,p,af,g⟩=match E.ti t,s.eval x,s.eval ix with
    | some ti,some x,some (.int _ n)=>(match ti.d,x with
      | .string,.str l=>if 0≤n then valO (l[n.toNat]?.map fun b=>.int .u8 b.toNat) else none
      | .array len e,.agg cs=>match E.ti e with
        | some te=>if 0≤n && decide (n < len) then valO (part te cs (n.toNat * te.sz)) else none
        | none=>none
      | _,_=>none)
    | _,_,_=>none:=by
 simp only [stepOp,z27] <;> rfl
@[go_sem] theorem zU2 {t:Nat} {ps:Array (Nat × Operand)}:stepOp E nx s ⟨d,.build t ps,ty,p,af,g⟩=match E.ti t,z7C s ps.toList with
    | some ti,some ps=>valO (build E ti ps)
    | _,_=>none:=by
 simp only [stepOp,z27] <;> rfl
@[go_sem] theorem zMn {t len:Nat} {ps:Array (Nat × Operand)}:stepOp E nx s ⟨d,.buildSlice t len ps,ty,p,af,g⟩=match E.ti t,z7C s ps.toList with
    | some ti,some ps=>if d.elim false s.virt.contains then (match ti.d,z3d E ti len ps with
        | .slice e,some (sz,es)=>if !z0r E 8 e || ps.all (fun p=>noRef p.2) then some (.val (.ref nx 0 0 es.length false) [(nx,z1Q E e sz es)]) else none
        | _,_=>none)
      else valO (buildSlice E ti len ps)
    | _,_=>none:=by
 simp only [stepOp,z27] <;> rfl
@[go_sem] theorem zU1 {t:Nat}:stepOp E nx s ⟨d,.alloc t,ty,p,af,g⟩=match E.ti t with
    | some ti=>if 0 < ti.sz && ti.zero.cellsOf.length=ti.sz && !ti.zero.isTuple && ti.zero.under 0 then
        if d.elim false s.virt.contains && !z0r E 8 t && (ti.agg || ti.sz == 1) then
         some (.val (.ptr (nx+(z0I nx ti.zero.cellsOf).2.length) 0 0 0) ((z0I nx ti.zero.cellsOf).2++[(nx+(z0I nx ti.zero.cellsOf).2.length,z1Q E t ti.sz [if ti.agg then .agg (z0I nx ti.zero.cellsOf).1 else (z0I nx ti.zero.cellsOf).1.headD .undef])]))
        else some (.val (.ptr nx 0 0 0) [(nx,z1Q E t ti.sz [ti.zero])])
      else none
    | none=>none:=rfl
@[go_sem] theorem zVV {t:Nat} {x:Operand}:stepOp E nx s ⟨d,.box t x,ty,p,af,g⟩=match E.ti t,s.eval x with
    | some ti,some y=>if 0 < ti.sz && y.cellsOf.length=ti.sz && !y.isTuple && (!z0r E 8 t || noRef y) then
        if d.elim false s.virt.contains && !z0r E 8 t && (ti.agg || ti.sz == 1) then
         some (.val (.ptr (nx+(z0I nx y.cellsOf).2.length) 0 0 0) ((z0I nx y.cellsOf).2++[(nx+(z0I nx y.cellsOf).2.length,z1Q E t ti.sz [if ti.agg then .agg (z0I nx y.cellsOf).1 else (z0I nx y.cellsOf).1.headD .undef])]))
        else some (.val (.ptr nx 0 0 0) [(nx,z1Q E t ti.sz [y])]) else none
    | _,_=>none:=rfl
@[go_sem] theorem zOM {t:Nat} {l c:Operand}:stepOp E nx s ⟨d,.makeSlice t l c,ty,p,af,g⟩=match E.ti t with
    | some { d:=.slice e,.. }=>match E.ti e,s.eval l,s.eval c with
      | some te,some (.int .i64 l),some (.int .i64 c)=>
        if l=c && 0≤l && l.toNat * (te.bytes+1)≤z04 && te.zero.cellsOf.length=te.sz && !te.zero.isTuple && te.zero.under 0 && 0 < te.sz then
         some (.val (.ref nx 0 0 l.toNat false) [(nx,z1Q E e te.sz (List.replicate l.toNat te.zero))])
        else none
      | _,_,_=>none
    | _=>none:=rfl
@[go_sem] theorem zQ4 {f:Nat} {first cap:Array Operand}:stepOp E nx s ⟨d,.makeFunc (.func f) first cap,ty,p,af,g⟩=match z34 s first.toList,z34 s cap.toList with
    | some a,some b=>some (.val (.func f a b) [])
    | _,_=>none:=rfl
@[go_sem] theorem zV6 {c a b:Operand}:stepOp E nx s ⟨d,.pick c a b,ty,p,af,g⟩=match s.eval c with
    | some (.bool true)=>valO (s.eval a)
    | some (.bool false)=>valO (s.eval b)
    | _=>none:=by
 simp only [stepOp,z27] <;> rfl
@[go_sem] theorem zSc {t:Nat} {m k:Operand} {ok:Bool}:stepOp E nx s ⟨d,.lookup t m k ok,ty,p,af,g⟩=match E.ti t,s.eval m,s.eval k with
    | some { d:=.map kt e,.. },some (.mapp id),some k=>(match E.ti e,s.H[id]? with
      | some te,some (.map es)=>if !E.keyOk kt k then none else match findKey k es 0 with
        | some (some (_,x))=>some (.val (if ok then .tuple [x,.bool true] else x) [])
        | some none=>some (.val (if ok then .tuple [te.zero,.bool false] else te.zero) [])
        | none=>none
      | _,_=>none)
    | _,_,_=>none:=by
 simp only [stepOp,z27,valO] <;> rfl
@[go_sem] theorem zON {t:Nat} {m k x:Operand}:stepOp E nx s ⟨d,.mapUpdate t m k x,ty,p,af,g⟩=match E.ti t,s.eval m,s.eval k,s.eval x with
    | some { d:=.map kt _,.. },some (.mapp id),some k,some x=>(match s.H[id]? with
      | some (.map es)=>if E.keyOk kt k && s.ro≤id && noRef x then match z7R k x es with
        | some es'=>some (.val (.tuple []) [(id,.map es')])
        | none=>none else none
      | _=>none)
    | _,_,_,_=>none:=rfl
@[go_sem] theorem zRJ {t:Nat}:stepOp E nx s ⟨d,.makeMap t none,ty,p,af,g⟩=some (.val (.mapp nx) [(nx,.map [])]):=rfl
@[go_sem] theorem zIi {t:Nat} {x:Operand}:stepOp E nx s ⟨d,.makeInterface t x,ty,p,af,g⟩=match E.ti t,s.eval x with
    | some ti,some y=>match ti.d with
      | .iface=>none
      | _=>some (.val (.iface t y) [])
    | _,_=>none:=rfl
@[go_sem] theorem zMo {x:Operand} {it t:Nat} {ok:Bool}:stepOp E nx s ⟨d,.typeAssert x it t ok,ty,p,af,g⟩=match E.ti t,s.eval x with
    | some ti,some (.iface u y)=>match ti.d with
      | .iface=>none
      | _=>if u=t then some (.val (if ok then .tuple [y,.bool true] else y) []) else if ok then some (.val (.tuple [ti.zero,.bool false]) []) else none
    | some ti,some .niliface=>match ti.d with
      | .iface=>none
      | _=>if ok then some (.val (.tuple [ti.zero,.bool false]) []) else none
    | _,_=>none:=by
 simp only [stepOp,z27,valO] <;> rfl
@[go_sem] theorem zU7 {x:Operand}:stepOp E nx s ⟨d,.panic x,ty,p,af,g⟩=match s.eval x with
    | some (.iface t y)=>some (.panic (.iface t y))
    | _=>none:=rfl
@[go_sem] theorem zU4 {f:Operand} {args:Array Operand} {ats:Array Nat}:stepOp E nx s ⟨d,.defer ⟨.value f,args,ats⟩,ty,p,af,g⟩=match z34 s args.toList with
    | some args=>(match s.eval f with
      | some (.func g first cap)=>some (.defer g (first++args++cap))
      | _=>none)
    | none=>none:=by
 simp only [stepOp]
 cases z34 s args.toList with
 | none=>rfl
 | some a=>rfl
@[go_sem] theorem zTt {t:Nat}:s.eval (.tmp t)=s.tmps[t]?:=rfl
@[go_sem] theorem zRA {v:Value}:s.eval (.const v)=ofV v:=rfl
@[go_sem] theorem zSK {f:Nat}:s.eval (.func f)=some (.func f [] []):=rfl
@[go_sem] theorem zTz {b:Bool}:ofV (.bool b)=some (.bool b):=rfl
@[go_sem] theorem zUz {k:IntKind} {n:Int}:ofV (.int k n)=some (.int k n):=rfl
@[go_sem] theorem zV3 {x:ByteArray}:ofV (.string x)=some (.str x.data.toList):=rfl
@[go_sem] theorem zV1:ofV (.slice none 0 0)=some (.lit true 0 []):=rfl
@[go_sem] theorem zV2:ofV (.pointer none)=some .nilptr:=rfl
@[go_sem] theorem zV0:ofV (.map none)=some .nilmap:=rfl
@[go_sem] theorem zU0:ofV .nilFunc=some .nilfunc:=rfl
@[go_sem] theorem zSZ:ofV .nilIface=some .niliface:=rfl
@[go_sem] theorem zUF {T:List AVal} {H:Heap} {D:List (Nat × List AVal)} {ro:Nat} {V:List Nat} {t:Nat} {v:AVal}:St.put ⟨T,H,D,ro,V⟩ (some t) v=⟨T.set t v,H,D,ro,V⟩:=rfl
@[go_sem] theorem zUE {v:AVal}:St.put s none v=s:=rfl
@[go_sem] theorem zSI:z34 s []=some []:=rfl
@[go_sem] theorem zR8 {x:Operand} {xs:List Operand}:z34 s (x :: xs)=match s.eval x,z34 s xs with
    | some v,some vs=>some (v :: vs)
    | _,_=>none:=rfl
@[go_sem] theorem zSJ:z7C s []=some []:=rfl
@[go_sem] theorem zR9 {i:Nat} {x:Operand} {xs:List (Nat × Operand)}:z7C s ((i,x) :: xs)=match s.eval x,z7C s xs with
    | some v,some vs=>some ((i,v) :: vs)
    | _,_=>none:=rfl
@[go_sem] theorem zHn:z5Q s none=some none:=rfl
@[go_sem] theorem zHo {x:Operand}:z5Q s (some x)=(s.eval x).map some:=rfl
@[go_sem] theorem zUC {H:Heap}:putU H []=H:=rfl
@[go_sem] theorem zRS {m:Nat} (h:s.H.length≤m):trunc m s=s:=by unfold trunc;rw [if_pos h]
end
section
variable {E:Env} {tn:Nat} {t:TI}
variable {k:IntKind} {a b:Int} {x y:List UInt8}
@[go_sem] theorem zUa:binOp E .add tn t (.int k a) (.int k b)=some (.int k (k.wrap (a+b))):=by simp [binOp]
@[go_sem] theorem zUn:binOp E .sub tn t (.int k a) (.int k b)=some (.int k (k.wrap (a - b))):=by simp [binOp]
@[go_sem] theorem zUh:binOp E .mul tn t (.int k a) (.int k b)=some (.int k (k.wrap (a * b))):=by simp [binOp]
@[go_sem] theorem zUj:binOp E .quo tn t (.int k a) (.int k b)=if b=0 then none else some (.int k (k.wrap (a.tdiv b))):=by simp [binOp]
@[go_sem] theorem zUk:binOp E .rem tn t (.int k a) (.int k b)=if b=0 then none else some (.int k (a.tmod b)):=by simp [binOp]
@[go_sem] theorem zUc:binOp E .eql tn t (.int k a) (.int k b)=some (.bool (decide (a=b))):=by simp [binOp];rfl
@[go_sem] theorem zUi:binOp E .neq tn t (.int k a) (.int k b)=some (.bool (!decide (a=b))):=by simp [binOp,bne];rfl
@[go_sem] theorem zUg:binOp E .lss tn t (.int k a) (.int k b)=some (.bool (decide (a < b))):=by simp [binOp]
@[go_sem] theorem zUf:binOp E .leq tn t (.int k a) (.int k b)=some (.bool (decide (a≤b))):=by simp [binOp]
@[go_sem] theorem zUe:binOp E .gtr tn t (.int k a) (.int k b)=some (.bool (decide (b < a))):=by simp [binOp]
@[go_sem] theorem zUd:binOp E .geq tn t (.int k a) (.int k b)=some (.bool (decide (b≤a))):=by simp [binOp]
@[go_sem] theorem zUb:binOp E .and tn t (.int k a) (.int k b)=some (.int k (k.wrap (BitVec.ofInt k.bits a &&& BitVec.ofInt k.bits b).toNat)):=by simp [binOp,bits]
@[go_sem] theorem zVQ:binOp E .or tn t (.int k a) (.int k b)=some (.int k (k.wrap (BitVec.ofInt k.bits a ||| BitVec.ofInt k.bits b).toNat)):=by simp [binOp,bits]
@[go_sem] theorem zUo:binOp E .xor tn t (.int k a) (.int k b)=some (.int k (k.wrap (BitVec.ofInt k.bits a ^^^ BitVec.ofInt k.bits b).toNat)):=by simp [binOp,bits]
@[go_sem] theorem zUl {k':IntKind}:binOp E .shl tn t (.int k a) (.int k' b)=if b < 0 then none else some (.int k (k.wrap (a * 2 ^ (min b.toNat k.bits)))):=rfl
@[go_sem] theorem zUm {k':IntKind}:binOp E .shr tn t (.int k a) (.int k' b)=if b < 0 then none else some (.int k (a.fdiv (2 ^ (min b.toNat k.bits)))):=rfl
@[go_sem] theorem zTc:binOp E .add tn t (.str x) (.str y)=if x.length+y.length≤z04 then some (.str (x++y)) else none:=rfl
@[go_sem] theorem zTd:binOp E .eql tn t (.str x) (.str y)=some (.bool (x == y)):=rfl
@[go_sem] theorem zTi:binOp E .neq tn t (.str x) (.str y)=some (.bool !(x == y)):=rfl
@[go_sem] theorem zTh:binOp E .lss tn t (.str x) (.str y)=some (.bool (bytesLess x y)):=rfl
@[go_sem] theorem zTg:binOp E .leq tn t (.str x) (.str y)=some (.bool (bytesLess x y || x == y)):=rfl
@[go_sem] theorem zTf:binOp E .gtr tn t (.str x) (.str y)=some (.bool !(bytesLess x y || x == y)):=rfl
@[go_sem] theorem zTe:binOp E .geq tn t (.str x) (.str y)=some (.bool !(bytesLess x y)):=rfl
@[go_sem] theorem zTZ {p q:Bool} {z:AVal} {n m:Nat}:binOp E .eql tn ⟨.bool,n,m,z⟩ (.bool p) (.bool q)=some (.bool (p == q)):=rfl
@[go_sem] theorem zTa {p q:Bool} {z:AVal} {n m:Nat}:binOp E .neq tn ⟨.bool,n,m,z⟩ (.bool p) (.bool q)=some (.bool !(p == q)):=rfl
@[go_sem] theorem zTX {p q:List AVal}:binOp E .eql tn t (.agg p) (.agg q)=(eqOp E tn t (.agg p) (.agg q)).map .bool:=rfl
@[go_sem] theorem zTY {p q:List AVal}:binOp E .neq tn t (.agg p) (.agg q)=(eqOp E tn t (.agg p) (.agg q)).map fun b=>.bool !b:=rfl
@[go_sem] theorem zTb {v:AVal} {n m:Nat} {z:AVal}:binOp E .eql tn ⟨.iface,n,m,z⟩ v .niliface=(eqOp E tn ⟨.iface,n,m,z⟩ v .niliface).map .bool:=by cases v <;> rfl
@[go_sem] theorem zVW:unOp .neg (.int k a)=some (.int k (k.wrap (0 - a))):=rfl
@[go_sem] theorem zVX {p:Bool}:unOp .not (.bool p)=some (.bool !p):=rfl
@[go_sem] theorem zTn {H:Heap} {src dst:TI} {el:Option TI} {cl:Bool} {sz:Nat} {es:List AVal}:convert H src dst el (.lit cl sz es)=z3Q H src dst el (.lit cl sz es):=rfl
@[go_sem] theorem zTo {H:Heap} {src dst:TI} {el:Option TI} {id g i len:Nat} {cl:Bool}:convert H src dst el (.ref id g i len cl)=z3Q H src dst el (.ref id g i len cl):=rfl
@[go_sem] theorem zS8 {H:Heap} {src dst:TI} {el:Option TI} {id g i f len:Nat}:convert H src dst el (.view id g i f len)=z3Q H src dst el (.view id g i f len):=rfl
@[go_sem] theorem zTp {H:Heap} {e n m n' m' n2 m2:Nat} {z z' z2:AVal} {l:List UInt8}:convert H ⟨.string,n,m,z⟩ ⟨.slice e,n',m',z'⟩ (some ⟨.int .u8,n2,m2,z2⟩) (.str l)=if l.length≤z04 then some (.lit false 1 (l.map fun b=>.int .u8 b.toNat)) else none:=rfl
@[go_sem] theorem zS7 {H:Heap} {n m n' m':Nat} {z z':AVal} {el:Option TI} {l:List UInt8}:convert H ⟨.string,n,m,z⟩ ⟨.string,n',m',z'⟩ el (.str l)=some (.str l):=rfl
theorem zBA {bf:Array Nat}:∀ {l:List Foot},(l.all fun f=>f.writes.isEmpty)=true→apart bf l=true
 | [],_=>rfl
 | a :: l,h=>by
   simp only [List.all_cons,Bool.and_eq_true,List.isEmpty_iff] at h
   simp only [apart,Bool.and_eq_true,List.all_eq_true]
   refine ⟨fun b hb=>?_,zBA h.2⟩
   have h2:b.writes=[]:=by
    have:=List.all_eq_true.1 h.2 b hb
    simpa using this
   simp [clash,meets,h.1,h2]
@[go_sem] theorem zTU {bf:Array Nat} {l:List Foot} {x:Option (Ex × St)} (h:(l.all fun f=>f.writes.isEmpty)=true):(if apart bf l=true then x else none)=x:=by rw [if_pos (zBA h)]
@[go_sem] theorem zTm {H:Heap} {src:TI} {k':IntKind} {n m:Nat} {z:AVal} {el:Option TI}:convert H src ⟨.int k',n,m,z⟩ el (.int k a)=some (.int k' (k'.wrap a)):=rfl
end
section
variable {E:Env}
noncomputable def seqK (E:Env) (b:Code):Option (Ex × St)→Option (Ex × St)
 | some (.normal,s)=>execT E b s
 | r=>r
@[go_sem] theorem zQR (b:Code) (s:St):seqK E b (some (.normal,s))=execT E b s:=rfl
@[go_sem] theorem zT1 (b:Code) (id:Nat) (s:St):seqK E b (some (.exit id,s))=some (.exit id,s):=rfl
@[go_sem] theorem zUK (b:Code) (s:St):seqK E b (some (.ret,s))=some (.ret,s):=rfl
@[go_sem] theorem zRP (b:Code) (v:AVal) (s:St):seqK E b (some (.panic v,s))=some (.panic v,s):=rfl
@[go_sem] theorem zT2 (b:Code):seqK E b none=none:=rfl
@[go_sem] theorem zTv (a b:Code) (s:St):execT E (.seq a b) s=seqK E b (execT E a s):=by
 rw [zJu];rfl
noncomputable def zPJ (E:Env) (a b:Code) (s:St):Option AVal→Option (Ex × St)
 | some (.bool true)=>execT E a s
 | some (.bool false)=>execT E b s
 | _=>none
@[go_sem] theorem zR6 (a b:Code) (s:St):zPJ E a b s (some (.bool true))=execT E a s:=rfl
@[go_sem] theorem zPK (a b:Code) (s:St):zPJ E a b s (some (.bool false))=execT E b s:=rfl
@[go_sem] theorem zSM (c:Operand) (a b:Code) (s:St):execT E (.cond c a b) s=zPJ E a b s (s.eval c):=by
 rw [zHs];rfl
def zBH (id:Nat):Option (Ex × St)→Option (Ex × St)
 | some (.exit j,s')=>some (if j=id then (.normal,s') else (.exit j,s'))
 | r=>r
@[go_sem] theorem zP0 (id j:Nat) (s:St):zBH id (some (.exit j,s))=some (if j=id then (.normal,s) else (.exit j,s)):=rfl
@[go_sem] theorem zLu (id:Nat) (s:St):zBH id (some (.normal,s))=some (.normal,s):=rfl
@[go_sem] theorem zQu (id:Nat) (s:St):zBH id (some (.ret,s))=some (.ret,s):=rfl
@[go_sem] theorem zNq (id:Nat) (v:AVal) (s:St):zBH id (some (.panic v,s))=some (.panic v,s):=rfl
@[go_sem] theorem zP1 (id:Nat):zBH id none=none:=rfl
@[go_sem] theorem zRB (id:Nat) (c:Code) (s:St):execT E (.block id c) s=zBH id (execT E c s):=by
 rw [zFC];rfl
noncomputable def zKG (E:Env) (c:Code) (m:Nat):Option (Ex × St)→Option (Ex × St)
 | some (.normal,s')=>execT E (.loop c) (trunc m s')
 | r=>r
@[go_sem] theorem zOC (c:Code) (m:Nat) (s:St):zKG E c m (some (.normal,s))=execT E (.loop c) (trunc m s):=rfl
@[go_sem] theorem zRE (c:Code) (m:Nat) (id:Nat) (s:St):zKG E c m (some (.exit id,s))=some (.exit id,s):=rfl
@[go_sem] theorem zSX (c:Code) (m:Nat) (s:St):zKG E c m (some (.ret,s))=some (.ret,s):=rfl
@[go_sem] theorem zPq (c:Code) (m:Nat) (v:AVal) (s:St):zKG E c m (some (.panic v,s))=some (.panic v,s):=rfl
theorem exec_loop (c:Code) (s:St):execT E (.loop c) s=zKG E c s.H.length (execT E c s):=by
 rw [zHu];rfl
noncomputable def runK (E:Env) (rs:List ResultVar) (ro:Nat):Option (Ex × St)→Option (CRes × Heap)
 | none=>none
 | some (.exit _,_)=>none
 | some (e,s)=>match unwind E s.defers (modeEx e) s.H ro with
   | none=>none
   | some (.panic v,H)=>some (.panic v,H)
   | some (.ret,H)=>match resultsOf E { s with H:=H } rs with
     | some vs=>some (.ret (one vs),H)
     | none=>none
theorem run_unfold {f:Nat} {fn:Func} {c:Code} (hf:E.fns f=some fn) (hb:fn.body=some c) (args:List AVal) (H:Heap) (ro:Nat):runT E f args H ro=runK E fn.results.toList ro (execT E c ⟨args++List.replicate (fn.ntmps - args.length) (.tuple []),H,[],ro,(E.hint f).virt⟩):=by
 unfold runT runF
 simp only [hf,hb] <;> rfl
@[go_sem] theorem zNA (rs:List ResultVar) (ro:Nat) (s:St):runK E rs ro (some (.ret,s))=match unwind E s.defers (modeEx .ret) s.H ro with
    | none=>none
    | some (.panic v,H)=>some (.panic v,H)
    | some (.ret,H)=>match resultsOf E { s with H:=H } rs with
      | some vs=>some (.ret (one vs),H)
      | none=>none:=rfl
@[go_sem] theorem zFf (rs:List ResultVar) (ro:Nat) (s:St):runK E rs ro (some (.normal,s))=match unwind E s.defers (modeEx .normal) s.H ro with
    | none=>none
    | some (.panic v,H)=>some (.panic v,H)
    | some (.ret,H)=>match resultsOf E { s with H:=H } rs with
      | some vs=>some (.ret (one vs),H)
      | none=>none:=rfl
@[go_sem] theorem zRM (rs:List ResultVar) (ro:Nat) (v:AVal) (s:St):runK E rs ro (some (.panic v,s))=match unwind E s.defers (modeEx (.panic v)) s.H ro with
    | none=>none
    | some (.panic v,H)=>some (.panic v,H)
    | some (.ret,H)=>match resultsOf E { s with H:=H } rs with
      | some vs=>some (.ret (one vs),H)
      | none=>none:=rfl
end
section
variable {E:Env} {H:Heap} {t e n m:Nat} {z:AVal} {te:TI}
end
@[go_sem] theorem cells_bool (b:Bool):(AVal.bool b).cellsOf=[(AVal.bool b)]:=rfl
@[go_sem] theorem zUP (b:Bool):(AVal.bool b).isTuple=false:=rfl
@[go_sem] theorem zS0 (k:IntKind) (n:Int):(AVal.int k n).cellsOf=[(AVal.int k n)]:=rfl
@[go_sem] theorem zVI (k:IntKind) (n:Int):(AVal.int k n).isTuple=false:=rfl
@[go_sem] theorem zS4 (l:List UInt8):(AVal.str l).cellsOf=[(AVal.str l)]:=rfl
@[go_sem] theorem zVM (l:List UInt8):(AVal.str l).isTuple=false:=rfl
@[go_sem] theorem zNv :AVal.nilptr.cellsOf=[AVal.nilptr]:=rfl
@[go_sem] theorem zRU :AVal.nilptr.isTuple=false:=rfl
@[go_sem] theorem zS2 (id g i f:Nat):(AVal.ptr id g i f).cellsOf=[(AVal.ptr id g i f)]:=rfl
@[go_sem] theorem zVK (id g i f:Nat):(AVal.ptr id g i f).isTuple=false:=rfl
@[go_sem] theorem zR2 (e:AVal) (f:Nat):(AVal.lptr e f).cellsOf=[(AVal.lptr e f)]:=rfl
@[go_sem] theorem zUR (e:AVal) (f:Nat):(AVal.lptr e f).isTuple=false:=rfl
@[go_sem] theorem zS1 (cl:Bool) (sz:Nat) (es:List AVal):(AVal.lit cl sz es).cellsOf=[(AVal.lit cl sz es)]:=rfl
@[go_sem] theorem zVJ (cl:Bool) (sz:Nat) (es:List AVal):(AVal.lit cl sz es).isTuple=false:=rfl
@[go_sem] theorem zS3 (id g i len:Nat) (cl:Bool):(AVal.ref id g i len cl).cellsOf=[(AVal.ref id g i len cl)]:=rfl
@[go_sem] theorem zVL (id g i len:Nat) (cl:Bool):(AVal.ref id g i len cl).isTuple=false:=rfl
@[go_sem] theorem zR4 (id g i f len:Nat):(AVal.view id g i f len).cellsOf=[(AVal.view id g i f len)]:=rfl
@[go_sem] theorem zUT (id g i f len:Nat):(AVal.view id g i f len).isTuple=false:=rfl
@[go_sem] theorem zR3 (id:Nat):(AVal.mapp id).cellsOf=[(AVal.mapp id)]:=rfl
@[go_sem] theorem zUS (id:Nat):(AVal.mapp id).isTuple=false:=rfl
@[go_sem] theorem zNu :AVal.nilmap.cellsOf=[AVal.nilmap]:=rfl
@[go_sem] theorem zRT :AVal.nilmap.isTuple=false:=rfl
@[go_sem] theorem zR1 (f:Nat) (a b:List AVal):(AVal.func f a b).cellsOf=[(AVal.func f a b)]:=rfl
@[go_sem] theorem zUQ (f:Nat) (a b:List AVal):(AVal.func f a b).isTuple=false:=rfl
@[go_sem] theorem zM5 :AVal.nilfunc.cellsOf=[AVal.nilfunc]:=rfl
@[go_sem] theorem zQa :AVal.nilfunc.isTuple=false:=rfl
@[go_sem] theorem zP8 (t:Nat) (v:AVal):(AVal.iface t v).cellsOf=[(AVal.iface t v)]:=rfl
@[go_sem] theorem zTI (t:Nat) (v:AVal):(AVal.iface t v).isTuple=false:=rfl
@[go_sem] theorem zLU :AVal.niliface.cellsOf=[AVal.niliface]:=rfl
@[go_sem] theorem zOX :AVal.niliface.isTuple=false:=rfl
@[go_sem] theorem zP9 :AVal.undef.cellsOf=[AVal.undef]:=rfl
@[go_sem] theorem zTJ :AVal.undef.isTuple=false:=rfl
@[go_sem] theorem zRz (cs:List AVal):(AVal.agg cs).cellsOf=cs:=rfl
@[go_sem] theorem zVH (cs:List AVal):(AVal.agg cs).isTuple=false:=rfl
def Goes (x:Option (Ex × St)) (P:Ex→St→Prop):Prop:=∃ e s,x=some (e,s)∧P e s
theorem zIm {e:Ex} {s:St} {P:Ex→St→Prop}:Goes (some (e,s)) P ↔ P e s:=by
 constructor
 · rintro ⟨e',s',h,hp⟩;cases h;exact hp
 · intro h;exact ⟨e,s,rfl,h⟩
theorem Goes.mono {x:Option (Ex × St)} {P Q:Ex→St→Prop} (h:Goes x P) (hq:∀ e s,P e s→Q e s):Goes x Q:=by
 obtain ⟨e,s,h1,h2⟩:=h
 exact ⟨e,s,h1,hq e s h2⟩
@[go_sem] theorem zQi (cs:List AVal) (f:Nat) (v:AVal):z0J (.agg cs) f v=if f+v.cellsOf.length≤cs.length then some (.agg (putList cs f v.cellsOf)) else none:=rfl
@[go_sem] theorem zOa (b:Bool) (f:Nat) (v:AVal):z0J (.bool b) f v=match f,v with
    | 0,.agg _=>none
    | 0,v=>some v
    | _,_=>none:=rfl
@[go_sem] theorem zQj (k:IntKind) (n:Int) (f:Nat) (v:AVal):z0J (.int k n) f v=match f,v with
    | 0,.agg _=>none
    | 0,v=>some v
    | _,_=>none:=rfl
@[go_sem] theorem zQn (l:List UInt8) (f:Nat) (v:AVal):z0J (.str l) f v=match f,v with
    | 0,.agg _=>none
    | 0,v=>some v
    | _,_=>none:=rfl
@[go_sem] theorem zLW  (f:Nat) (v:AVal):z0J (.nilptr) f v=match f,v with
    | 0,.agg _=>none
    | 0,v=>some v
    | _,_=>none:=rfl
@[go_sem] theorem zQl (id g i o:Nat) (f:Nat) (v:AVal):z0J (.ptr id g i o) f v=match f,v with
    | 0,.agg _=>none
    | 0,v=>some v
    | _,_=>none:=rfl
@[go_sem] theorem zOc (e:AVal) (o:Nat) (f:Nat) (v:AVal):z0J (.lptr e o) f v=match f,v with
    | 0,.agg _=>none
    | 0,v=>some v
    | _,_=>none:=rfl
@[go_sem] theorem zQk (cl:Bool) (sz:Nat) (es:List AVal) (f:Nat) (v:AVal):z0J (.lit cl sz es) f v=match f,v with
    | 0,.agg _=>none
    | 0,v=>some v
    | _,_=>none:=rfl
@[go_sem] theorem zQm (id g i len:Nat) (cl:Bool) (f:Nat) (v:AVal):z0J (.ref id g i len cl) f v=match f,v with
    | 0,.agg _=>none
    | 0,v=>some v
    | _,_=>none:=rfl
@[go_sem] theorem zOe (id g i o len:Nat) (f:Nat) (v:AVal):z0J (.view id g i o len) f v=match f,v with
    | 0,.agg _=>none
    | 0,v=>some v
    | _,_=>none:=rfl
@[go_sem] theorem zOd (id:Nat) (f:Nat) (v:AVal):z0J (.mapp id) f v=match f,v with
    | 0,.agg _=>none
    | 0,v=>some v
    | _,_=>none:=rfl
@[go_sem] theorem zLV  (f:Nat) (v:AVal):z0J (.nilmap) f v=match f,v with
    | 0,.agg _=>none
    | 0,v=>some v
    | _,_=>none:=rfl
@[go_sem] theorem zOb (h:Nat) (a b:List AVal) (f:Nat) (v:AVal):z0J (.func h a b) f v=match f,v with
    | 0,.agg _=>none
    | 0,v=>some v
    | _,_=>none:=rfl
@[go_sem] theorem zLS  (f:Nat) (v:AVal):z0J (.nilfunc) f v=match f,v with
    | 0,.agg _=>none
    | 0,v=>some v
    | _,_=>none:=rfl
@[go_sem] theorem zNf (t:Nat) (x:AVal) (f:Nat) (v:AVal):z0J (.iface t x) f v=match f,v with
    | 0,.agg _=>none
    | 0,v=>some v
    | _,_=>none:=rfl
@[go_sem] theorem zIj  (f:Nat) (v:AVal):z0J (.niliface) f v=match f,v with
    | 0,.agg _=>none
    | 0,v=>some v
    | _,_=>none:=rfl
@[go_sem] theorem zNg (vs:List AVal) (f:Nat) (v:AVal):z0J (.tuple vs) f v=match f,v with
    | 0,.agg _=>none
    | 0,v=>some v
    | _,_=>none:=rfl
@[go_sem] theorem zNh  (f:Nat) (v:AVal):z0J (.undef) f v=match f,v with
    | 0,.agg _=>none
    | 0,v=>some v
    | _,_=>none:=rfl
attribute [go_sem] List.drop_zero List.take_succ_cons List.take_zero List.drop_succ_cons List.take_nil List.drop_nil Bool.true_beq Bool.false_beq putU Nat.lt_irrefl want List.getElem?_toArray z3Q z4J z1R consec AVal.refs refsL looks List.isEmpty_nil List.map_cons List.map_nil buildSlice z3d z6E noRef AVal.under underL List.all_cons List.all_nil Bool.and_true Bool.true_and Bool.and_false Bool.false_and Bool.or_true Bool.true_or Bool.or_false Bool.false_or Bool.not_false Bool.not_true List.length_replicate decide_true decide_false z16 z0r z1Q IntKind.bits zST z0Y zHn zHo store z5N putList true_and and_true zIm load zED part TI.agg Nat.le_refl if_true if_false Bool.false_eq_true zHv zDc zHt zJt Func.at Code.at builtin lenOf Option.getD_some List.getElem?_cons_zero List.getElem?_cons_succ List.set_cons_zero List.set_cons_succ List.cons_append List.nil_append List.append_nil List.replicate_succ List.replicate_zero List.length_cons List.length_nil Option.map_some Option.map_none AVal.noLit List.elem_nil List.contains_nil Option.elim_some Option.elim_none
def FitF (fit:Nat→List AVal→Prop):List Nat→List AVal→Prop
 | [],as=>as=[]
 | t :: ts,as=>∃ a b,as=a++b∧fit t a∧FitF fit ts b
def pack (te:TI) (as:List AVal):AVal:=if te.agg then .agg as else as.headD .undef
def FitT (E:Env):Nat→Nat→List AVal→Prop
 | 0,_,_=>False
 | n+1,t,as=>match E.ti t with
   | none=>False
   | some ti=>match ti.d with
     | .bool=>∃ b,as=[.bool b]
     | .int k=>∃ m,as=[.int k m]∧(Lit.int k m).wf=true
     | .string=>∃ l:List UInt8,as=[.str l]∧l.length≤maxLen
     | .slice e=>∃ te,E.ti e=some te∧∃ cl es,as=[.lit cl te.sz es]∧es.length≤maxLen∧∀ x ∈ es,∃ as',x=pack te as'∧FitT E n e as'
     | .struct fs=>FitF (FitT E n) (fs.map (·.1)) as
     | .array m e=>FitF (FitT E n) (List.replicate m e) as
     | _=>False
def zLG (E:Env):Nat→List (Nat × Nat)→Nat→Bool
 | n,[],m=>n == m
 | n,(t,off) :: fs,m=>off == n && match E.ti t with
   | some ti=>zLG E (n+ti.sz) fs m
   | none=>false
def z7a (E:Env):Nat→Nat→Bool
 | 0,_=>false
 | n+1,t=>match E.ti t with
   | none=>false
   | some ti=>match ti.d with
     | .bool | .int _ | .string=>ti.sz == 1
     | .slice e=>ti.sz == 1 && z7a E n e && (match E.ti e with | some te=>0 < te.sz && (te.agg || te.sz == 1) | none=>false)
     | .struct fs=>zLG E 0 fs ti.sz && fs.all fun f=>z7a E n f.1
     | .array m e=>z7a E n e && (match E.ti e with | some te=>ti.sz == m * te.sz | none=>false)
     | _=>false
section
variable {E:Env} {P:Program} {H:Type} {enc:TypeId × Value→H} {W:World}
theorem zLd (a:Addr) (i j:Nat):(a.add i).add j=a.add (i+j):=by
 unfold Addr.add
 by_cases hi:i=0 <;> by_cases hj:j=0 <;> simp [hi,hj,Nat.add_assoc]
theorem z4U {t:Nat} {ti:TI} {i:TypeInfo} {d:TypeDesc} {z:Value} (h:TOk P t ti i d z):P.cellsOf t=ti.sz:=by
 simp [Program.cellsOf,h.inf,h.sz]
def zB8 (W:World) (fit:List AVal→Prop) (n:Nat) (cs:List Value):Prop:=
 ∃ as:List AVal,VRelL (fun _=>False) W B0 as cs∧as.length=n∧(∀ c ∈ as,c.oneC=true)∧fit as
theorem zSn (fit:Nat→List AVal→Prop) {trod:Nat→List Value→Option (DataW H × List MemPlace)} (hE:EnvOk E P) {cs:List Value}:∀ (fs:List (Nat × Nat)) (n m:Nat),
    (∀ f ∈ fs,∀ cs x,trod f.1 cs=some x→∀ ti,E.ti f.1=some ti→zB8 W (fit f.1) ti.sz cs) →
    zLG E n fs m=true→(∀ f ∈ fs,∃ x,trod f.1 ((cs.drop f.2).take (P.cellsOf f.1))=some x)→m≤cs.length →
    n≤m∧zB8 W (FitF fit (fs.map (·.1))) (m - n) ((cs.drop n).take (m - n))
 | [],n,m,_,ht,_,_=>by
   simp only [zLG,beq_iff_eq] at ht
   subst ht
   exact ⟨Nat.le_refl _,[],by simpa using z0N,by simp,by simp,rfl⟩
 | (t,off) :: fs,n,m,hr,ht,hx,hm=>by
   simp only [zLG,Bool.and_eq_true,beq_iff_eq] at ht
   obtain ⟨rfl,ht⟩:=ht
   split at ht
   · rename_i ti hti
     obtain ⟨i,d,z,hT⟩:=hE.ty t ti hti
     have hc:=z4U hT
     obtain ⟨h1,bs,h2,h3,h4,h5⟩:=zSn fit hE fs (off+ti.sz) m (fun f hf=>hr f (List.mem_cons_of_mem _ hf)) ht (fun f hf=>hx f (List.mem_cons_of_mem _ hf)) hm
     obtain ⟨x,hx0⟩:=hx (t,off) List.mem_cons_self
     rw [hc] at hx0
     obtain ⟨as,k1,k2,k3,k4⟩:=hr (t,off) List.mem_cons_self _ x hx0 ti hti
     refine ⟨by omega,as++bs,?_,by simp [k2,h3];omega,?_,as,bs,rfl,k4,h5⟩
     · have e:(cs.drop off).take (m - off)=(cs.drop off).take ti.sz++(cs.drop (off+ti.sz)).take (m - (off+ti.sz)):=by
         rw [← List.drop_drop,show m - off=ti.sz+(m - (off+ti.sz)) by omega,List.take_add]
       rw [e]
       exact VRelL_append k1 h2
     · intro c hcm
       rcases List.mem_append.1 hcm with h | h
       · exact k3 c h
       · exact h4 c h
   · cases ht
theorem zBg {te:TI} {as:List AVal} (hl:as.length=te.sz) (ha:te.agg=true ∨ te.sz=1) (h1:∀ c ∈ as,c.oneC=true):(pack te as).cellsOf=as:=by
 unfold pack
 cases hg:te.agg with
 | true=>rfl
 | false=>
   have hs:te.sz=1:=by simpa [hg] using ha
   rw [hs] at hl
   match as,hl with
   | [a],_=>
     have:=h1 a (by simp)
     simp only [Bool.false_eq_true,if_false,List.headD_cons]
     cases a <;> simp_all [AVal.cellsOf,AVal.oneC]
theorem zBU {te:TI} (ha:te.agg=true ∨ te.sz=1):∀ (ls:List (List AVal)),(∀ as ∈ ls,as.length=te.sz∧∀ c ∈ as,c.oneC=true)→flatC (ls.map (pack te))=ls.flatten
 | [],_=>rfl
 | as :: ls,h=>by
   simp only [List.map_cons,flatC,List.flatten_cons]
   rw [zBg (h as (by simp)).1 ha (h as (by simp)).2,zBU ha ls fun x hx=>h x (by simp [hx])]
theorem zAN {te:TI} {fit:List AVal→Prop}:∀ (len:Nat) (V:List Value),V.length=len * te.sz→(∀ i,i < len→zB8 W fit te.sz ((V.drop (i * te.sz)).take te.sz)) →
    ∃ ls:List (List AVal),ls.length=len∧VRelL (fun _=>False) W B0 ls.flatten V∧∀ as ∈ ls,as.length=te.sz∧(∀ c ∈ as,c.oneC=true)∧fit as
 | 0,V,hV,_=>⟨[],rfl,by have:V=[]:=List.eq_nil_of_length_eq_zero (by simpa using hV);rw [this];exact z0N,by simp⟩
 | len+1,V,hV,h=>by
   obtain ⟨as,a1,a2,a3,a4⟩:=h 0 (by omega)
   obtain ⟨ls,b1,b2,b3⟩:=zAN (te:=te) (fit:=fit) len (V.drop te.sz) (by simp [hV,Nat.succ_mul]) fun i hi=>by
    have:=h (i+1) (by omega)
    rw [List.drop_drop]
    rwa [Nat.succ_mul,Nat.add_comm] at this
   refine ⟨as :: ls,by simp [b1],?_,?_⟩
   · rw [List.flatten_cons,← List.take_append_drop te.sz V]
     exact VRelL_append (by simpa using a1) b2
   · intro x hx
     rcases List.mem_cons.1 hx with rfl | hx
     · exact ⟨a2,a3,a4⟩
     · exact b3 x hx
theorem FitF.of_readA (fit:Nat→List AVal→Prop) {e:Nat} {te:TI}:∀ (ls:List (List AVal)),(∀ as ∈ ls,fit e as)→FitF fit (List.replicate ls.length e) ls.flatten
 | [],_=>rfl
 | as :: ls,h=>⟨as,ls.flatten,rfl,h as (by simp),FitF.of_readA (te:=te) fit ls fun x hx=>h x (by simp [hx])⟩
theorem zMy (hE:EnvOk E P):∀ (m fuel t:Nat) (cs:List Value) (x:DataW H × List MemPlace) (ti:TI),z7a E m t=true→DataW.trod enc P W 0 (fun _=>true) true fuel t cs=some x→E.ti t=some ti→zB8 W (FitT E m t) ti.sz cs
 | 0,_,_,_,_,_,hp,_,_=>by simp [z7a] at hp
 | m+1,fuel,t,cs,x,ti,hp,hx,hti=>by
   obtain ⟨i,d,z,hT⟩:=hE.ty t ti hti
   unfold z7a at hp
   rw [hti] at hp
   simp only at hp
   have hd:=hT.d
   have hu:=hT.und
   unfold zB8
   cases htd:ti.d with
   | bool=>
     rw [htd] at hp hd
     cases d <;> simp [tyd] at hd
     simp only [beq_iff_eq] at hp
     obtain ⟨b,rfl,_⟩:=DataW.trod_bool hu hx
     exact ⟨[.bool b],z0D.2 ⟨by simp [VRel],z0N⟩,by simp [hp],by simp [AVal.oneC],by unfold FitT;rw [hti];simp only [htd];exact ⟨b,rfl⟩⟩
   | int k=>
     rw [htd] at hp hd
     cases d <;> simp [tyd] at hd
     subst hd
     rename_i k'
     simp only [beq_iff_eq] at hp
     obtain ⟨n,rfl,_,hw⟩:=DataW.trod_int hu hx
     exact ⟨[.int k' n],z0D.2 ⟨by simp [VRel],z0N⟩,by simp [hp],by simp [AVal.oneC],by unfold FitT;rw [hti];simp only [htd];exact ⟨n,rfl,hw⟩⟩
   | string=>
     rw [htd] at hp hd
     cases d <;> simp [tyd] at hd
     simp only [beq_iff_eq] at hp
     obtain ⟨s,rfl,_,hs⟩:=DataW.trod_string hu hx
     refine ⟨[.str s.data.toList],z0D.2 ⟨by simp only [VRel],z0N⟩,by simp [hp],by simp [AVal.oneC],?_⟩
     unfold FitT;rw [hti];simp only [htd]
     refine ⟨_,rfl,?_⟩
     have:s.data.toList.length=s.size:=by rw [Array.length_toList];rfl
     omega
   | struct fs=>
     rw [htd] at hp hd
     cases d <;> simp [tyd] at hd
     rename_i fa
     simp only [Bool.and_eq_true,List.all_eq_true] at hp
     obtain ⟨xs,n,rfl,_,hl,hxl,hxs⟩:=DataW.trod_struct hu hx
     have hc:=z4U hT
     rw [hc] at hl
     have key:=zSn (E:=E) (W:=W) (FitT E m) (trod:=fun t cs=>DataW.trod enc P W 0 (fun _=>true) true n t cs) hE (cs:=cs) fs 0 ti.sz
      (fun f hf cs x h1 ti h2=>zMy hE m n f.1 cs x ti (hp.2 f hf) h1 h2) hp.1
      (fun f hf=>by
        rw [← hd] at hf
        obtain ⟨g,hg,rfl⟩:=List.mem_map.1 hf
        obtain ⟨j,hj,hje⟩:=List.getElem_of_mem hg
        have hj':fa[j]?=some g:=by rw [← Array.getElem?_toList,List.getElem?_eq_getElem hj,hje]
        have h3:=hxs j g hj'
        have h4:j < xs.length:=by rw [hxl];simpa using hj
        exact ⟨xs[j],by rw [h3,List.getElem?_eq_getElem h4]⟩) (by omega)
     obtain ⟨_,as,k1,k2,k3,k4⟩:=key
     refine ⟨as,by simpa [← hl] using k1,by simpa using k2,k3,?_⟩
     unfold FitT;rw [hti];simp only [htd]
     exact k4
   | array n e=>
     rw [htd] at hp hd
     cases d <;> simp [tyd] at hd
     obtain ⟨rfl,rfl⟩:=hd
     rename_i n e
     simp only [Bool.and_eq_true] at hp
     obtain ⟨hp1,hp2⟩:=hp
     split at hp2
     · rename_i te hte
       simp only [beq_iff_eq] at hp2
       obtain ⟨i2,d2,z2,hT2⟩:=hE.ty e te hte
       have hc:=z4U hT
       have hc2:=z4U hT2
       cases fuel with
       | zero=>simp [DataW.trod] at hx
       | succ fuel=>
         unfold DataW.trod at hx
         rw [hu] at hx
         simp only at hx
         split at hx
         · rename_i hl
           rw [hc,hp2] at hl
           simp only [Option.map_eq_some_iff] at hx
           obtain ⟨xs,hxs,_⟩:=hx
           obtain ⟨ls,b1,b2,b3⟩:=zAN (W:=W) (te:=te) (fit:=FitT E m e) n cs hl fun j hj=>by
            have h3:=mapM_some_get hxs j j (by simp [hj])
            have h4:j < xs.length:=by rw [mapM_some_length hxs];simpa using hj
            rw [List.getElem?_eq_getElem h4,hc2] at h3
            exact zMy hE m fuel e _ _ te hp1 h3 hte
           refine ⟨ls.flatten,b2,?_,?_,?_⟩
           · rw [hp2,z0O b2,hl]
           · intro c hc
             obtain ⟨as,h1,h2⟩:=List.mem_flatten.1 hc
             exact (b3 as h1).2.1 c h2
           · unfold FitT;rw [hti];simp only [htd]
             rw [← b1]
             exact FitF.of_readA (te:=te) _ ls fun as h=>(b3 as h).2.2
         · cases hx
     · cases hp2
   | slice e=>
     rw [htd] at hp hd
     cases d <;> simp [tyd] at hd
     subst hd
     rename_i e
     simp only [Bool.and_eq_true,beq_iff_eq] at hp
     obtain ⟨⟨hs1,hp1⟩,hp2⟩:=hp
     split at hp2
     · rename_i te hte
       simp only [Bool.and_eq_true,decide_eq_true_eq,Bool.or_eq_true,beq_iff_eq] at hp2
       obtain ⟨i2,d2,z2,hT2⟩:=hE.ty e te hte
       have hc2:=z4U hT2
       rcases DataW.trod_slice hu hx with ⟨rfl,_⟩ | ⟨a,len,cap,z16,rest,n,rfl,rfl,_,_,hlc,hcm,hel,hread,_,_⟩
       · refine ⟨[.lit true te.sz []],z0D.2 ⟨?_,z0N⟩,by simp [hs1],by simp [AVal.oneC],?_⟩
         · simp only [VRel];exact ⟨none,0,rfl,by simp,by simp,by simp,by simp,by simp⟩
         · unfold FitT;rw [hti];simp only [htd]
           exact ⟨te,hte,true,[],rfl,by simp,by simp⟩
       · have hrd:∀ j,j < len→∃ csj,W.cells? 0 (a.add (j * te.sz)) te.sz=some csj∧zB8 W (FitT E m e) te.sz csj:=by
           intro j hj
           have h3:=hread j hj
           have h4:j < z16.length:=by omega
           rw [List.getElem?_eq_getElem h4,hc2] at h3
           obtain ⟨csj,h5,h6⟩:=Option.bind_eq_some_iff.1 h3
           exact ⟨csj,h5,zMy hE m n e csj _ te hp1 h6 hte⟩
         rcases Nat.eq_zero_or_pos len with h0 | hpos
         · subst h0
           refine ⟨[.lit (decide (cap=0)) te.sz []],z0D.2 ⟨?_,z0N⟩,by simp [hs1],by simp [AVal.oneC],?_⟩
           · simp only [VRel];exact ⟨some a,cap,rfl,by simp,by simp,fun h=>by omega,by simp,by simp⟩
           · unfold FitT;rw [hti];simp only [htd]
             exact ⟨te,hte,_,[],rfl,by simp,by simp⟩
         · -- the block
           obtain ⟨cs0,h1,_⟩:=hrd 0 hpos
           obtain ⟨_,h2,h3⟩:=World.cells?_some h1
           have h4:=h3 0 hp2.1
           have hcell:∃ c T fz,W.heap[a.block]?=some (.cells c T fz)∧a.spot=none:=by
            have h5:W.cell? a=some (cs0[0]'(by omega)):=by
             rw [List.getElem?_eq_getElem (by omega)] at h4
             simpa [Addr.add] using h4
            unfold World.cell? at h5
            split at h5
            · rename_i c T fz hh
              split at h5
              · cases h5
              · rename_i hsp
                exact ⟨c,T,fz,hh,by simpa using hsp⟩
            · cases h5
           obtain ⟨c,T,fz,hh,hsp⟩:=hcell
           have hget:∀ (j:Nat),j < len→∀ csj,W.cells? 0 (a.add (j * te.sz)) te.sz=some csj→a.off+j * te.sz+te.sz≤c.size∧csj=(c.toList.drop (a.off+j * te.sz)).take te.sz:=by
            intro j hj csj hcs
            obtain ⟨_,g2,g3⟩:=World.cells?_some hcs
            have g4:∀ q,q < te.sz→c[a.off+j * te.sz+q]?=csj[q]?:=by
             intro q hq
             have:=g3 q hq
             rw [zLd] at this
             have hadd:a.add (j * te.sz+q)=⟨a.block,a.off+j * te.sz+q,none⟩:=by
              obtain ⟨ab,ao,as⟩:=a
              simp only at hsp;subst hsp
              unfold Addr.add
              split
              · rename_i h;simp;omega
              · simp [Nat.add_assoc]
             rw [hadd] at this
             simp only [World.cell?,hh] at this
             simpa using this
            have g5:a.off+j * te.sz+te.sz≤c.size:=by
             have:=g4 (te.sz - 1) (by omega)
             rw [List.getElem?_eq_getElem (by omega)] at this
             have:=(Array.getElem?_eq_some_iff.1 this).1
             omega
            refine ⟨g5,?_⟩
            refine List.ext_getElem? fun q=>?_
            by_cases hq:q < te.sz
            · rw [List.getElem?_take,if_pos hq,List.getElem?_drop,Array.getElem?_toList];simpa using (g4 q hq).symm
            · rw [List.getElem?_eq_none (by omega),List.getElem?_take,if_neg hq]
           obtain ⟨csl,hl1,_⟩:=hrd (len - 1) (by omega)
           have hb:=(hget (len - 1) (by omega) csl hl1).1
           have hbound:a.off+len * te.sz≤c.size:=by
            have:len * te.sz=(len - 1) * te.sz+te.sz:=by
             obtain ⟨q,rfl⟩:∃ q,len=q+1:=⟨len - 1,by omega⟩
             simp [Nat.succ_mul]
            omega
           have hV:((c.toList.drop a.off).take (len * te.sz)).length=len * te.sz:=by
            rw [List.length_take,List.length_drop,Array.length_toList];omega
           obtain ⟨ls,b1,b2,b3⟩:=zAN (W:=W) (te:=te) (fit:=FitT E m e) len _ hV fun j hj=>by
            obtain ⟨csj,r1,r2⟩:=hrd j hj
            have:=(hget j hj csj r1).2
            have e1:(((c.toList.drop a.off).take (len * te.sz)).drop (j * te.sz)).take te.sz=csj:=by
             rw [this,List.drop_take,List.drop_drop,List.take_take]
             congr 1
             have:j * te.sz+te.sz≤len * te.sz:=by
              rw [← Nat.succ_mul];exact Nat.mul_le_mul_right _ hj
             omega
            rw [e1];exact r2
           have hag:te.agg=true ∨ te.sz=1:=hp2.2
           have hflat:flatC (ls.map (pack te))=ls.flatten:=zBU hag ls fun as h=>⟨(b3 as h).1,(b3 as h).2.1⟩
           have hone:∀ c ∈ ls.flatten,c.oneC=true:=by
            intro c hc
            obtain ⟨as,h1,h2⟩:=List.mem_flatten.1 hc
            exact (b3 as h1).2.1 c h2
           refine ⟨[.lit (decide (cap=len)) te.sz (ls.map (pack te))],z0D.2 ⟨?_,z0N⟩,by simp [hs1],by simp [AVal.oneC],?_⟩
           · simp only [VRel]
             refine ⟨some a,cap,by simp [b1],by simp [b1,hlc],by simp [b1],fun h=>by omega,by simp,.inr ⟨a.block,a.off,_,?_,fun h=>h,?_,by rw [hflat];exact hone,⟨c,T,fz,hh,by simpa [b1] using hbound,rfl⟩,by rw [hflat];simpa [b1] using b2⟩⟩
             · obtain ⟨ab,ao,as⟩:=a;simp only at hsp;subst hsp;rfl
             · intro x hx
               obtain ⟨as,h1,rfl⟩:=List.mem_map.1 hx
               rw [zBg (b3 as h1).1 hag (b3 as h1).2.1]
               exact (b3 as h1).1
           · unfold FitT;rw [hti];simp only [htd]
             refine ⟨te,hte,_,_,rfl,by simp [b1];omega,fun x hx=>?_⟩
             obtain ⟨as,h1,rfl⟩:=List.mem_map.1 hx
             exact ⟨as,rfl,(b3 as h1).2.2⟩
     · cases hp2
   | _=>rw [htd] at hp;simp at hp
theorem zVZ (hE:EnvOk E P) {m t:Nat} {v:Value} {d:DataW H} {p:List MemPlace} {ti:TI} (hp:z7a E m t=true) (hti:E.ti t=some ti) {base:Nat} (hok:Value.okWide P W .any base t v) (h:DataW.Trod enc P W 0 (fun _=>true) true t v d p):
    ∃ as:List AVal,VRel (fun _=>False) W B0 (pack ti as) v∧FitT E m t as:=by
 obtain ⟨fuel,h⟩:=h
 obtain ⟨as,h1,h2,h3,h4⟩:=zMy hE m fuel t _ _ ti hp h hti
 refine ⟨as,?_,h4⟩
 obtain ⟨i,d',z,hT⟩:=hE.ty t ti hti
 have hu:=hT.und
 have hd:=hT.d
 cases m with
 | zero=>simp [z7a] at hp
 | succ m=>
   unfold z7a at hp
   rw [hti] at hp
   simp only at hp
   have one:∀ u:Value,v=u→u.oneCell'=true→ti.sz=1→ti.agg=false→VRel (fun _=>False) W B0 (pack ti as) v:=by
    intro u hv ho hs ha
    subst hv
    have hc:v.cells=#[v]:=by cases v <;> simp_all [Value.cells,Value.oneCell']
    rw [hc] at h1
    obtain ⟨a,as',rfl,k1,k2⟩:∃ a as',as=a :: as'∧VRel (fun _=>False) W B0 a v∧VRelL (fun _=>False) W B0 as' []:=by
     cases as with
     | nil=>rw [hs] at h2;simp at h2
     | cons a as'=>
       obtain ⟨_,_,e,k1,k2⟩:=z05.1 h1
       cases e
       exact ⟨a,as',rfl,k1,k2⟩
    simpa [pack,ha] using k1
   have agg:(∃ cs,v=.agg cs)→ti.agg=true→VRel (fun _=>False) W B0 (pack ti as) v:=by
    rintro ⟨cs,rfl⟩ ha
    simp only [pack,ha,if_true,VRel]
    exact ⟨cs,rfl,h1,h3⟩
   cases htd:ti.d with
   | bool=>
     rw [htd] at hp hd
     cases d' <;> simp [tyd] at hd
     obtain ⟨b,hv⟩:=Go.WideShapes.okWide_bool hu hok
     exact one _ hv rfl (by simpa using hp) (by simp [TI.agg,htd])
   | int k=>
     rw [htd] at hp hd
     cases d' <;> simp [tyd] at hd
     obtain ⟨b,hv⟩:=Go.WideShapes.okWide_int hu hok
     exact one _ hv rfl (by simpa using hp) (by simp [TI.agg,htd])
   | string=>
     rw [htd] at hp hd
     cases d' <;> simp [tyd] at hd
     obtain ⟨b,hv⟩:=Go.WideShapes.okWide_string hu hok
     exact one _ hv rfl (by simpa using hp) (by simp [TI.agg,htd])
   | slice e=>
     rw [htd] at hp hd
     cases d' <;> simp [tyd] at hd
     obtain ⟨a,l,c,hv⟩:=Go.WideShapes.okWide_slice hu hok
     simp only [Bool.and_eq_true,beq_iff_eq] at hp
     exact one _ hv rfl hp.1.1 (by simp [TI.agg,htd])
   | struct fs=>
     rw [htd] at hp hd
     cases d' <;> simp [tyd] at hd
     refine agg ?_ (by simp [TI.agg,htd])
     simp only [Value.okWide,hu] at hok
     obtain ⟨cs,hv,_⟩:=hok
     exact ⟨cs,hv⟩
   | array n e=>
     rw [htd] at hp hd
     cases d' <;> simp [tyd] at hd
     refine agg ?_ (by simp [TI.agg,htd])
     simp only [Value.okWide,hu] at hok
     obtain ⟨cs,hv,_⟩:=hok
     exact ⟨cs,hv⟩
   | _=>rw [htd] at hp;simp at hp
end
theorem ren_noRef (f:Nat→Option Nat):(∀ a:AVal,a.under 0=true→a.ren f=a)∧(∀ l:List AVal,underL 0 l=true→renL f l=l):=by
 refine AVal.strong ?_ ?_
 · intro a ihp ihq h
   cases a with
   | ptr id g i o=>simp [AVal.under] at h
   | ref id g i len cl=>simp [AVal.under] at h
   | view id g i o len=>simp [AVal.under] at h
   | mapp id=>simp [AVal.under] at h
   | func g a b=>
     simp only [AVal.under,Bool.and_eq_true] at h
     simp only [AVal.ren]
     rw [ihq a (by simp;omega) h.1,ihq b (by simp;omega) h.2]
   | iface t x=>
     simp only [AVal.under] at h
     simp only [AVal.ren]
     rw [ihp x (by simp;omega) h]
   | agg cs=>
     simp only [AVal.under] at h
     simp only [AVal.ren]
     rw [ihq cs (by simp) h]
   | tuple cs=>
     simp only [AVal.under] at h
     simp only [AVal.ren]
     rw [ihq cs (by simp) h]
   | _=>rfl
 · intro l ihp ihq h
   cases l with
   | nil=>rfl
   | cons a l=>
     simp only [underL,Bool.and_eq_true] at h
     simp only [renL]
     rw [ihp a (by simp;omega) h.1,ihq l (by simp;omega) h.2]
theorem refs_noRef:(∀ a:AVal,a.under 0=true→a.refs=[])∧(∀ l:List AVal,underL 0 l=true→refsL l=[]):=by
 refine AVal.strong ?_ ?_
 · intro a ihp ihq h
   cases a with
   | ptr id g i o=>simp [AVal.under] at h
   | ref id g i len cl=>simp [AVal.under] at h
   | view id g i o len=>simp [AVal.under] at h
   | mapp id=>simp [AVal.under] at h
   | func g a b=>
     simp only [AVal.under,Bool.and_eq_true] at h
     simp only [AVal.refs]
     rw [ihq a (by simp;omega) h.1,ihq b (by simp;omega) h.2];rfl
   | iface t x=>
     simp only [AVal.under] at h
     simp only [AVal.refs]
     rw [ihp x (by simp;omega) h]
   | agg cs=>
     simp only [AVal.under] at h
     simp only [AVal.refs]
     rw [ihq cs (by simp) h]
   | tuple cs=>
     simp only [AVal.under] at h
     simp only [AVal.refs]
     rw [ihq cs (by simp) h]
   | _=>rfl
 · intro l ihp ihq h
   cases l with
   | nil=>rfl
   | cons a l=>
     simp only [underL,Bool.and_eq_true] at h
     simp only [refsL]
     rw [ihp a (by simp;omega) h.1,ihq l (by simp;omega) h.2];rfl
theorem z9w {f:AVal→Option AVal}:∀ {l:List AVal},(∀ x ∈ l,f x=some x)→mapO f l=some l
 | [],_=>rfl
 | x :: l,h=>by
   simp only [mapO]
   rw [h x (by simp),z9w fun y hy=>h y (by simp [hy])]
theorem underL_mem {m:Nat}:∀ {l:List AVal},underL m l=true→∀ x ∈ l,x.under m=true
 | [],_,x,hx=>by cases hx
 | y :: l,h,x,hx=>by
   simp only [underL,Bool.and_eq_true] at h
   rcases List.mem_cons.1 hx with rfl | hx
   · exact h.1
   · exact underL_mem h.2 x hx
theorem handBack_noRef (H:Heap) (k:Nat) (keep:List Nat):∀ (n:Nat) (v:AVal),noRef v=true→handBack H k keep n v=some v
 | 0,_,_=>rfl
 | n+1,v,h=>by
   unfold noRef at h
   cases v with
   | ref id g i len cl=>simp [AVal.under] at h
   | agg cs=>
     simp only [AVal.under] at h
     simp only [handBack]
     rw [z9w fun x hx=>handBack_noRef H k keep n x (underL_mem h x hx)];rfl
   | tuple cs=>
     simp only [AVal.under] at h
     simp only [handBack]
     rw [z9w fun x hx=>handBack_noRef H k keep n x (underL_mem h x hx)];rfl
   | _=>rfl
theorem lend_noRef (H:Heap) (lits:List Nat):∀ (args:List AVal) (i:Nat),underL 0 args=true→lend H lits args i=some (args,[])
 | [],_,_=>rfl
 | v :: vs,i,h=>by
   simp only [underL,Bool.and_eq_true] at h
   simp only [lend]
   rw [lend_noRef H lits vs (i+1) h.2]
   have:noRef v=true:=h.1
   simp [this]
section
variable {E:Env}
theorem call_pure {f:Nat} {args:List AVal} {v:AVal} {H':Heap} (hw:(E.hint f).whole=false) (hka:(E.hint f).keepAll=false) (hk:(E.hint f).keep=[]) (ha:underL 0 args=true) (hr:runT E f args [] 0=some (.ret v,H')) (hv:noRef v=true) (ro:Nat) (H:Heap) (nx:Nat):
    callT E f args ro H nx=some (.ret v,.ups []):=by
 unfold callT
 rw [callF_small hw,lend_noRef H _ args 0 ha]
 simp only [refs_noRef.2 args ha,reach,getAll,List.all_nil,Bool.not_true,Bool.or_false,Bool.and_false,Bool.false_or,Bool.false_eq_true,if_false,List.map_nil,List.length_nil]
 rw [(ren_noRef (idx [])).2 args ha]
 have h0:(if (E.hint f).ro=true then (0:Nat) else 0)=0:=by split <;> rfl
 rw [h0,hr]
 simp only [Option.bind_some,callBack,keepOf,hka,Bool.false_eq_true,if_false,hk,List.filter_nil,uniq,getAll]
 rw [handBack_noRef _ _ _ _ _ hv]
 simp only [List.isEmpty_nil,Bool.true_or,if_true]
 rw [(ren_noRef _).1 v hv]
 simp [callUpd,numbered]
end
end Go.Proofs.Ytgfejpngfikjiaa.Tidy
