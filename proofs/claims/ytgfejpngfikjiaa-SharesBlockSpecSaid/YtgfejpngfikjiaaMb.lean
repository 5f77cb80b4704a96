/-
 The tidy machine: each of its operations and regions is the model’s.
-/
import Derived.Test.YtgfejpngfikjiaaMa
import Derived.MapKept
import Derived.Orders
set_option linter.all false
namespace Go.Proofs.Ytgfejpngfikjiaa.Tidy
open Go
section
variable {E:Env} {P:Program} {w:World} {X:Nat→Prop} {B:BMap} {H:Heap}
theorem zVF (ns:List Int):ns.foldl (fun r n=>r.push (UInt8.ofNat n.toNat)) ByteArray.empty=⟨⟨ns.map fun n=>UInt8.ofNat n.toNat⟩⟩:=by
 rw [foldl_push_bytes]
 simp [ByteArray.empty,ByteArray.emptyWithCapacity]
 rfl
def z9m (w:World) (r n:Nat):World:=w.freeze { block:=r,off:=n } 1
theorem z8U (e:Nat) (s:List UInt8):∃ (cap:Nat) (c:Array Value) (w':World),s.length≤cap∧(Conv.stringToBytes e ⟨⟨s⟩⟩).run P w=.ok (.slice (some ⟨w.heap.size,0,none⟩) s.length cap) w' ∧
    w.heap.size≤w'.heap.size∧(∀ r,r < w.heap.size→w'.heap[r]?=w.heap[r]?)∧(w'.os=w.os∧w'.output=w.output∧w'.tape=w.tape) ∧
    (∃ fz,w'.heap[w.heap.size]?=some (.cells c e fz))∧c.toList.take s.length=s.map (fun b=>Value.int .u8 b.toNat)∧s.length≤c.size:=by
 have hsz:(ByteArray.mk ⟨s⟩).size=s.length:=by simp [ByteArray.size]
 have hforced:(Question.appendCap s.length 0 e).forced=false:=rfl
 have hcut:s.length≤(Question.appendCap s.length 0 e).cut (w.tape w.drawn (.appendCap s.length 0 e)):=by simp [Question.cut]
 generalize hcap:(Question.appendCap s.length 0 e).cut (w.tape w.drawn (.appendCap s.length 0 e))=cap at hcut
 generalize hc:(s.map fun b=>Value.int .u8 b.toNat).toArray++Array.replicate (cap - s.length) (.int .u8 0)=c
 have hcs:c.toList.take s.length=s.map (fun b=>Value.int .u8 b.toNat):=by
  rw [← hc,Array.toList_append,List.take_append_of_le_length (by simp)]
  simp only []
  exact List.take_of_length_le (by simp)
 have hcl:s.length≤c.size:=by rw [← hc];simp
 have hshape:(z2V w.drew (.cells c e)).shape? w.heap.size=some (e,c.size):=by
  unfold World.shape?
  have:=z4c w.drew (.cells c e)
  have hh:w.drew.heap=w.heap:=rfl
  rw [hh] at this
  rw [this]
 refine ⟨cap,c,z9m (z2V w.drew (.cells c e)) w.heap.size c.size,hcut,?_,?_,?_,⟨rfl,rfl,rfl⟩,?_,hcs,hcl⟩
 · have h1:(choose (.appendCap s.length 0 e)).run P w=.ok cap w.drew:=by
     simp only [choose,Sem.run,hforced,hcap];rfl
   have h2:(markStringish ⟨w.heap.size,0,none⟩).run P (z2V w.drew (.cells c e))=.ok () (z9m (z2V w.drew (.cells c e)) w.heap.size c.size):=by
    simp only [markStringish,shape,freeze,Sem.run_bind,Sem.run,hshape,Result.andThen_ok];rfl
   have h3:((ByteArray.mk ⟨s⟩).data.map fun b=>Value.int .u8 b.toNat)++Array.replicate (cap - s.length) (.int .u8 0)=c:=by
    rw [← hc];congr 1;simp
   simp only [Conv.stringToBytes,Sem.run_bind,hsz,h1,Result.andThen_ok]
   rw [h3,z23]
   simp only [Result.andThen_ok]
   have hh:w.drew.heap=w.heap:=rfl
   rw [hh,h2]
   rfl
 · simp only [z9m,World.freeze];rw [if_neg (by omega)];simp only [Array.size_modify];rw [z2g];exact Nat.le_succ _
 · intro r hr
   simp only [z9m,World.freeze];rw [if_neg (by omega)]
   simp only [Array.getElem?_modify]
   rw [if_neg (by omega)]
   exact z3v w.drew _ hr
 · simp only [z9m,World.freeze];rw [if_neg (by omega)]
   simp only [Array.getElem?_modify,if_true]
   have:=z4c w.drew (.cells c e)
   have hh:w.drew.heap=w.heap:=rfl
   rw [hh] at this
   rw [this]
   exact ⟨_,rfl⟩
theorem zCI (hE:EnvOk E P) (hH:HRel B X w H) {src dst:Nat} {ts td:TI} (hs:E.ti src=some ts) (hd:E.ti dst=some td) {x v:AVal} {xv:Value} (hx:VRel (avoid X B) w B x xv)
    (h:convert H ts td (match ts.d,td.d with
      | .slice e,_=>E.ti e
      | _,.slice e=>E.ti e
      | _,_=>none) x=some v):
    ∃ v' w',(Go.convert src dst xv).run P w=.ok v' w'∧HRel B X w' H∧Lasts (avoid X B) w (avoid X B) w'∧(w'.os=w.os∧w'.output=w.output∧w'.tape=w.tape)∧(∀ r,r < w.heap.size→w'.heap[r]?=w.heap[r]?)∧VRel (avoid X B) w' B v v':=by
 obtain ⟨i1,d1,z1,hT1⟩:=hE.ty src ts hs
 obtain ⟨i2,d2,z2,hT2⟩:=hE.ty dst td hd
 have hkeep:∀ {v':Value},(Go.convert src dst xv).run P w=.ok v' w→VRel (avoid X B) w B v v'→∃ v' w',(Go.convert src dst xv).run P w=.ok v' w'∧HRel B X w' H∧Lasts (avoid X B) w (avoid X B) w'∧(w'.os=w.os∧w'.output=w.output∧w'.tape=w.tape)∧(∀ r,r < w.heap.size→w'.heap[r]?=w.heap[r]?)∧VRel (avoid X B) w' B v v':=
  fun h1 h2=>⟨_,w,h1,hH,.refl _ _,⟨rfl,rfl,rfl⟩,fun _ _=>rfl,h2⟩
 have key:z3Q H ts td (match ts.d,td.d with
       | .slice e,_=>E.ti e
       | _,.slice e=>E.ti e
       | _,_=>none) x=some v→(∀ s,x ≠ .str s)→∃ v' w',(Go.convert src dst xv).run P w=.ok v' w'∧HRel B X w' H∧Lasts (avoid X B) w (avoid X B) w'∧(w'.os=w.os∧w'.output=w.output∧w'.tape=w.tape)∧(∀ r,r < w.heap.size→w'.heap[r]?=w.heap[r]?)∧VRel (avoid X B) w' B v v':=by
  intro h hns
  unfold z3Q at h
  split at h
  · rename_i e hds hdd
    rw [hds] at h
    simp only at h
    split at h
    · rename_i sz by0 z0 hte
      split at h
      · rename_i n es hel
        simp only [Option.map_eq_some_iff] at h
        obtain ⟨l,hb,rfl⟩:=h
        have e1:=z0y (hT1.d.trans hds);subst e1
        have e2:=z2m (hT2.d.trans hdd);subst e2
        obtain ⟨i3,d3,z3,hT3⟩:=hE.ty e _ hte
        have e3:=zD8 hT3.d;subst e3
        rcases zBP hH hx hel with ⟨s,hs,_⟩ | hl
        · exact absurd hs (hns s)
        · have h1:=zFu hb
          obtain ⟨ad,cap,rfl,hle,hsh⟩:=hl.shape
          have hn1:es=[] ∨ n=1:=by
           cases es with
           | nil=>exact .inl rfl
           | cons y ys=>right;rw [← hl.size y (by simp)];exact z5K (h1 y (by simp))
          have hconv:(Go.convert src dst (.slice ad es.length cap)).run P w=(Conv.bytesToString (.slice ad es.length cap)).run P w:=
           run_convert_bytes_string w src dst e ad es.length cap hT1.und hT3.und hT2.und
          have hstr:(Go.convert src dst (.slice ad es.length cap)).run P w=.ok (.string ⟨⟨l⟩⟩) w:=by
           rw [hconv]
           rcases hsh with rfl | ⟨r,o,c,T,fz,rfl,hc,hcs,hr⟩
           · simp only [z4J,Option.some.injEq] at hb
             subst hb
             cases ad with
             | none=>rfl
             | some a=>
               simp only [List.length_nil]
               rw [run_bytesToString w a 0 cap [] (by simp [loadCells,loadCellsFrom])]
               rfl
           · rcases hn1 with rfl | rfl
             · simp only [z4J,Option.some.injEq] at hb
               subst hb
               simp only [List.length_nil]
               rw [run_bytesToString w ⟨r,o,none⟩ 0 cap [] (by simp [loadCells,loadCellsFrom])]
               rfl
             · rw [z1N h1] at hr
               obtain ⟨ns,hns2,rfl⟩:=zFv hb hr
               rw [run_bytesToString w ⟨r,o,none⟩ es.length cap ns (by rw [z21 hc (by omega)];rw [Nat.mul_one] at hns2;rw [hns2]),zVF]
          exact hkeep hstr (by simp [VRel])
      · cases h
    · cases h
  · cases h
 unfold convert at h
 split at h
 · rename_i k2 n
   split at h
   · rename_i k hdd
     cases h
     rw [z0v] at hx;subst hx
     have:=zD8 (hT2.d.trans hdd);subst this
     exact hkeep (v':=.int k (k.wrap n)) (by simp only [Go.convert,Sem.run_bind,z0G hT1.und,z0G hT2.und,Result.andThen_ok];rfl) (by simp [VRel])
   · cases h
 · rename_i s
   split at h
   · rename_i hds hdd
     cases h
     have hx0:=hx
     rw [z1p] at hx;subst hx
     have e1:=z2m (hT1.d.trans hds);subst e1
     have e2:=z2m (hT2.d.trans hdd);subst e2
     exact hkeep (by simp only [Go.convert,Sem.run_bind,z0G hT1.und,z0G hT2.und,Result.andThen_ok];rfl) hx0
   · rename_i e hds hdd
     rw [hds,hdd] at h
     simp only at h
     split at h
     · rename_i sz by0 z0 hel
       split at h
       · cases h
         rw [z1p] at hx;subst hx
         have e1:=z2m (hT1.d.trans hds);subst e1
         have e2:=z0y (hT2.d.trans hdd);subst e2
         obtain ⟨i3,d3,z3,hT3⟩:=hE.ty e _ hel
         have e3:=zD8 hT3.d;subst e3
         obtain ⟨cap,c,w',h1,h2,h3,h4,h5,⟨fz,h6⟩,h7,h8⟩:=z8U (P:=P) (w:=w) e s
         obtain ⟨k1,k2⟩:=hH.world h3 h4
         refine ⟨_,w',by simp only [Go.convert,Sem.run_bind,z0G hT1.und,z0G hT2.und,z0G hT3.und,Result.andThen_ok];exact h2,k1,k2,h5,h4,?_⟩
         have hone:∀ x ∈ s.map (fun b=>AVal.int .u8 b.toNat),x.oneC=true:=by intro x hx;obtain ⟨b,_,rfl⟩:=List.mem_map.1 hx;rfl
         simp only [VRel]
         refine ⟨some ⟨w.heap.size,0,none⟩,cap,by simp,by simpa using h1,by simp,by simp,by simp,.inr ⟨w.heap.size,0,s.map (fun b=>Value.int .u8 b.toNat),rfl,?_,fun x hx=>z5K (hone x hx),by rw [z1N hone];exact hone,⟨c,e,fz,h6,by simpa using h8,?_⟩,?_⟩⟩
         · rintro (h | ⟨id,en,s',t,h2,h3⟩)
           · have:=hH.xlt _ h;omega
           · have:=(hH.lt id en _ s' t h2 h3).1;omega
         · rw [List.drop_zero,List.length_map,Nat.mul_one,h7]
         · rw [z1N hone];exact zDQ _
       · cases h
     · cases h
   · cases h
 · exact key h (by simp)
 · exact key h (by simp)
 · exact key h (by simp)
 · cases h
theorem zEW (hE:EnvOk E P) {s:St} {a:Act} (hS:Sim X B w s a) {nx:Nat} {o:Oper} {res:ORes} {t t2:Nat} {x:Operand} (ho:o.op=.convert t t2 x) (h:stepOp E nx s o=some res):StepOk P X B w s a o res:=by
 simp only [stepOp,ho] at h
 split at h
 · rename_i ts td ax hs hd hx
   simp only [Option.map_eq_some_iff] at h
   obtain ⟨v,hc,rfl⟩:=h
   obtain ⟨v',w',h1,h2,h3,h4,h5,h6⟩:=zCI (P:=P) hE hS.heap hs hd (z0Q hS.tmps hx) hc
   exact ⟨v',w',B,.inl (by simp [execOp,ho,h1]),h2,⟨h3,.refl _,h4,fun id e _ he=>⟨he,fun r s' t hst=>h5 r (hS.heap.lt id e r s' t he hst).1⟩,fun r hx=>h5 r (hS.heap.xlt r hx)⟩,h6⟩
 · cases h
theorem zDn {x:Operand} {a:Act} {s:St} (hT:TRel (avoid X B) w B s a) {k:IntKind} {n:Int} (h:s.eval x=some (.int k n)):a.eval x=.int k n:=z0v.1 (z0Q hT h)
theorem zB0 (hE:EnvOk E P) {s:St} {a:Act} (hS:Sim X B w s a) {nx:Nat} {o:Oper} {res:ORes} {t:Nat} {x ix:Operand} (ho:o.op=.indexAddr t x ix) (h:stepOp E nx s o=some res):StepOk P X B w s a o res:=by
 simp only [stepOp,ho] at h
 split at h
 · rename_i ti ax k n ht hx hix
   have hi:=zDn hS.tmps hix
   have hr:=z0Q hS.tmps hx
   obtain ⟨d0,sz0,by0,z0⟩:=ti
   split at h
   · rename_i e hd
     simp only at hd;subst hd
     split at h
     · rename_i te hte
       split at h
       · rename_i h0
         split at h
         · rename_i cl sz es
           split at h
           · rename_i hsz
             simp only [Option.map_eq_some_iff] at h
             obtain ⟨v,⟨el,he,rfl⟩,rfl⟩:=h
             obtain ⟨r,o',cap,hv,hl⟩:=zKH hr he
             have hlt:=(List.getElem?_eq_some_iff.1 he).1
             refine .pure hS (v':=.pointer (some ⟨r,o'+n.toNat * sz,none⟩)) ?_ hl
             simp only [execOp,ho,hi,hv]
             rw [Sem.run_bind,z2Z hE ht hte h0 (by omega),z1y,hsz]
             rfl
           · cases h
         · rename_i id g i len cl
           split at h
           · rename_i g' sz fl bs hb
             split at h
             · rename_i hc
               simp only [Bool.and_eq_true,decide_eq_true_eq] at hc
               obtain ⟨⟨rfl,hsz⟩,hn⟩:=hc
               simp only [Option.map_some,Option.some.injEq] at h;subst h
               obtain ⟨en,hB,hg,hs,hh⟩:=hS.heap.cells hb
               simp only [VRel] at hr
               obtain ⟨ad,cap,hv,hle,_,hnil,en',hB',_,hr⟩:=hr
               rw [hB] at hB';cases hB'
               have hr:=hr hg.symm
               cases ad with
               | none=>have:=hnil rfl;omega
               | some ad=>
                 refine .pure hS (v':=.pointer (some (ad.add (n.toNat * te.sz)))) ?_ ?_
                 · simp only [execOp,ho,hi,hv]
                   rw [Sem.run_bind,z2Z hE ht hte h0 hn]
                   rfl
                 · simp only [VRel]
                   refine ⟨_,rfl,en,hB,by omega,fun _ r sh tot hst=>?_⟩
                   rw [hst] at hr
                   obtain ⟨_,_,had⟩:=hr
                   rcases had with h1 | h1
                   · omega
                   · cases h1
                     rw [z1y,hs,hsz,Nat.add_mul];simp [Nat.add_assoc]
             · cases h
           · cases h
         · rename_i id g i f len
           split at h
           · rename_i hc
             simp only [Bool.and_eq_true,decide_eq_true_eq] at hc
             simp only [Option.map_some,Option.some.injEq] at h;subst h
             simp only [VRel] at hr
             obtain ⟨ad,cap,hv,hle,hnil,en,hB,hg,hr⟩:=hr
             cases ad with
             | none=>have:=hnil rfl;omega
             | some ad=>
               refine .pure hS (v':=.pointer (some (ad.add (n.toNat * te.sz)))) ?_ ?_
               · simp only [execOp,ho,hi,hv]
                 rw [Sem.run_bind,z2Z hE ht hte h0 hc.2]
                 rfl
               · simp only [VRel]
                 refine ⟨_,rfl,en,hB,hg,fun hge r sh tot hst=>?_⟩
                 rcases hr hge r sh tot hst with h1 | h1
                 · omega
                 · cases h1
                   rw [z1y,hc.1];simp [Nat.add_assoc]
           · cases h
         · cases h
       · cases h
     · cases h
   · rename_i len e hd
     simp only at hd;subst hd
     split at h
     · rename_i te hte
       split at h
       · rename_i hc
         simp only [Bool.and_eq_true,decide_eq_true_eq] at hc
         split at h
         · rename_i id g i f
           simp only [Option.map_some,Option.some.injEq] at h;subst h
           simp only [VRel] at hr
           obtain ⟨ad,hv,en,hB,hg,hr⟩:=hr
           refine .pure hS (v':=.pointer (some (ad.add (n.toNat * te.sz)))) ?_ ?_
           · simp only [execOp,ho,hi,hv]
             rw [Sem.run_bind,z3p hE ht hte hc.1 hc.2]
             rfl
           · simp only [VRel]
             exact ⟨_,rfl,en,hB,hg,fun hge r sh tot hst=>by rw [hr hge r sh tot hst,z1y,Nat.add_assoc]⟩
         · rename_i el f
           simp only [Option.map_some,Option.some.injEq] at h;subst h
           simp only [VRel] at hr
           obtain ⟨r,o',vs,hv,hrest⟩:=hr
           refine .pure hS (v':=.pointer (some ⟨r,o'+(f+n.toNat * te.sz),none⟩)) ?_ ?_
           · simp only [execOp,ho,hi,hv]
             rw [Sem.run_bind,z3p hE ht hte hc.1 hc.2,z1y,Nat.add_assoc]
             rfl
           · simp only [VRel]
             exact ⟨r,o',vs,rfl,hrest⟩
         · cases h
       · cases h
     · cases h
   · cases h
 · cases h
theorem zIT (hE:EnvOk E P) {s:St} {a:Act} (hS:Sim X B w s a) {nx:Nat} {o:Oper} {res:ORes} {t:Nat} {x ix:Operand} (ho:o.op=.index t x ix) (h:stepOp E nx s o=some res):StepOk P X B w s a o res:=by
 simp only [stepOp,ho] at h
 split at h
 · rename_i ti ax k n ht hx hix
   have hi:=zDn hS.tmps hix
   have hr:=z0Q hS.tmps hx
   obtain ⟨d0,sz0,by0,z0⟩:=ti
   split at h
   · rename_i l hd
     simp only at hd;subst hd
     split at h
     · rename_i h0
       simp only [Option.map_eq_some_iff] at h
       obtain ⟨v,⟨b,hb,rfl⟩,rfl⟩:=h
       rw [z1p] at hr
       refine .pure hS (v':=.int .u8 b.toNat) ?_ (by simp [VRel])
       simp only [execOp,ho,hi,hr]
       rw [Sem.run_bind,z8t hE ht h0 hb]
       rfl
     · cases h
   · rename_i len e cs hd
     simp only at hd;subst hd
     split at h
     · rename_i te hte
       split at h
       · rename_i hc
         simp only [Bool.and_eq_true,decide_eq_true_eq] at hc
         simp only [Option.map_eq_some_iff] at h
         obtain ⟨v,hp,rfl⟩:=h
         simp only [VRel] at hr
         obtain ⟨vs,hv,h1,h2⟩:=hr
         obtain ⟨v',h3,h4⟩:=zGx (P:=P) hE hte h1 h2 hp
         refine .pure hS ?_ h4
         simp only [execOp,ho,hi,hv]
         rw [Sem.run_bind,z9t hE ht hte hc.1 hc.2,h3]
         rfl
       · cases h
     · cases h
   · cases h
 · cases h
end
section
variable {E:Env} {P:Program} {w:World} {X:Nat→Prop} {B:BMap} {H:Heap}
theorem zAt:(∀ a:AVal,∀ b r,eqv a b=some r→a.under 0=true)∧(∀ l:List AVal,∀ m r,eqvL l m=some r→underL 0 l=true):=by
 refine AVal.strong ?_ ?_
 · intro a ihp ihq b r h
   cases a with
   | bool _ | int _ _ | str _=>rfl
   | agg cs=>
     cases b with
     | agg ds=>simp only [eqv] at h;simpa only [AVal.under] using ihq cs (by simp) ds r h
     | _=>simp [eqv] at h
   | _=>cases b <;> simp [eqv] at h
 · intro l ihp ihq m r h
   cases l with
   | nil=>rfl
   | cons a as=>
     cases m with
     | nil=>simp [eqvL] at h
     | cons b bs=>
       simp only [eqvL] at h
       split at h
       · rename_i x y h1 h2
         simp only [underL,Bool.and_eq_true]
         exact ⟨ihp a (by simp;omega) b x h1,ihq as (by simp;omega) bs y h2⟩
       · cases h
theorem zJn {a b:AVal} {r:Bool} (h:eqv a b=some r):noRef a=true:=zAt.1 a b r h
theorem zGZ {a:AVal} (h:(eqv a a).isSome=true):noRef a=true:=by
 cases hh:eqv a a with
 | none=>simp [hh] at h
 | some r=>exact zJn hh
theorem zCP {Y:Nat→Prop} {B B':BMap}:(∀ a:AVal,∀ b av bv,eqv a b=some true→VRel Y w B a av→VRel Y w B' b bv→av=bv) ∧
    (∀ l:List AVal,∀ m lv mv,eqvL l m=some true→VRelL Y w B l lv→VRelL Y w B' m mv→lv=mv):=by
 refine AVal.strong ?_ ?_
 · intro a ihp ihq b av bv h ha hb
   cases a with
   | bool x=>cases b <;> simp [eqv] at h;simp only [VRel] at ha hb;rw [ha,hb,h]
   | int k x=>cases b <;> simp [eqv] at h;simp only [VRel] at ha hb;rw [ha,hb,h.1,h.2]
   | str x=>cases b <;> simp [eqv] at h;simp only [VRel] at ha hb;rw [ha,hb,h]
   | agg cs=>
     cases b with
     | agg ds=>
       simp only [eqv] at h
       simp only [VRel] at ha hb
       obtain ⟨vs,rfl,h1,_⟩:=ha
       obtain ⟨us,rfl,h2,_⟩:=hb
       have:=ihq cs (by simp) ds _ _ h h1 h2
       rw [Array.toList_inj.1 this]
     | _=>simp [eqv] at h
   | _=>cases b <;> simp [eqv] at h
 · intro l ihp ihq m lv mv h hl hm
   cases l with
   | nil=>cases m with
     | nil=>rw [z08] at hl hm;rw [hl,hm]
     | cons _ _=>simp [eqvL] at h
   | cons a as=>
     cases m with
     | nil=>simp [eqvL] at h
     | cons b bs=>
       simp only [eqvL] at h
       split at h
       · rename_i x y h1 h2
         simp only [Option.some.injEq,Bool.and_eq_true] at h
         obtain ⟨rfl,rfl⟩:=h
         obtain ⟨v,vs,rfl,g1,g2⟩:=z05.1 hl
         obtain ⟨u,us,rfl,g3,g4⟩:=z05.1 hm
         rw [ihp a (by simp;omega) b v u h1 g1 g3,ihq as (by simp;omega) bs vs us h2 g2 g4]
       · cases h
theorem z8q {Y:Nat→Prop} {B:BMap} {a:AVal} {v:Value} {n:Nat} {b:AVal} {r:Bool} (h:eqv a b=some r) (ho:a.oneC=true) (hv:VRel Y w B a v):Instr.sameBits n v v=true:=by
 cases a with
 | bool _ | int _ _ | str _=>simp only [VRel] at hv;subst hv;cases n <;> simp [Instr.sameBits,MapKept.bytes_beq]
 | agg _=>simp [AVal.oneC] at ho
 | _=>cases b <;> simp [eqv] at h
theorem z7m {Y:Nat→Prop} {B:BMap} {n:Nat}:∀ {l m:List AVal} {vs:List Value} {r:Bool},eqvL l m=some r→(∀ x ∈ l,x.oneC=true)→VRelL Y w B l vs→((vs.zip vs).all fun (x,y)=>Instr.sameBits n x y)=true
 | [],_,vs,_,_,_,hv=>by rw [z08] at hv;subst hv;rfl
 | a :: l,[],_,_,h,_,_=>by simp [eqvL] at h
 | a :: l,b :: m,vs,r,h,ho,hv=>by
   simp only [eqvL] at h
   split at h
   · rename_i x y h1 h2
     obtain ⟨v,vs',rfl,g1,g2⟩:=z05.1 hv
     simp only [List.zip_cons_cons,List.all_cons,Bool.and_eq_true]
     exact ⟨z8q h1 (ho a (by simp)) g1,z7m h2 (fun x hx=>ho x (by simp [hx])) g2⟩
   · cases h
theorem zEK {Y:Nat→Prop} {B:BMap} {a b:AVal} {v:Value} {r:Bool} (h:eqv a b=some r) (hv:VRel Y w B a v):Instr.sameBits 10000 v v=true:=by
 cases a with
 | agg cs=>
   cases b with
   | agg ds=>
     simp only [eqv] at h
     simp only [VRel] at hv
     obtain ⟨vs,rfl,h1,h2⟩:=hv
     simp only [Instr.sameBits,beq_self_eq_true,Bool.true_and]
     exact z7m h h2 h1
   | _=>simp [eqv] at h
 | bool _ | int _ _ | str _=>exact z8q h rfl hv
 | _=>cases b <;> simp [eqv] at h
theorem z8I {Y:Nat→Prop} {B B':BMap} {a b:AVal} {av bv:Value} (h:eqv a b=some true) (ha:VRel Y w B a av) (hb:VRel Y w B' b bv):(Instr.keyThatStays bv av).run P w=.ok av w:=by
 have:=(zCP (w:=w) (Y:=Y) (B:=B) (B':=B')).1 a b av bv h ha hb
 subst this
 simp [Instr.keyThatStays,zEK h ha]
def FRel (Y:Nat→Prop) (w:World):Option (Nat × AVal)→Option (Nat × Value)→Prop
 | none,none=>True
 | some (i,a),some (j,v)=>i=j∧VRel Y w B0 a v
 | _,_=>False
theorem zAP {Y:Nat→Prop} {d:TypeDesc} {x y:AVal} {xv yv:Value} {b b':Bool} (hx:VRel Y w B x xv) (hy:VRel Y w B0 y yv) (h:eqv x y=some b) (h':Instr.sameNow d xv yv=some b'):b=b':=by
 cases x <;> cases y <;> simp only [eqv] at h <;> first
  | (cases h;done)
  | skip
 · simp only [VRel] at hx hy;subst hx;subst hy
   cases d <;> simp_all [Instr.sameNow]
 · simp only [VRel] at hx hy;subst hx;subst hy
   cases d <;> simp_all [Instr.sameNow]
   rw [← h.2,← h',Bool.eq_iff_iff]
   simp
 · simp only [VRel] at hx hy;subst hx;subst hy
   cases d <;> simp_all [Instr.sameNow]
   rw [← h,← h',Bool.eq_iff_iff,MapKept.bytes_beq]
   simp
 · simp only [VRel] at hx hy
   obtain ⟨u,rfl,_⟩:=hx
   cases d <;> simp [Instr.sameNow] at h'
theorem z7E {Y:Nat→Prop} {d:TypeDesc} {k:AVal} {kv:Value} (hk:VRel Y w B0 k kv):∀ (m:List (AVal × AVal)) (es:List MapEntry) (i:Nat) (r:Option (Nat × AVal)) (r':Option (Nat × Value)),
    MRel Y w m es→findKey k m i=some r→Instr.findNow d kv es i=some r'→FRel Y w r r'
 | [],es,i,r,r',hm,h,h'=>by
   cases es with
   | nil=>simp only [findKey,Instr.findNow,Option.some.injEq] at h h';subst h;subst h';trivial
   | cons _ _=>simp [MRel] at hm
 | (k',v') :: m,es,i,r,r',hm,h,h'=>by
   cases es with
   | nil=>simp [MRel] at hm
   | cons e es=>
     obtain ⟨h1,h2,h3⟩:=hm
     simp only [findKey] at h
     simp only [Instr.findNow] at h'
     split at h'
     · rename_i hn
       cases h'
       split at h
       · cases h;exact ⟨rfl,h2⟩
       · rename_i hq
         have:=zAP hk h1 hq hn
         cases this
       · cases h
     · rename_i hn
       split at h
       · rename_i hq
         have:=zAP hk h1 hq hn
         cases this
       · exact z7E hk m es (i+1) r r' h3 h h'
       · cases h
     · cases h'
theorem z5D {Y:Nat→Prop} {q:EqTy} (he:EqOk P q) {k:AVal} {kv:Value} (hft:q.fits k=true) (hk:VRel Y w B0 k kv):∀ (m:List (AVal × AVal)) (es:List MapEntry) (i:Nat) (r:Option (Nat × AVal)),
    MRel Y w m es→findKey k m i=some r→∃ r',(Instr.findAsking q.t kv es i).run P w=.ok r' w∧FRel Y w r r'
 | [],es,i,r,hm,h=>by
   cases es with
   | nil=>simp only [findKey,Option.some.injEq] at h;subst h;exact ⟨none,by simp [Instr.findAsking],trivial⟩
   | cons _ _=>simp [MRel] at hm
 | (k',v') :: m,es,i,r,hm,h=>by
   cases es with
   | nil=>simp [MRel] at hm
   | cons e es=>
     obtain ⟨h1,h2,h3⟩:=hm
     simp only [findKey] at h
     split at h
     · rename_i hq
       cases h
       have:=he.eq Y w B0 k k' kv e.key true hft hk h1 hq
       exact ⟨some (i,e.val),by simp [Instr.findAsking,this],rfl,h2⟩
     · rename_i hq
       have:=he.eq Y w B0 k k' kv e.key false hft hk h1 hq
       obtain ⟨r',g1,g2⟩:=z5D he hft hk m es (i+1) r h3 h
       exact ⟨r',by simp [Instr.findAsking,this,g1],g2⟩
     · cases h
theorem z3V {Y:Nat→Prop} {q:EqTy} {d:TypeDesc} (hd:P.underlying q.t=some d) (he:EqOk P q) {k:AVal} {kv:Value} (hft:q.fits k=true) (hk:VRel Y w B0 k kv) {m:List (AVal × AVal)} {es:List MapEntry} {r:Option (Nat × AVal)}
    (hm:MRel Y w m es) (h:findKey k m 0=some r):∃ r',(Instr.findKey q.t kv es).run P w=.ok r' w∧FRel Y w r r':=by
 cases hn:Instr.findNow d kv es 0 with
 | some r'=>exact ⟨r',by simp [Instr.findKey,z0G hd,hn],z7E hk m es 0 r r' hm h hn⟩
 | none=>
   obtain ⟨r',g1,g2⟩:=z5D he hft hk m es 0 r hm h
   exact ⟨r',by simp [Instr.findKey,z0G hd,hn,g1],g2⟩
theorem zIn {Y:Nat→Prop} {m:List (AVal × AVal)} {me:Array MapEntry} (h:MRel Y w m me.toList):m.length=me.size:=by rw [zEn h];simp
theorem zGD {Y:Nat→Prop}:∀ {m:List (AVal × AVal)} {es:List MapEntry} {i:Nat} {k v:AVal},MRel Y w m es→m[i]?=some (k,v)→∃ e,es[i]?=some e∧VRel Y w B0 k e.key∧VRel Y w B0 v e.val
 | [],_,_,_,_,_,h=>by simp at h
 | _ :: _,[],_,_,_,h,_=>by simp [MRel] at h
 | (k',v') :: m,e :: es,0,k,v,hm,h=>by
   simp at h;obtain ⟨rfl,rfl⟩:=h
   exact ⟨e,by simp,hm.1,hm.2.1⟩
 | (k',v') :: m,e :: es,i+1,k,v,hm,h=>by
   simp at h
   obtain ⟨e',h1,h2⟩:=zGD hm.2.2 h
   exact ⟨e',by simpa using h1,h2⟩
theorem z9H {Y:Nat→Prop} {k v:AVal} {kv vv:Value} (hk:VRel Y w B0 k kv) (hv:VRel Y w B0 v vv):∀ {m:List (AVal × AVal)} {es:List MapEntry} (i:Nat),MRel Y w m es→MRel Y w (m.set i (k,v)) (es.modify i fun e=>{ e with key:=kv,val:=vv })
 | [],[],i,_=>by cases i <;> simp [MRel]
 | _ :: _,[],_,h=>by simp [MRel] at h
 | [],_ :: _,_,h=>by simp [MRel] at h
 | (k',v') :: m,e :: es,0,hm=>by
   simp only [List.set_cons_zero,List.modify_zero_cons]
   exact ⟨hk,hv,hm.2.2⟩
 | (k',v') :: m,e :: es,i+1,hm=>by
   simp only [List.set_cons_succ,List.modify_succ_cons]
   exact ⟨hm.1,hm.2.1,z9H hk hv i hm.2.2⟩
theorem zDG {Y:Nat→Prop} {k v:AVal} {e0:MapEntry} (hk:VRel Y w B0 k e0.key) (hv:VRel Y w B0 v e0.val):∀ {m:List (AVal × AVal)} {es:List MapEntry},MRel Y w m es→MRel Y w (m++[(k,v)]) (es++[e0])
 | [],[],_=>⟨hk,hv,trivial⟩
 | _ :: _,[],h=>by simp [MRel] at h
 | [],_ :: _,h=>by simp [MRel] at h
 | (k',v') :: m,e :: es,hm=>⟨hm.1,hm.2.1,zDG hk hv hm.2.2⟩
theorem z9x (k v:AVal):∀ (m m':List (AVal × AVal)) (i:Nat),z7R k v m=some m' →
    (findKey k m i=some none∧m'=m++[(k,v)]) ∨ ∃ j k' v',findKey k m i=some (some (i+j,v'))∧m'=m.set j (k,v)∧m[j]?=some (k',v')∧eqv k k'=some true
 | [],m',i,h=>by simp only [z7R,Option.some.injEq] at h;subst h;exact .inl ⟨rfl,rfl⟩
 | (k',v') :: m,m',i,h=>by
   simp only [z7R] at h
   split at h
   · rename_i hq;cases h;exact .inr ⟨0,k',v',by simp [findKey,hq],rfl,rfl,hq⟩
   · rename_i hq
     simp only [Option.map_eq_some_iff] at h
     obtain ⟨m1,h1,rfl⟩:=h
     rcases z9x k v m m1 (i+1) h1 with ⟨h2,h3⟩ | ⟨j,k1,v1,h2,h3,h4,h5⟩
     · exact .inl ⟨by simp [findKey,hq,h2],by rw [h3];rfl⟩
     · exact .inr ⟨j+1,k1,v1,by simp only [findKey,hq,h2];congr 3;omega,by rw [h3];rfl,by simpa using h4,h5⟩
   · cases h
theorem zFp (hE:EnvOk E P) {s:St} {a:Act} (hS:Sim X B w s a) {nx:Nat} {o:Oper} {res:ORes} {t:Nat} {m k:Operand} {ok:Bool} (ho:o.op=.lookup t m k ok) (h:stepOp E nx s o=some res):StepOk P X B w s a o res:=by
 simp only [stepOp,ho] at h
 split at h
 · rename_i kt e sz by0 z0 id ak ht hm hk
   obtain ⟨i1,d1,z1,hT1⟩:=hE.ty t _ ht
   have e1:=zD9 hT1.d;subst e1
   split at h
   · rename_i te es hte hid
     obtain ⟨i2,d2,z2,hT2⟩:=hE.ty e _ hte
     split at h
     · cases h
     · rename_i hc
       simp only [Bool.not_eq_true,Bool.not_eq_false'] at hc
       obtain ⟨q,hEq,rfl,hft⟩:=hE.keyOk hc
       have hc2:=EqTy.fits_self hft
       obtain ⟨en,r,sh,tot,me,cl,hB,hg,hst,hheap,hmr⟩:=hS.heap.mapp hid
       have hmv:=z0Q hS.tmps hm
       simp only [VRel] at hmv
       obtain ⟨r',hmv,en',hB',hr'⟩:=hmv
       rw [hB] at hB';cases hB'
       have:=hr' hg r sh tot hst;subst this
       have hkv:=z0Q hS.tmps hk
       have hk0:VRel (avoid X B) w B0 ak (a.eval k):=hkv.noRef (zGZ hc2)
       have hck:=hEq.key (avoid X B) w B0 ak (a.eval k) me.isEmpty hft hk0
       obtain ⟨dk,hdk⟩:∃ d,P.underlying q.t=some d:=hEq.und
       have hobj:(getObj r).run P w=.ok (.map me cl) w:=MapKept.run_getObj_map hheap
       split at h
       · rename_i i x hf
         obtain ⟨res',g1,g2⟩:=z3V hdk hEq hft hk0 hmr hf
         cases res' with
         | none=>exact g2.elim
         | some iv=>
           obtain ⟨j,xv⟩:=iv
           obtain ⟨_,hx⟩:=g2
           have hx':VRel (avoid X B) w B x xv:=hx.last (.refl _ _) (.nil _)
           have hrun:(Instr.lookup t (.map (some r)) (a.eval k) ok).run P w=.ok (if ok then .tuple #[xv,.bool true] else xv) w:=by
            simp [Instr.lookup,z0G hT1.und,hobj,hck,g1]
           cases h
           refine StepOk.pure hS (v':=if ok then .tuple #[xv,.bool true] else xv) ?_ ?_
           · simp [execOp,ho,hmv,hrun]
           · cases ok
             · simpa using hx'
             · simp only [if_true,VRel]
               exact ⟨_,rfl,z0D.2 ⟨hx',z0D.2 ⟨by simp [VRel],z0N⟩⟩⟩
       · rename_i hf
         obtain ⟨res',g1,g2⟩:=z3V hdk hEq hft hk0 hmr hf
         cases res' with
         | some iv=>exact g2.elim
         | none=>
           have hz:=z2y (w:=w) hT2.inf hT2.hz
           have hzr:=hT2.zero (avoid X B) w B
           have hrun:(Instr.lookup t (.map (some r)) (a.eval k) ok).run P w=.ok (if ok then .tuple #[z2,.bool false] else z2) w:=by
            simp [Instr.lookup,z0G hT1.und,hobj,hck,g1,hz]
           cases h
           refine StepOk.pure hS (v':=if ok then .tuple #[z2,.bool false] else z2) ?_ ?_
           · simp [execOp,ho,hmv,hrun]
           · cases ok
             · simpa using hzr
             · simp only [if_true,VRel]
               exact ⟨_,rfl,z0D.2 ⟨hzr,z0D.2 ⟨by simp [VRel],z0N⟩⟩⟩
       · cases h
   · cases h
 · cases h
theorem zB4 (hE:EnvOk E P) {s:St} {a:Act} (hS:Sim X B w s a) {nx:Nat} {o:Oper} {res:ORes} {t:Nat} {m k x:Operand} (ho:o.op=.mapUpdate t m k x) (h:stepOp E nx s o=some res):StepOk P X B w s a o res:=by
 simp only [stepOp,ho] at h
 split at h
 · rename_i kt e sz by0 z0 id ak ax ht hm hk hx
   obtain ⟨i1,d1,z1,hT1⟩:=hE.ty t _ ht
   have e1:=zD9 hT1.d;subst e1
   split at h
   · rename_i es hid
     split at h
     · rename_i hc
       simp only [Bool.and_eq_true,decide_eq_true_eq] at hc
       obtain ⟨⟨hc1,hro⟩,hnx⟩:=hc
       obtain ⟨q,hEq,rfl,hft⟩:=hE.keyOk hc1
       have hc2:=EqTy.fits_self hft
       obtain ⟨en,r,sh,tot,me,cl,hB,hg,hst,hheap,hmr⟩:=hS.heap.mapp hid
       have hmv:=z0Q hS.tmps hm
       simp only [VRel] at hmv
       obtain ⟨r',hmv,en',hB',hr'⟩:=hmv
       rw [hB] at hB';cases hB'
       have:=hr' hg r sh tot hst;subst this
       have hk0:VRel (avoid X B) w B0 ak (a.eval k):=(z0Q hS.tmps hk).noRef (zGZ hc2)
       have hx0:VRel (avoid X B) w B0 ax (a.eval x):=(z0Q hS.tmps hx).noRef hnx
       have hck:=hEq.key (avoid X B) w B0 ak (a.eval k) false hft hk0
       obtain ⟨dk,hdk⟩:∃ d,P.underlying q.t=some d:=hEq.und
       have hobj:(getObj r).run P w=.ok (.map me cl) w:=MapKept.run_getObj_map hheap
       have hidl:id < s.H.length:=(List.getElem?_eq_some_iff.1 hid).1
       have hrl:=(hS.heap.lt id en r sh tot hB hst).1
       split at h
       · rename_i es' hset
         cases h
         have fin:∀ (me':Array MapEntry) (cl':Nat),(Instr.mapUpdate t (.map (some r)) (a.eval k) (a.eval x)).run P w=.ok () { w with heap:=w.heap.setIfInBounds r (.map me' cl') }→MRel (avoid X B) w es' me'.toList→StepOk P X B w s a o (.val (.tuple []) [(id,.map es')]):=by
          intro me' cl' hrun hmr'
          obtain ⟨k1,k2,k3⟩:=hS.heap.upd (w':={ w with heap:=w.heap.setIfInBounds r (.map me' cl') }) (b:=.map es') (e:=en) hidl (by simp)
           (by
             intro q hq hne
             have:r ≠ q:=fun h=>hne en sh tot hB (h ▸ hst)
             simp [Array.getElem?_setIfInBounds,this])
           (fun e0 h0=>by rw [hB] at h0;cases h0;exact .refl _)
           (fun q s0 t0 h0=>by rw [hst] at h0;cases h0;exact ⟨by simpa using hrl,.inr ⟨en,sh,tot,hB,hst⟩⟩)
           (fun Y' B' hl hb=>by
             unfold BOk
             rw [hst]
             exact ⟨hg,me',cl',by simp [Array.getElem?_setIfInBounds,hrl],hmr'.last hl⟩)
          have hfix:∀ q,X q→(w.heap.setIfInBounds r (.map me' cl'))[q]?=w.heap[q]?:=by
           intro q hx
           have:r ≠ q:=fun e=>(hS.heap.lt id en r sh tot hB hst).2 (e ▸ hx)
           simp [this]
          refine ⟨undef,_,_,.inr ⟨by simp [execOp,ho,hmv,hrun],rfl⟩,by simpa [putU,hidl] using k1,⟨k2,k3,⟨rfl,rfl,rfl⟩,?_,fun q hx=>hfix q hx⟩,tuple0⟩
          intro id' e' hlt he'
          have hne:id' ≠ id:=by omega
          refine ⟨by rw [z1X _ _ hne];exact he',fun q s0 t0 hq=>?_⟩
          have:r ≠ q:=fun h=>hne (hS.heap.inj id' id e' en q s0 t0 sh tot he' hB hq (h ▸ hst))
          simp [Array.getElem?_setIfInBounds,this]
         have hso:∀ me' cl',(setObj r (.map me' cl')).run P w=.ok () { w with heap:=w.heap.setIfInBounds r (.map me' cl') }:=fun me' cl'=>MapKept.run_setObj_map _ hheap
         rcases z9x ak ax es es' 0 hset with ⟨g1,g2⟩ | ⟨j,k1,v1,g1,g2,g3,g4⟩
         · obtain ⟨res',q1,q2⟩:=z3V hdk hEq hft hk0 hmr g1
           cases res' with
           | some _=>exact q2.elim
           | none=>
             refine fin (me.push { key:=a.eval k,val:=a.eval x,born:=cl }) (cl+1) ?_ ?_
             · simp [Instr.mapUpdate,z0G hT1.und,hobj,hck,q1,hso]
             · rw [g2,Array.toList_push];exact zDG hk0 hx0 hmr
         · obtain ⟨res',q1,q2⟩:=z3V hdk hEq hft hk0 hmr g1
           cases res' with
           | none=>exact q2.elim
           | some jv=>
             obtain ⟨j',xv⟩:=jv
             obtain ⟨hj,_⟩:=q2
             obtain ⟨ee,p1,p2,p3⟩:=zGD hmr g3
             have hstay:=z8I (P:=P) g4 hk0 p2
             have hget:me[j']?=some ee:=by rw [← hj];simpa using p1
             refine fin (me.modify j' fun e=>{ e with key:=a.eval k,val:=a.eval x }) cl ?_ ?_
             · simp [Instr.mapUpdate,z0G hT1.und,hobj,hck,q1,hget,hstay,hso]
             · rw [g2,Array.toList_modify,← hj];simpa using z9H hk0 hx0 j hmr
       · cases h
     · cases h
   · cases h
 · cases h
end
section
variable {E:Env} {P:Program} {w:World} {X:Nat→Prop} {B:BMap} {H:Heap}
theorem z6w (hH:HRel B X w H) {id g sz:Nat} {fl:Bool} {bs es':List AVal} {e:Ent} {r sh tot ro k:Nat} {c:Array Value} {T:TypeId} {nc:List AVal} {cs:List Value}
    (hb:H[id]?=some (.cells g sz fl bs)) (hB:B id=some e) (hst:e.st=.real r sh tot) (hc:w.heap[r]?=some (.cells c T (0,0))) (hro:ro≤id)
    (hlen:es'.length=bs.length) (hall:∀ x ∈ es',x.cellsOf.length=sz) (hk:k+nc.length≤bs.length * sz) (he:flatC es'=putAt (flatC bs) k nc)
    (hcs:VRelL (avoid X B) w B nc cs) (h1:∀ x ∈ nc,x.oneC=true) (hfl:fl=true→underL 0 nc=true):
    ∃ w' B',(storeCells ⟨r,sh+k,none⟩ cs).run P w=.ok () w'∧HRel B' X w' (H.set id (.cells g sz fl es'))∧Evo ro B X w B' w':=by
 obtain ⟨e',hB',hg,hs,hh⟩:=hH.cells hb
 rw [hB] at hB';cases hB'
 rcases hh with ⟨hv,_⟩ | ⟨r',sh',tot',hst',⟨hlt,hpos⟩,hall0,h1c,c0,T0,hc0,hcsz,hr⟩
 · rw [hst] at hv;cases hv
 rw [hst] at hst';cases hst'
 rw [hc] at hc0;cases hc0
 have hcl:=z0O hcs
 have hm2:bs.length * sz≤tot * sz:=Nat.mul_le_mul_right _ hlt
 have hone:=hcs.one h1
 have hrun:=run_storeCells_at (P:=P) r (sh+k) T cs 0 c w hc (by omega) hone
 have hlen':(putAt c.toList (sh+k) cs).length=c.size:=by rw [z0p (by simp;omega)];simp
 obtain ⟨B',k1,k2⟩:=hH.write (es':=es') (c':=(putAt c.toList (sh+k) cs).toArray) (ro:=ro) hb hB hst hc hro hlen (by simpa using hlen') hall
  (fun x hx=>by
    rw [he] at hx
    unfold putAt at hx
    simp only [List.mem_append] at hx
    rcases hx with (hx | hx) | hx
    · exact h1c x (List.mem_of_mem_take hx)
    · exact h1 x hx
    · exact h1c x (List.mem_of_mem_drop hx))
  (by
    rw [he,hlen]
    simp only
    rw [putAt_in (by omega) (by simp;omega)]
    refine z5G hr ?_ (by rw [z0a hall0];omega)
    cases fl with
    | false=>exact hcs
    | true=>exact hcs.noRefL (hfl rfl))
 refine ⟨_,B',?_,k1,k2⟩
 rw [hrun]
 simp [putAt,Nat.add_assoc]
theorem zKU (k:IntKind):∀ (vs:List AVal) (n m:Int) (us:List Value),minL k n vs=some m→VRelL (avoid X B) w B vs us→(us.foldlM Builtin.min2 (.int k n)).run P w=.ok (.int k m) w
 | [],n,m,us,h,hr=>by
   rw [z08] at hr;subst hr
   simp only [minL,Option.some.injEq] at h;subst h;rfl
 | v :: vs,n,m,us,h,hr=>by
   obtain ⟨u,us',rfl,h1,h2⟩:=z05.1 hr
   cases v <;> simp only [minL,reduceCtorEq] at h
   split at h
   · rename_i hk;subst hk
     simp only [VRel] at h1;subst h1
     have:=zKU _ vs _ m us' h h2
     rw [List.foldlM_cons]
     simp only [Builtin.min2,pure_bind]
     exact this
   · cases h
theorem zKQ (k:IntKind):∀ (vs:List AVal) (n m:Int) (us:List Value),maxL k n vs=some m→VRelL (avoid X B) w B vs us→(us.foldlM Builtin.max2 (.int k n)).run P w=.ok (.int k m) w
 | [],n,m,us,h,hr=>by
   rw [z08] at hr;subst hr
   simp only [maxL,Option.some.injEq] at h;subst h;rfl
 | v :: vs,n,m,us,h,hr=>by
   obtain ⟨u,us',rfl,h1,h2⟩:=z05.1 hr
   cases v <;> simp only [maxL,reduceCtorEq] at h
   split at h
   · rename_i hk;subst hk
     simp only [VRel] at h1;subst h1
     have:=zKQ _ vs _ m us' h h2
     rw [List.foldlM_cons]
     simp only [Builtin.max2,pure_bind]
     exact this
   · cases h
theorem z7I {bs new:List AVal} {sz i:Nat} (h1:∀ x ∈ bs,x.cellsOf.length=sz) (h2:∀ x ∈ new,x.cellsOf.length=sz) (h:i+new.length≤bs.length):
    flatC (putList bs i new)=putAt (flatC bs) (i * sz) (flatC new):=by
 rw [z1L _ _ _ h]
 unfold putAt
 rw [z0j,z0j,z1m h1,z1k h1,z0a h2,← Nat.add_mul]
theorem zA2 {bs new:List AVal} {i:Nat} (h:i+new.length≤bs.length) {x:AVal} (hx:x ∈ putList bs i new):x ∈ bs ∨ x ∈ new:=by
 rw [z1L _ _ _ h] at hx
 unfold putAt at hx
 simp only [List.mem_append] at hx
 rcases hx with (hx | hx) | hx
 · exact .inl (List.mem_of_mem_take hx)
 · exact .inr hx
 · exact .inl (List.mem_of_mem_drop hx)
theorem zQY {α:Type} (l:List α) (n:Nat):l.take n=l.take (Nat.min l.length n):=by
 show l.take n=l.take (min l.length n)
 rw [Nat.min_def]
 split
 · rw [List.take_of_length_le (by omega),List.take_of_length_le (Nat.le_refl _)]
 · rfl
theorem zNC {α:Type} {l:List α} {i:Nat} {a:α} (h:l[i]?=some a):l.set i a=l:=by
 apply List.ext_getElem?
 intro j
 by_cases hj:i=j
 · subst hj
   rw [List.getElem?_set_self (List.getElem?_eq_some_iff.1 h).1,h]
 · rw [List.getElem?_set_ne hj]
theorem zHg (hE:EnvOk E P) {s:St} (hH:HRel B X w s.H) {nx:Nat} {t:Nat} {ts:List Nat} {ats:Array TypeId} (hat:ats.toList=t :: ts) {ty:TypeId} {d x:AVal} {args:Array Value} (hr:VRelL (avoid X B) w B [d,x] args.toList)
    {res:ORes} (h:builtin E nx s .copy (t :: ts) [d,x]=some res):
    ∃ v us v' w' B',res=.val v us∧(Builtin.copy_ ats ty args).run P w=.ok v' w'∧HRel B' X w' (putU s.H us)∧Evo s.ro B X w B' w'∧VRel (avoid X B') w' B' v v':=by
 obtain ⟨dv,rest,e1,hd,hr⟩:=z05.1 hr
 obtain ⟨xv,rest2,e2,hx,hr⟩:=z05.1 hr
 rw [z08] at hr;subst hr;subst e2
 have ha0:args[0]?=some dv:=by rw [← Array.getElem?_toList,e1];rfl
 have ha1:args[1]?=some xv:=by rw [← Array.getElem?_toList,e1];rfl
 have ht0:ats[0]?=some t:=by rw [← Array.getElem?_toList,hat];rfl
 simp only [builtin] at h
 split at h
 · rename_i e sz0 by0 z0 nsz es n ht hel hlen
   obtain ⟨i1,d1,z1,hT1⟩:=hE.ty t _ ht
   have q1:=z0y hT1.d;subst q1
   split at h
   · cases h
   · rename_i te hte
     obtain ⟨i2,d2,z2,hT2⟩:=hE.ty e _ hte
     have hsz2:(Go.sizeOf e).run P w=.ok te.sz w:=by rw [z0t hT2.inf,hT2.sz]
     split at h
     · cases h
     · rename_i hc
       simp only [Bool.not_eq_true',Bool.not_eq_false',Bool.not_eq_true,Bool.or_eq_true,List.isEmpty_iff,beq_iff_eq] at hc
       have hc:es=[] ∨ nsz=te.sz:=by
        by_cases h0:es=[]
        · exact .inl h0
        · exact .inr (by simpa [h0] using hc)
       have hdl:∃ ad cap,dv=.slice ad n cap∧n≤cap:=by
        cases d <;> simp only [lenOf,Option.some.injEq,reduceCtorEq] at hlen <;> subst hlen <;> simp only [VRel] at hd
        · simp [lenOf] at h
        · obtain ⟨ad,cap,rfl,h1,_⟩:=hd;exact ⟨ad,cap,rfl,h1⟩
        · obtain ⟨ad,cap,rfl,h1,_⟩:=hd;exact ⟨ad,cap,rfl,h1⟩
        · obtain ⟨ad,cap,rfl,h1,_⟩:=hd;exact ⟨ad,cap,rfl,h1⟩
       obtain ⟨ad,cap,rfl,hcap⟩:=hdl
       obtain ⟨hall,h1c,hl,cs,hcs,hcr⟩:=zEU (P:=P) hH hx hel (size:=te.sz) (hc.imp id Eq.symm) (n:=Nat.min es.length n) (Nat.min_le_left _ _)
       rw [← zQY] at hcs
       have hmin:Nat.min es.length n=(es.take n).length:=by rw [List.length_take];exact Nat.min_comm _ _
       generalize hmn:Nat.min es.length n=mn at hmin hcr hcs
       subst hmin
       have hrun:∀ {w':World},(∀ a,ad=some a→(storeCells a cs.toList).run P w=.ok () w')→(ad=none→w'=w)→(Builtin.copy_ ats ty args).run P w=.ok (.int .i64 (es.take n).length) w':=by
        intro w' h1 h2
        have hcr':=hcr w rfl
        rw [List.length_take] at hcr'
        cases ad with
        | none=>rw [h2 rfl];simp [Builtin.copy_,ht0,ha0,ha1,z0G hT1.und,hl,hsz2,hmn,hcr',goInt]
        | some a=>simp [Builtin.copy_,ht0,ha0,ha1,z0G hT1.und,hl,hsz2,hmn,hcr',h1 a rfl,goInt]
       have hone:∀ x ∈ flatC (es.take n),x.oneC=true:=fun x hx=>by
        rw [z1m hall] at hx;exact h1c x (List.mem_of_mem_take hx)
       have hall':∀ x ∈ es.take n,x.cellsOf.length=te.sz:=fun x hx=>by
        rcases hc with h0 | h0
        · subst h0;simp at hx
        · rw [← h0];exact hall x (List.mem_of_mem_take hx)
       have hcl:=z0O hcs
       rw [z0a hall'] at hcl
       have hle:(es.take n).length≤n:=by rw [List.length_take];omega
       generalize es.take n=new at *
       by_cases hnew:new=[]
       · subst hnew
         have hcs0:cs.toList=[]:=List.eq_nil_of_length_eq_zero (by rw [← hcl];simp)
         have hr1:=hrun (w':=w) (fun a _=>by rw [hcs0];rfl) (fun _=>rfl)
         refine ⟨.int .i64 0,?_⟩
         have fin:∀ us,putU s.H us=s.H→res=.val (.int .i64 0) us→∃ us v' w' B',res=.val (.int .i64 0) us∧(Builtin.copy_ ats ty args).run P w=.ok v' w'∧HRel B' X w' (putU s.H us)∧Evo s.ro B X w B' w'∧VRel (avoid X B') w' B' (.int .i64 0) v':=
          fun us hu hres=>⟨us,_,w,B,hres,hr1,by rw [hu];exact hH,.refl _ _ _ _,by simp [VRel]⟩
         cases d <;> (try simp only [reduceCtorEq] at h)
         · rename_i es3
           cases es3 with
           | nil=>cases h;exact fin [] rfl rfl
           | cons _ _=>cases h
         · split at h
           · rename_i hb
             split at h
             · rename_i hcond
               simp only [Bool.and_eq_true,decide_eq_true_eq] at hcond
               obtain ⟨⟨⟨_,hgg⟩,_⟩,_⟩:=hcond
               subst hgg
               cases h
               exact fin _ (by rw [putList];exact zAD hb) rfl
             · cases h
           · cases h
         · split at h
           · rename_i hel2
             obtain ⟨hb,hi⟩:=z33 hel2
             split at h
             · cases h
               refine fin _ ?_ rfl
               rw [putList,zNC hi]
               exact zAD hb
             · cases h
           · cases h
       · have hnp:=List.length_pos_iff.2 hnew
         cases d <;> (try simp only [reduceCtorEq] at h)
         · rename_i es3
           cases es3 with
           | nil=>simp [lenOf] at hlen;omega
           | cons _ _=>cases h
         · rename_i id g i len cl
           simp only [lenOf,Option.some.injEq] at hlen
           subst hlen
           split at h
           · rename_i g' sz fl bs hb
             split at h
             · rename_i hcond
               simp only [Bool.and_eq_true,Bool.or_eq_true,Bool.not_eq_true',decide_eq_true_eq,beq_iff_eq,List.isEmpty_iff] at hcond
               obtain ⟨⟨⟨⟨hro,hsz⟩,rfl⟩,hil⟩,hfl⟩:=hcond
               cases h
               have hsz:sz=te.sz:=hsz.resolve_left fun h0=>by rw [h0] at hil;simp at hil;omega
               subst hsz
               obtain ⟨en,hB,hg,hs1,hh⟩:=hH.cells hb
               simp only [VRel] at hd
               obtain ⟨ad',cap',hdv,_,_,_,en',hB',_,hd⟩:=hd
               cases hdv
               rw [hB] at hB';cases hB'
               have hd:=hd hg.symm
               rcases hh with ⟨_,hnil⟩ | ⟨r,sh,tot,hst,⟨hlt,hpos'⟩,hall3,h1c3,c,T,hcc,hcsz,hrr⟩
               · rw [hnil] at hil;simp at hil;omega
               · rw [hst] at hd
                 obtain ⟨_,_,had⟩:=hd
                 have had:ad=some ⟨r,sh+i * en.sz,none⟩:=had.resolve_left (by omega)
                 subst had
                 rw [hs1] at hrun
                 have hfit:i+new.length≤bs.length:=by omega
                 have hm1:(i+new.length) * te.sz≤bs.length * te.sz:=Nat.mul_le_mul_right _ hfit
                 rw [Nat.add_mul] at hm1
                 obtain ⟨w',B',g1,g2,g3⟩:=z6w (P:=P) (k:=i * te.sz) (es':=putList bs i new) (nc:=flatC new) hH hb hB hst hcc hro (by rw [z1L _ _ _ hfit,z0p hfit])
                  (fun x hx=>(zA2 hfit hx).elim (hall3 x) (hall' x)) (by rw [z0a hall'];exact hm1) (z7I hall3 hall' hfit) hcs hone
                  (fun hf=>z4K (by rcases hfl with h0 | h0
                                   · rw [hf] at h0;cases h0
                                   · exact h0))
                 refine ⟨_,_,_,w',B',rfl,hrun (fun a ha=>by cases ha;exact g1) (by simp),?_,g3,by simp [VRel]⟩
                 simp only [putU];rw [if_pos (hH.dom id en hB)];exact g2
             · cases h
           · cases h
         · rename_i id g i f len
           simp only [lenOf,Option.some.injEq] at hlen
           subst hlen
           split at h
           · rename_i sz fl bs ds hel2
             obtain ⟨hb,hi⟩:=z33 hel2
             split at h
             · rename_i hcond
               simp only [Bool.and_eq_true,Bool.or_eq_true,Bool.not_eq_true',decide_eq_true_eq] at hcond
               obtain ⟨⟨⟨⟨hro,hsz⟩,hil⟩,hones⟩,hfl⟩:=hcond
               cases h
               obtain ⟨en,hB,hg,hs1,hh⟩:=hH.cells hb
               simp only [VRel] at hd
               obtain ⟨ad',cap',hdv,_,_,en',hB',_,hd⟩:=hd
               cases hdv
               rw [hB] at hB';cases hB'
               have hd:=hd hg.symm
               rcases hh with ⟨_,hnil⟩ | ⟨r,sh,tot,hst,⟨hlt,hpos'⟩,hall3,h1c3,c,T,hcc,hcsz,hrr⟩
               · rw [hnil] at hi;simp at hi
               · have had:ad=some ⟨r,sh+i * en.sz+f,none⟩:=(hd r sh tot hst).resolve_left (by omega)
                 subst had
                 rw [hs1] at hrun
                 have hon:∀ x ∈ new,x.oneC=true:=by simpa using hones
                 rw [z1N hon] at hcs hone
                 have hds:ds.length=sz:=hall3 _ (List.mem_of_getElem? hi)
                 have hil1:=(List.getElem?_eq_some_iff.1 hi).1
                 have hm1:(i+1) * sz≤bs.length * sz:=Nat.mul_le_mul_right _ (by omega)
                 rw [Nat.succ_mul] at hm1
                 have hfit:f+new.length≤ds.length:=by omega
                 have hpl:(putList ds f new).length=sz:=by rw [z1L _ _ _ hfit,z0p hfit];exact hds
                 have hset:flatC (bs.set i (.agg (putList ds f new)))=putAt (flatC bs) (i * sz+f) new:=by
                  rw [z9j (e:=.agg (putList ds f new)) hall3 hil1 hpl]
                  simp only [AVal.cellsOf]
                  have:=z5y hall3 hi
                  simp only [AVal.cellsOf] at this
                  rw [z1L _ _ _ hfit,← this]
                  exact zAC (by omega) (by rw [z0a hall3];omega)
                 obtain ⟨w',B',g1,g2,g3⟩:=z6w (P:=P) (k:=i * sz+f) (es':=bs.set i (.agg (putList ds f new))) (nc:=new) hH hb hB hst hcc hro (by simp)
                  (fun x hx=>by
                    rcases List.mem_or_eq_of_mem_set hx with hx | hx
                    · exact hall3 x hx
                    · rw [hx];exact hpl) (by omega) hset hcs hone
                  (fun hf=>by
                    have:=z4K (l:=new) (by rcases hfl with h0 | h0
                                           · rw [hf] at h0;cases h0
                                           · exact h0)
                    rwa [z1N hon] at this)
                 refine ⟨_,_,_,w',B',rfl,hrun (fun a ha=>by cases ha;rw [Nat.add_assoc];exact g1) (by simp),?_,g3,by simp [VRel]⟩
                 simp only [putU];rw [if_pos (hH.dom id en hB)];exact g2
             · cases h
           · cases h
 · cases h
theorem zF4 (hE:EnvOk E P) {s:St} (hH:HRel B X w s.H) {nx:Nat} {t:Nat} {ts:List Nat} {ats:Array TypeId} (hat:ats.toList=t :: ts) {ty:TypeId} {id g i len:Nat} {cl:Bool} {args:Array Value} (hr:VRelL (avoid X B) w B [.ref id g i len cl] args.toList)
    {res:ORes} (h:builtin E nx s .clear (t :: ts) [.ref id g i len cl]=some res):
    ∃ v us v' w' B',res=.val v us∧(Builtin.clear_ ats ty args).run P w=.ok v' w'∧HRel B' X w' (putU s.H us)∧Evo s.ro B X w B' w'∧VRel (avoid X B') w' B' v v':=by
 obtain ⟨dv,rest,e1,hd,hr⟩:=z05.1 hr
 rw [z08] at hr;subst hr
 have ha0:args[0]?=some dv:=by rw [← Array.getElem?_toList,e1];rfl
 have ht0:ats[0]?=some t:=by rw [← Array.getElem?_toList,hat];rfl
 simp only [builtin] at h
 split at h
 · rename_i ti ht
   split at h
   · rename_i e hti
     split at h
     · rename_i te g' sz fl bs hte hb
       split at h
       · rename_i hcond
         simp only [Bool.and_eq_true,Bool.not_eq_true',decide_eq_true_eq,beq_iff_eq] at hcond
         obtain ⟨⟨⟨⟨⟨⟨⟨hro,hsz⟩,hgg⟩,hil⟩,hz⟩,hzt⟩,hzu⟩,hpos⟩:=hcond
         subst hgg
         subst hsz
         cases h
         obtain ⟨i1,d1,z1,hT1⟩:=hE.ty t _ ht
         have q1:=z0y (hT1.d.trans hti);subst q1
         obtain ⟨i2,d2,z2,hT⟩:=hE.ty e te hte
         obtain ⟨en,hB,hg,hs1,hh⟩:=hH.cells hb
         simp only [VRel] at hd
         obtain ⟨ad,cap,rfl,hlc,_,_,en',hB',_,hd⟩:=hd
         rw [hB] at hB';cases hB'
         have hd:=hd hg.symm
         rcases hh with ⟨_,hnil⟩ | ⟨r,sh,tot,hst,⟨hlt,hpos'⟩,hall3,h1c3,c,T,hcc,hcsz,hrr⟩
         · rw [hnil] at hil;simp at hil;omega
         · rw [hst] at hd
           obtain ⟨_,_,had⟩:=hd
           have had:ad=some ⟨r,sh+i * en.sz,none⟩:=had.resolve_left (by omega)
           subst had
           have hz0:=hT.zero (avoid X B) w B
           have hzc:=hz0.cells hzt
           have hzl:=z0O hzc.1
           simp only [Array.length_toList] at hzl
           have hrep:=z7x hz0 hzt len
           have hmem:∀ x ∈ List.replicate len te.zero,x=te.zero:=fun x hx=>(List.mem_replicate.1 hx).2
           have hall:∀ x ∈ List.replicate len te.zero,x.cellsOf.length=te.sz:=fun x hx=>by rw [hmem x hx];exact hz
           have hone:∀ x ∈ flatC (List.replicate len te.zero),x.oneC=true:=fun x hx=>by
            have:∀ m,x ∈ flatC (List.replicate m te.zero)→x ∈ te.zero.cellsOf:=by
             intro m
             induction m with
             | zero=>simp [flatC]
             | succ m ih=>simp only [List.replicate_succ,flatC,List.mem_append];exact fun h=>h.elim (fun h=>h) ih
            exact hzc.2 x (this _ hx)
           have hrep':VRelL (avoid X B) w B (flatC (List.replicate len te.zero)) (Builtin.zeroCells z2.cells len).toList:=by
            rw [hzl] at hrep
            simpa [Builtin.zeroCells] using hrep
           have hrun:∀ {w':World},(storeCells ⟨r,sh+i * te.sz,none⟩ (Builtin.zeroCells z2.cells len).toList).run P w=.ok () w'→(Builtin.clear_ ats ty args).run P w=.ok (.tuple #[]) w':=by
            intro w' h1
            have hzv:(zeroValue e).run P w=.ok z2 w:=z2y hT.inf hT.hz w
            have hlen:∃ m,len=m+1:=⟨len - 1,by omega⟩
            obtain ⟨m,rfl⟩:=hlen
            rw [← hs1] at h1
            simp [Builtin.clear_,ht0,ha0,z0G hT1.und,hzv,h1]
           have hnl:(List.replicate len te.zero).length=len:=List.length_replicate
           generalize hnw:List.replicate len te.zero=new at *
           have hfit:i+new.length≤bs.length:=by omega
           have hm1:(i+new.length) * te.sz≤bs.length * te.sz:=Nat.mul_le_mul_right _ hfit
           rw [Nat.add_mul] at hm1
           obtain ⟨w',B',g1,g2,g3⟩:=z6w (P:=P) (k:=i * te.sz) (es':=putList bs i new) (nc:=flatC new) hH hb hB hst hcc hro (by rw [z1L _ _ _ hfit,z0p hfit])
            (fun x hx=>(zA2 hfit hx).elim (hall3 x) (hall x)) (by rw [z0a hall];exact hm1) (z7I hall3 hall hfit) hrep' hone
            (fun _=>z59 fun x hx=>by rw [hmem x hx];exact hzu)
           refine ⟨_,_,.tuple #[],w',B',rfl,hrun g1,?_,g3,by simp only [VRel];exact ⟨_,rfl,z0N⟩⟩
           simp only [putU];rw [if_pos (hH.dom id en hB)];exact g2
       · cases h
     · cases h
   · cases h
 · cases h
theorem zFJ {Y:Nat→Prop} {x:AVal} {xv:Value} {n:Nat} (hx:VRel Y w B x xv) (hl:lenOf x=some n) (hns:∀ l,x=.str l→False):∃ ad cap,xv=.slice ad n cap:=by
 cases x <;> simp only [lenOf,Option.some.injEq,reduceCtorEq] at hl <;> subst hl <;> simp only [VRel] at hx
 · exact (hns _ rfl).elim
 · obtain ⟨ad,cap,rfl,_⟩:=hx;exact ⟨ad,cap,rfl⟩
 · obtain ⟨ad,cap,rfl,_⟩:=hx;exact ⟨ad,cap,rfl⟩
 · obtain ⟨ad,cap,rfl,_⟩:=hx;exact ⟨ad,cap,rfl⟩
def BuiltOk (P:Program) (X:Nat→Prop) (B:BMap) (w:World) (s:St) (sem:Sem Next):ORes→Prop
 | .val v us=>∃ v' w' B',sem.run P w=.ok (.value v') w'∧HRel B' X w' (putU s.H us)∧Evo s.ro B X w B' w'∧VRel (avoid X B') w' B' v v'
 | _=>False
theorem BuiltOk.pure {s:St} (hH:HRel B X w s.H) {sem:Sem Next} {v:AVal} {v':Value} (h:sem.run P w=.ok (.value v') w) (hv:VRel (avoid X B) w B v v'):BuiltOk P X B w s sem (.val v []):=
 ⟨v',w,B,h,hH,.refl _ _ _ _,hv⟩
theorem zCD (hE:EnvOk E P) {s:St} (hH:HRel B X w s.H) {nx:Nat} {b:Builtin} {ats:Array TypeId} {ty:TypeId} {consts:Array Bool} {avs:List AVal} {args:Array Value} (hr:VRelL (avoid X B) w B avs args.toList)
    {res:ORes} (h:builtin E nx s b ats.toList avs=some res) (hf:∀ v us,res=.val v us→(∀ u ∈ us,nx≤u.1)→Slots s.H B nx us.length):
    BuiltOk P X B w s (Go.builtin b ats ty consts args) res:=by
 have hone:∀ {x:AVal},avs=[x]→∃ xv,args=#[xv]∧VRel (avoid X B) w B x xv:=by
  intro x hx
  subst hx
  obtain ⟨xv,rest,e1,hx,hr⟩:=z05.1 hr
  rw [z08] at hr;subst hr
  exact ⟨xv,by apply Array.ext';simpa using e1,hx⟩
 by_cases hcopy:∃ t ts d x,b=.copy∧ats.toList=t :: ts∧avs=[d,x]
 · obtain ⟨t,ts,d,x,rfl,hat,rfl⟩:=hcopy
   rw [hat] at h
   obtain ⟨v,us,v',w',B',rfl,h1,h2,h3,h4⟩:=zHg (ty:=ty) hE hH hat hr h
   exact ⟨v',w',B',by simp [Go.builtin,h1],h2,h3,h4⟩
 by_cases hclear:∃ t ts id g i len cl,b=.clear∧ats.toList=t :: ts∧avs=[.ref id g i len cl]
 · obtain ⟨t,ts,id,g,i,len,cl,rfl,hat,rfl⟩:=hclear
   rw [hat] at h
   obtain ⟨v,us,v',w',B',rfl,h1,h2,h3,h4⟩:=zF4 (ty:=ty) hE hH hat hr h
   exact ⟨v',w',B',by simp [Go.builtin,h1],h2,h3,h4⟩
 unfold builtin at h
 split at h
 · -- len
   rename_i t ts x hat
   have ht0:ats[0]?=some t:=by rw [← Array.getElem?_toList,hat];rfl
   obtain ⟨xv,rfl,hx⟩:=hone rfl
   have ha0:(#[xv]:Array Value)[0]?=some xv:=rfl
   split at h
   · rename_i ti ht
     obtain ⟨i1,d1,z1,hT1⟩:=hE.ty t _ ht
     have hd1:=hT1.d
     split at h
     · rename_i l hd
       cases h
       rw [hd] at hd1
       have:=z2m hd1;subst this
       rw [z1p] at hx;subst hx
       have hsz:(ByteArray.mk ⟨l⟩).size=l.length:=rfl
       exact .pure hH (v':=.int .i64 l.length) (by simp [Go.builtin,Builtin.len_,ht0,z0G hT1.und,goInt,hsz]) (by simp [VRel])
     · rename_i n e hd
       cases h
       rw [hd] at hd1
       have:=z4k hd1;subst this
       exact .pure hH (v':=.int .i64 n) (by simp [Go.builtin,Builtin.len_,ht0,z0G hT1.und,goInt]) (by simp [VRel])
     · rename_i e hd
       rw [hd] at hd1
       have:=z0y hd1;subst this
       split at h
       · cases h
       · rename_i hns
         split at h
         · rename_i n hl
           cases h
           obtain ⟨ad,cap,rfl⟩:=zFJ hx hl hns
           exact .pure hH (v':=.int .i64 n) (by simp [Go.builtin,Builtin.len_,ht0,z0G hT1.und,goInt]) (by simp [VRel])
         · cases h
     · rename_i k e hd
       cases h
       rw [hd] at hd1
       have:=zD9 hd1;subst this
       simp only [VRel] at hx;subst hx
       exact .pure hH (v':=.int .i64 0) (by simp [Go.builtin,Builtin.len_,ht0,z0G hT1.und,goInt]) (by simp [VRel])
     · rename_i k e id hd
       rw [hd] at hd1
       have:=zD9 hd1;subst this
       split at h
       · rename_i es hid
         cases h
         obtain ⟨en,r,sh,tot,me,cl,hB,hg,hst,hheap,hmr⟩:=hH.mapp hid
         simp only [VRel] at hx
         obtain ⟨r',rfl,en',hB',hr'⟩:=hx
         rw [hB] at hB';cases hB'
         have:=hr' hg r sh tot hst;subst this
         have hobj:(getObj r).run P w=.ok (.map me cl) w:=MapKept.run_getObj_map hheap
         have hlen:=zIn hmr
         exact .pure hH (v':=.int .i64 me.size) (by simp [Go.builtin,Builtin.len_,ht0,z0G hT1.und,goInt,hobj]) (by simp [VRel,hlen])
       · cases h
     · cases h
   · cases h
 · -- cap
   rename_i t ts x hat
   have ht0:ats[0]?=some t:=by rw [← Array.getElem?_toList,hat];rfl
   obtain ⟨xv,rfl,hx⟩:=hone rfl
   split at h
   · rename_i ti ht
     obtain ⟨i1,d1,z1,hT1⟩:=hE.ty t _ ht
     have hd1:=hT1.d
     split at h
     · rename_i e sz es hd
       cases h
       rw [hd] at hd1
       have:=z0y hd1;subst this
       simp only [VRel] at hx
       obtain ⟨ad,cap,rfl,_,hcap,_⟩:=hx
       have:=hcap trivial;subst this
       exact .pure hH (v':=.int .i64 es.length) (by simp [Go.builtin,Builtin.cap_,ht0,z0G hT1.und,goInt]) (by simp [VRel])
     · rename_i e id g i len hd
       cases h
       rw [hd] at hd1
       have:=z0y hd1;subst this
       simp only [VRel] at hx
       obtain ⟨ad,cap,rfl,_,hcap,_⟩:=hx
       have:=hcap trivial;subst this
       exact .pure hH (v':=.int .i64 cap) (by simp [Go.builtin,Builtin.cap_,ht0,z0G hT1.und,goInt]) (by simp [VRel])
     · cases h
   · cases h
 · -- append
   rename_i t t2 x y hat
   obtain ⟨xv,rest,e1,hx,hr⟩:=z05.1 hr
   obtain ⟨yv,rest2,e2,hy,hr⟩:=z05.1 hr
   rw [z08] at hr;subst hr;subst e2
   have ha:args=#[xv,yv]:=by apply Array.ext';simpa using e1
   have hats:ats=#[t,t2]:=by apply Array.ext';simpa using hat
   subst ha;subst hats
   split at h
   · rename_i ti2 ht2
     obtain ⟨i2,d2,z2,hT2⟩:=hE.ty t2 _ ht2
     have hd2:=hT2.d
     have key:((∃ e2,P.underlying t2=some (.slice e2)) ∨ P.underlying t2=some .string)→(match z0H E s.ro nx t x y s.H with
         | some (y,us)=>some (ORes.val y us)
         | none=>none)=some res→BuiltOk P X B w s (Go.builtin .append #[t,t2] ty consts #[xv,yv]) res:=by
      intro hk h
      split at h
      · rename_i r us happ
        cases h
        have hslot:(∃ b,us=[(nx,b)])→Slot s.H B nx:=by
         rintro ⟨b,rfl⟩
         exact (hf _ _ rfl (by simp)).head
        obtain ⟨v',w',B',h1,h2,h3,h4⟩:=zDL (ty:=ty) hE hH hx hy hslot hk happ
        exact ⟨v',w',B',by simp [Go.builtin,h1],h2,h3,h4⟩
      · cases h
     split at h
     · rename_i e hd
       rw [hd] at hd2
       have:=z0y hd2;subst this
       exact key (.inl ⟨_,hT2.und⟩) h
     · rename_i hd
       rw [hd] at hd2
       have:=z2m hd2;subst this
       exact key (.inr hT2.und) h
     · rename_i k hd
       rw [hd] at hd2
       have:=zD8 hd2;subst this
       split at h
       · rename_i r us happ
         cases h
         have hslot:(∃ b,us=[(nx,b)])→Slot s.H B nx:=by
          rintro ⟨b,rfl⟩
          exact (hf _ _ rfl (by simp)).head
         obtain ⟨v',w',B',h1,h2,h3,h4⟩:=z81 (ty:=ty) (ro:=s.ro) hE hH hx hy hslot hT2.und happ
         exact ⟨v',w',B',by simp [Go.builtin,h1],h2,h3,h4⟩
       · cases h
     · cases h
   · cases h
 · -- copy
   rename_i t ts d x hat
   exact absurd ⟨t,ts,d,x,rfl,hat,rfl⟩ hcopy
 · -- clear
   rename_i t ts id g i len cl hat
   exact absurd ⟨t,ts,id,g,i,len,cl,rfl,hat,rfl⟩ hclear
 · rename_i k n vs
   split at h
   · rename_i m hm
     cases h
     obtain ⟨xv,rest,e1,hx,hr⟩:=z05.1 hr
     rw [z0v] at hx;subst hx
     have:=zKU (P:=P) k vs n m rest hm hr
     exact .pure hH (v':=.int k m) (by simp [Go.builtin,Builtin.min_,e1,this]) (by simp [VRel])
   · cases h
 · rename_i k n vs
   split at h
   · rename_i m hm
     cases h
     obtain ⟨xv,rest,e1,hx,hr⟩:=z05.1 hr
     rw [z0v] at hx;subst hx
     have:=zKQ (P:=P) k vs n m rest hm hr
     exact .pure hH (v':=.int k m) (by simp [Go.builtin,Builtin.max_,e1,this]) (by simp [VRel])
   · cases h
 · cases h
end
section
variable {E:Env} {P:Program} {w:World} {X:Nat→Prop} {B:BMap}
theorem zL4 {s:St} {a:Act} (hS:Sim X B w s a) {nx:Nat} {o:Oper} {res:ORes} {x:Operand} (ho:o.op=.move x) (h:stepOp E nx s o=some res):StepOk P X B w s a o res:=by
 simp only [stepOp,ho,Option.map_eq_some_iff] at h
 obtain ⟨v,hx,rfl⟩:=h
 exact .pure hS (by simp [execOp,ho]) (z0Q hS.tmps hx)
theorem zL5 {s:St} {a:Act} (hS:Sim X B w s a) {nx:Nat} {o:Oper} {res:ORes} {c x y:Operand} (ho:o.op=.pick c x y) (h:stepOp E nx s o=some res):StepOk P X B w s a o res:=by
 simp only [stepOp,ho] at h
 split at h
 · rename_i hc
   simp only [Option.map_eq_some_iff] at h
   obtain ⟨v,hx,rfl⟩:=h
   have hcv:=z1F.1 (z0Q hS.tmps hc)
   exact .pure hS (by simp [execOp,ho,hcv,asBool]) (z0Q hS.tmps hx)
 · rename_i hc
   simp only [Option.map_eq_some_iff] at h
   obtain ⟨v,hx,rfl⟩:=h
   have hcv:=z1F.1 (z0Q hS.tmps hc)
   exact .pure hS (by simp [execOp,ho,hcv,asBool]) (z0Q hS.tmps hx)
 · cases h
theorem zFo {s:St} {a:Act} (hS:Sim X B w s a) {nx:Nat} {o:Oper} {res:ORes} {x:Operand} (ho:o.op=.assign x) (h:stepOp E nx s o=some res) (hf:Free s B nx res):StepOk P X B w s a o res:=by
 simp only [stepOp,ho] at h
 split at h
 · rename_i hx
   have hv:=z0Q hS.tmps hx
   split at h
   · cases h
     obtain ⟨hN,hEv⟩:=hS.heap.new (w':=w) (b:=.cells 0 0 false []) (e:=⟨0,0,.virt⟩) s.ro (hf (by simp)).head (Nat.le_refl _) (fun _ _=>rfl) ⟨rfl,rfl,rfl⟩ (fun r s t h=>by cases h)
      (fun Y' B' _ _=>by simp [BOk])
     refine ⟨_,_,_,.inl (by simp [execOp,ho];rfl),hN,hEv,?_⟩
     simp only [VRel] at hv
     obtain ⟨ad,cap,hv,_,_,hz,_⟩:=hv
     obtain ⟨rfl,rfl⟩:=hz trivial
     rw [hv]
     simp only [VRel]
     exact ⟨none,0,rfl,by simp,by simp,by simp,_,z1H _ _ _,Nat.le_refl _,fun _=>⟨trivial,rfl,fun _=>rfl⟩⟩
   · cases h
     exact .pure hS (by simp [execOp,ho]) hv
 · simp only [Option.map_eq_some_iff] at h
   obtain ⟨v,hx,rfl⟩:=h
   exact .pure hS (by simp [execOp,ho]) (z0Q hS.tmps hx)
theorem zBp {s:St} {a:Act} (hS:Sim X B w s a) {f:Operand} {g:Nat} {first cap:List AVal} (hf:s.eval f=some (.func g first cap)) {os:List Operand} {args:List AVal} (ha:z34 s os=some args) {c:Call} (hc:c.callee=.value f) (hos:c.args.toList=os) (ty:TypeId):
    ∃ (x y:Array Value),(resolve a.eval c ty).run P w=.ok { target:=.fn (.func g) y,args:=x++c.args.map a.eval } w∧VRelL (avoid X B) w B (first++args++cap) (x++c.args.map a.eval++y).toList:=by
 have h1:=z0Q hS.tmps hf
 simp only [VRel] at h1
 obtain ⟨x,y,h1,h2,h3⟩:=h1
 have h4:=z7B hS.tmps ha
 refine ⟨x,y,by simp [resolve,hc,Deferred.ofValue,h1],?_⟩
 simp only [Array.toList_append,Array.toList_map,hos]
 exact VRelL_append (VRelL_append h2 h4) h3
theorem zL1 (hE:EnvOk E P) {s:St} {a:Act} (hS:Sim X B w s a) {nx:Nat} {o:Oper} {res:ORes} {c:Call} (ho:o.op=.call c) (h:stepOp E nx s o=some res) (hf:Free s B nx res):StepOk P X B w s a o res:=by
 simp only [stepOp,ho] at h
 split at h
 · rename_i b args hc ha
   have h4:=z7B hS.tmps ha
   have hb:=zCD (P:=P) (ty:=o.type) (consts:=c.args.map fun | .const _=>true | _=>false) hE hS.heap (args:=c.args.map a.eval) (by simpa using h4) h (fun v us hv=>by rw [hv] at hf;exact hf)
   cases res with
   | val v us=>
     obtain ⟨v',w',B',h1,h2,h3,h5⟩:=hb
     refine ⟨v',w',B',.inl ?_,h2,h3,h5⟩
     simp only [execOp,ho,resolve,hc,pure_bind,invoke]
     exact h1
   | call _ _=>exact hb.elim
   | panic _=>exact hb.elim
   | defer _ _=>exact hb.elim
 · rename_i f args hc ha
   split at h
   · rename_i g first cap hg
     cases h
     obtain ⟨x,y,h1,h2⟩:=zBp (P:=P) hS hg ha hc rfl o.type
     refine ⟨_,h2,?_⟩
     simp only [execOp,ho,Sem.run_bind,h1,Result.andThen_ok,invoke]
   · cases h
 · cases h
theorem zIR {s:St} {a:Act} (hS:Sim X B w s a) {nx:Nat} {o:Oper} {res:ORes} {c:Call} (ho:o.op=.defer c) (h:stepOp E nx s o=some res):StepOk P X B w s a o res:=by
 simp only [stepOp,ho] at h
 split at h
 · rename_i f args hc ha
   split at h
   · rename_i g first cap hg
     cases h
     obtain ⟨x,y,h1,h2⟩:=zBp (P:=P) hS hg ha hc rfl o.type
     exact ⟨{ target:=.fn (.func g) y,args:=x++c.args.map a.eval },by simp only [execOp,ho,Sem.run_bind,h1,Result.andThen_ok,Sem.run_pure],y,rfl,by simpa using h2⟩
   · cases h
 · cases h
theorem z3h (hE:EnvOk E P) {s:St} {a:Act} (hS:Sim X B w s a) {nx:Nat} {o:Oper} {res:ORes} (h:stepOp E nx s o=some res) (hf:Free s B nx res):StepOk P X B w s a o res:=by
 cases ho:o.op with
 | move x=>exact zL4 hS ho h
 | assign x=>exact zFo hS ho h hf
 | pick c x y=>exact zL5 hS ho h
 | alloc t=>exact zIO hE hS ho h hf
 | box t x=>exact zNH hE hS ho h hf
 | build t ps=>exact zIQ hE hS ho h
 | buildSlice t len ps=>exact zAW hE hS ho h hf
 | load t x=>exact zL3 hE hS ho h
 | store t x y=>exact zIW hE hS ho h
 | nilCheck x=>exact zD3 hS ho h
 | binOp op t x y t2=>exact zIP hE hS ho h
 | unOp op t x=>exact zL6 hS ho h
 | convert t t2 x=>exact zEW hE hS ho h
 | makeInterface t x=>exact z7q hE hS ho h
 | makeFunc f x y=>
   cases f with
   | func f=>exact zD2 hS ho h
   | _=>simp [stepOp,ho] at h
 | makeMap t r=>
   cases r with
   | none=>exact zEY hS ho h hf
   | some _=>simp [stepOp,ho] at h
 | makeSlice t l c=>exact zB3 hE hS ho h hf
 | slice t x lo hi mx=>exact zIV hE hS ho h
 | fieldAddr t x f=>exact zAz hE hS ho h
 | field t x f=>exact zIS hE hS ho h
 | indexAddr t x ix=>exact zB0 hE hS ho h
 | index t x ix=>exact zIT hE hS ho h
 | lookup t m k ok=>exact zFp hE hS ho h
 | mapUpdate t m k x=>exact zB4 hE hS ho h
 | extract x i=>exact zEX hS ho h
 | typeAssert x xt t ok=>exact zAX hE hS ho h
 | panic x=>exact zIU hS ho h
 | call c=>exact zL1 hE hS ho h hf
 | defer c=>exact zIR hS ho h
 | _=>simp [stepOp,ho] at h
end
section
variable {E:Env} {P:Program} {w:World} {X:Nat→Prop} {B:BMap}
theorem Sim.evo {s:St} {a:Act} (hS:Sim X B w s a) {ro:Nat} {B':BMap} {w':World} {H':Heap} (hH:HRel B' X w' H') (he:Evo ro B X w B' w'):Sim X B' w' { s with H:=H' } a:=
 ⟨hH,hS.tmps.last he.lasts he.ble,hS.defs.last he.lasts he.ble⟩
theorem Sim.put {s:St} {a:Act} (hS:Sim X B w s a) {v:AVal} {v':Value} (hv:VRel (avoid X B) w B v v') (dst:Option Nat):Sim X B w (s.put dst v) (a.put dst v'):=by
 cases dst with
 | none=>exact hS
 | some d=>exact ⟨hS.heap,by have:=zIr hS.tmps hv d;simpa [TRel,St.put,Act.put] using this,hS.defs⟩
theorem St.put_ro (s:St) (dst:Option Nat) (v:AVal):(s.put dst v).ro=s.ro:=by cases dst <;> rfl
theorem St.put_H (s:St) (dst:Option Nat) (v:AVal):(s.put dst v).H=s.H:=by cases dst <;> rfl
def zHN (X:Nat→Prop) (B:BMap) (w:World):Ex→Exit→Prop
 | .normal,.normal=>True
 | .exit i,.exit j=>i=j
 | .ret,.ret=>True
 | .panic v,.panic ch=>∃ v',ch=[{ v:=v',recovered:=false }]∧VRel (avoid X B) w B v v'
 | _,_=>False
def ExOk (X:Nat→Prop) (ro:Nat) (B:BMap) (w:World) (ex:Ex) (s':St) (e:Exit) (a':Act) (w':World):Prop:=
 s'.ro=ro∧∃ B',Sim X B' w' s' a'∧Evo ro B X w B' w'∧zHN X B' w' ex e
theorem ExOk.trans {ro:Nat} {B1:BMap} {w1:World} {ex:Ex} {s':St} {e:Exit} {a':Act} {w':World} (he:Evo ro B X w B1 w1) (h:ExOk X ro B1 w1 ex s' e a' w'):ExOk X ro B w ex s' e a' w':=by
 obtain ⟨h0,B',h1,h2,h3⟩:=h
 exact ⟨h0,B',h1,he.trans h2,h3⟩
def zNj (X:Nat→Prop) (B:BMap) (w:World):CRes→Ending→Prop
 | .ret v,.returned v'=>VRel (avoid X B) w B v v'
 | .panic v,.panicked ch=>∃ v',ch=[{ v:=v',recovered:=false }]∧VRel (avoid X B) w B v v'
 | _,_=>False
def Out.heap (H:Heap):Out→Heap
 | .ups us=>putU H us
 | .whole H=>H
def zEo (H:Heap) (B:BMap) (nx:Nat):Out→Prop
 | .ups us=>Slots H B nx (us.countP fun u=>decide (nx≤u.1))
 | .whole _=>nx=H.length
def z8z (X:Nat→Prop) (ro:Nat) (B:BMap) (w:World) (H':Heap) (r:CRes) (e:Ending) (w':World):Prop:=
 ∃ B',HRel B' X w' H'∧Evo ro B X w B' w'∧zNj X B' w' r e
def z9F (P:Program) (call:Nat→List AVal→Nat→Heap→Nat→Option (CRes × Out)):Prop:=
 ∀ f args ro H nx r out,call f args ro H nx=some (r,out)→∀ (X:Nat→Prop) (B:BMap) (w:World) (vs:Array Value),HRel B X w H→VRelL (avoid X B) w B args vs.toList→zEo H B nx out →
  (callFunc f vs).run P w=.ok (.enter f vs) w∧Calls P f vs w (z8z X ro B w (out.heap H) r)
theorem z6K {all:Array Oper} {s:St} {a:Act} (hT:TRel (avoid X B) w B s a) {o:Oper} {b:Bool} (h:want all s o=some b):Region.wanted o (yielded all a.tmps)=b:=by
 unfold want at h
 unfold Region.wanted
 split at h
 · rename_i hg;cases h;rw [hg]
 · rename_i j c hg
   rw [hg]
   simp only
   split at h
   · rename_i p hp
     split at h
     · rename_i d hd
       have hy:yielded all a.tmps j=match a.tmps[d]? with
           | some (.bool b)=>some b
           | _=>none:=by
        simp only [yielded,hp,Option.bind_some,hd]
        rfl
       split at h
       · rename_i c' hv
         cases h
         obtain ⟨v,h1,h2⟩:=z3F hT hv
         rw [z1F] at h2;subst h2
         rw [hy,← Array.getElem?_toList,h1]
         rw [Bool.eq_iff_iff];simp
       · rename_i hv
         cases h
         obtain ⟨v,h1,h2⟩:=z3F hT hv
         simp only [VRel] at h2
         obtain ⟨vs,rfl,_⟩:=h2
         rw [hy,← Array.getElem?_toList,h1]
         rfl
       · cases h
     · cases h
   · cases h
theorem z7c {s:St} {a:Act} (hS:Sim X B w s a) (dst:Option Nat):Sim X B w (s.put dst (.tuple [])) (a.put dst undef):=hS.put tuple0 dst
theorem zOO (hE:EnvOk E P) {s:St} {a:Act} (hS:Sim X B w s a) {nx:Nat} {o:Oper} {v:AVal} {us:Ups} (h:stepOp E nx s o=some (.val v us)) (hf:Free s B nx (.val v us)) {K:Act→World→Prop} {Q:Exit→Act→World→Prop}
    (hK:∀ a' w' B',Sim X B' w' ({ s with H:=putU s.H us }.put o.dst v) a'→Evo s.ro B X w B' w'→K a' w'):o.wp P a w K Q:=by
 obtain ⟨v',w',B',h1,h2,h3,h4⟩:=z3h hE hS h hf
 have:=hK (a.put o.dst v') w' B' ((hS.evo h2 h3).put h4 o.dst) h3
 unfold Oper.wp
 rcases h1 with h1 | ⟨h1,rfl⟩
 · rw [h1];exact this
 · rw [h1];exact this
theorem zA9 (hE:EnvOk E P) {call:Nat→List AVal→Nat→Heap→Nat→Option (CRes × Out)} (hC:z9F P call) {s:St} {a:Act} (hS:Sim X B w s a) {nx:Nat} {o:Oper} {f:Nat} {args:List AVal} (h:stepOp E nx s o=some (.call f args))
    {r:CRes} {out:Out} (hc:call f args s.ro s.H nx=some (r,out)) (hf:zEo s.H B nx out) {K:Act→World→Prop} {Q:Exit→Act→World→Prop}
    (hK:∀ v,r=.ret v→∀ a' w' B',Sim X B' w' ({ s with H:=out.heap s.H }.put o.dst v) a'→Evo s.ro B X w B' w'→K a' w')
    (hQ:∀ v,r=.panic v→∀ w' B' ch,Sim X B' w' { s with H:=out.heap s.H } a→Evo s.ro B X w B' w'→zHN X B' w' (.panic v) (.panic ch)→Q (.panic ch) a w'):o.wp P a w K Q:=by
 obtain ⟨vs,h1,h2⟩:=z3h hE hS h trivial
 obtain ⟨h3,h4⟩:=hC f args s.ro s.H nx r out hc X B w vs hS.heap h1 hf
 unfold Oper.wp
 rw [h2,h3]
 refine Calls.mono h4 fun e w' he=>?_
 obtain ⟨B',k1,k2,k3⟩:=he
 cases r with
 | ret v=>
   cases e with
   | returned v'=>exact hK v rfl _ w' B' ((hS.evo k1 k2).put k3 o.dst) k2
   | _=>exact k3.elim
 | panic v=>
   cases e with
   | panicked ch=>exact hQ v rfl w' B' ch (hS.evo k1 k2) k2 k3
   | _=>exact k3.elim
theorem Slots.all {H:Heap} {k:Nat}:Slots H B H.length k:=.inl rfl
theorem z2i (hE:EnvOk E P) {call:Nat→List AVal→Nat→Heap→Nat→Option (CRes × Out)} (hC:z9F P call) {all:Array Oper} {Q:Exit→Act→World→Prop}:∀ (os:List Oper) (i:Nat),all.toList.drop i=os→∀ (s:St) (a:Act) (w:World) (B:BMap) (ex:Ex) (s':St),
    Sim X B w s a→z1E E call all os s=some (ex,s')→(∀ e a' w',ExOk X s.ro B w ex s' e a' w'→Q e a' w')→wpOps P all Q (List.range' i os.length) a w
 | [],i,hd,s,a,w,B,ex,s',hS,h,hQ=>by
   simp only [z1E,Option.some.injEq,Prod.mk.injEq] at h
   obtain ⟨rfl,rfl⟩:=h
   exact hQ _ _ _ ⟨rfl,B,hS,.refl _ _ _ _,trivial⟩
 | o :: os,i,hd,s,a,w,B,ex,s',hS,h,hQ=>by
   have hi:all[i]?=some o:=by
    have:=congrArg (·[0]?) hd
    simpa [List.getElem?_drop] using this
   have hd':all.toList.drop (i+1)=os:=by
    have:=congrArg (List.drop 1) hd
    simpa [List.drop_drop,Nat.add_comm] using this
   simp only [List.length_cons,List.range'_succ,wpOps,hi]
   simp only [z1E] at h
   split at h
   · cases h
   · rename_i hw
     rw [z6K hS.tmps hw]
     simp only [Bool.false_eq_true,if_false]
     exact z2i hE hC os (i+1) hd' _ _ w B ex s' (z7c hS o.dst) h (by rw [St.put_ro];exact hQ)
   · rename_i hw
     rw [z6K hS.tmps hw]
     simp only [if_true]
     refine .inl ?_
     split at h
     · cases h
     · rename_i v us hst
       refine zOO hE hS hst (fun _=>.all) fun a' w' B' hS' hEv=>?_
       exact z2i hE hC os (i+1) hd' _ _ w' B' ex s' hS' h (by rw [St.put_ro];exact fun e a' w' hx=>hQ e a' w' (hx.trans hEv))
     · rename_i v hst
       cases h
       obtain ⟨v',h1,h2⟩:=z3h hE hS hst trivial
       unfold Oper.wp
       rw [h1]
       exact hQ _ _ _ ⟨rfl,B,hS,.refl _ _ _ _,v',rfl,h2⟩
     · rename_i f args hst
       obtain ⟨d,h1,h2⟩:=z3h hE hS hst trivial
       unfold Oper.wp
       rw [h1]
       exact z2i hE hC os (i+1) hd' _ _ w B ex s' (z7c (s:={ s with defers:=(f,args) :: s.defers }) (a:={ a with defers:=d :: a.defers }) ⟨hS.heap,hS.tmps,h2,hS.defs⟩ o.dst) h (by rw [St.put_ro];exact hQ)
     · rename_i f args hst
       split at h
       · cases h
       · rename_i v us hcall
         refine zA9 hE hC hS hst hcall .all (fun v0 hv a' w' B' hS' hEv=>?_) (fun v0 hv=>by cases hv)
         cases hv
         exact z2i hE hC os (i+1) hd' _ _ w' B' ex s' hS' h (by rw [St.put_ro];exact fun e a' w' hx=>hQ e a' w' (hx.trans hEv))
       · rename_i v H hcall
         refine zA9 hE hC hS hst hcall rfl (fun v0 hv a' w' B' hS' hEv=>?_) (fun v0 hv=>by cases hv)
         cases hv
         exact z2i hE hC os (i+1) hd' _ _ w' B' ex s' hS' h (by rw [St.put_ro];exact fun e a' w' hx=>hQ e a' w' (hx.trans hEv))
       · rename_i v us hcall
         cases h
         refine zA9 hE hC hS hst hcall .all (fun v0 hv=>by cases hv) (fun v0 hv w' B' ch hS' hEv hx=>?_)
         cases hv
         exact hQ _ _ _ ⟨rfl,B',hS',hEv,hx⟩
       · rename_i v H hcall
         cases h
         refine zA9 hE hC hS hst hcall rfl (fun v0 hv=>by cases hv) (fun v0 hv w' B' ch hS' hEv hx=>?_)
         cases hv
         exact hQ _ _ _ ⟨rfl,B',hS',hEv,hx⟩
end
section
variable {E:Env} {H H':Heap}
def Same (H H':Heap) (l:List Nat):Prop:=∀ id ∈ l,H[id]?=H'[id]?
theorem z3I {id g i:Nat} (h:H[id]?=H'[id]?):z5N H id g i=z5N H' id g i:=by unfold z5N;rw [h]
theorem zI6 {t:Nat} {a:AVal} (h:Same H H' a.refs):load E t a H=load E t a H':=by
 unfold load
 cases a with
 | ptr id g i f=>simp only [z3I (h id (by simp [AVal.refs]))]
 | _=>rfl
theorem zFq {ro t:Nat} {a v:AVal} (h:Same H H' a.refs):store E ro t a v H=store E ro t a v H':=by
 unfold store
 cases a with
 | ptr id g i f=>simp only [z3I (h id (by simp [AVal.refs]))]
 | _=>rfl
theorem z4s {x:AVal} (h:Same H H' x.refs):z16 H x=z16 H' x:=by
 cases x with
 | ref id g i len cl=>simp only [z16,h id (by simp [AVal.refs])]
 | view id g i f len=>simp only [z16,z3I (h id (by simp [AVal.refs]))]
 | _=>rfl
theorem zCz {t:Nat} {x:AVal} {lo hi mx:Option AVal} (h:Same H H' x.refs):z0g E H t x lo hi mx=z0g E H' t x lo hi mx:=by
 unfold z0g
 cases E.ti t with
 | none=>rfl
 | some ti=>
   obtain ⟨d,sz,by0,z⟩:=ti
   cases x with
   | ref id g i len cl=>
     have h0:=h id (by simp [AVal.refs])
     cases d <;> first
      | rfl
      | simp only [h0]
   | lptr e f=>cases d <;> cases e <;> rfl
   | _=>cases d <;> rfl
theorem zCL {src dst:TI} {el:Option TI} {x:AVal} (h:Same H H' x.refs):z3Q H src dst el x=z3Q H' src dst el x:=by
 simp only [z3Q,z4s h]
theorem zCH {src dst:TI} {el:Option TI} {x:AVal} (h:Same H H' x.refs):convert H src dst el x=convert H' src dst el x:=by
 cases x <;> simp only [convert] <;> exact zCL h
theorem zAo {ro nx t:Nat} {s x:AVal} (h1:Same H H' s.refs) (h2:Same H H' x.refs):z0H E ro nx t s x H=z0H E ro nx t s x H':=by
 unfold z0H
 rw [z4s h2]
 cases s with
 | ref id g i len cl=>
   have h3:z16 H (.ref id g i len true)=z16 H' (.ref id g i len true):=z4s fun id' h=>h1 id' (by simpa [AVal.refs] using h)
   cases cl
   · simp only [h1 id (by simp [AVal.refs])]
   · simp only [h3]
 | lit cl sz es=>cases cl <;> rfl
 | _=>rfl
theorem z8o (a b:List AVal):refsL (a++b)=refsL a++refsL b:=by
 induction a with
 | nil=>rfl
 | cons x a ih=>simp [refsL,ih]
theorem zCC {nx:Nat} {s s':St} {b:Builtin} {ts:List Nat} {args:List AVal} (hro:s.ro=s'.ro) (h:Same s.H s'.H (refsL args)):builtin E nx s b ts args=builtin E nx s' b ts args:=by
 have h1:∀ x ∈ args,Same s.H s'.H x.refs:=by
  intro x hx id hid
  refine h id ?_
  obtain ⟨l,r,rfl⟩:=List.append_of_mem hx
  rw [z8o]
  simp only [refsL,List.mem_append]
  exact .inr (.inl hid)
 unfold builtin
 rw [hro]
 split
 · rename_i t ts x
   have hx:=h1 x (by simp)
   cases E.ti t with
   | none=>rfl
   | some ti=>
     obtain ⟨td,sz,by0,z⟩:=ti
     cases x with
     | mapp id=>
       have h0:=hx id (by simp [AVal.refs])
       cases td <;> first
        | rfl
        | simp only [h0]
     | _=>cases td <;> rfl
 · rfl
 · rename_i t t2 a x
   rw [zAo (h1 a (by simp)) (h1 x (by simp))]
 · rename_i t ts d x
   rw [z4s (h1 x (by simp))]
   have hd:=h1 d (by simp)
   cases E.ti t with
   | none=>rfl
   | some ti=>
     obtain ⟨td,sz,by0,z⟩:=ti
     cases td <;> try rfl
     cases z16 s'.H x with
     | none=>rfl
     | some p=>
       obtain ⟨nsz,es⟩:=p
       cases d with
       | ref id g i len cl=>simp only [hd id (by simp [AVal.refs])]
       | view id g i f len=>simp only [z3I (hd id (by simp [AVal.refs]))]
       | lit cl sz es=>cases es <;> rfl
       | _=>rfl
 · rename_i t ts id g i len cl
   have hd:=h1 (.ref id g i len cl) (by simp)
   simp only [hd id (by simp [AVal.refs])]
 · rfl
 · rfl
 · rfl
theorem z3n {s s':St}:∀ {os:List Operand},(∀ x ∈ os,s.eval x=s'.eval x)→z34 s os=z34 s' os
 | [],_=>rfl
 | x :: xs,h=>by simp only [z34,h x (by simp),z3n (os:=xs) fun y hy=>h y (by simp [hy])]
theorem z6f {s s':St}:∀ {os:List (Nat × Operand)},(∀ x ∈ os,s.eval x.2=s'.eval x.2)→z7C s os=z7C s' os
 | [],_=>rfl
 | (i,x) :: xs,h=>by simp only [z7C,h (i,x) (by simp),z6f (os:=xs) fun y hy=>h y (by simp [hy])]
theorem z6e {s s':St} {o:Option Operand} (h:∀ x ∈ o,s.eval x=s'.eval x):z5Q s o=z5Q s' o:=by
 cases o with
 | none=>rfl
 | some x=>simp only [z5Q,h x rfl]
theorem z5k {nx:Nat} {s s':St} {o:Oper} (he:∀ x ∈ o.op.operands.toList,s.eval x=s'.eval x) (hH:Same s.H s'.H (z1R s o)) (hro:s.ro=s'.ro) (hv:s.virt=s'.virt):stepOp E nx s o=stepOp E nx s' o:=by
 cases ho:o.op with
 | move x | nilCheck x | unOp _ _ x | makeInterface _ x | box _ x | extract x _ | panic x | typeAssert x _ _ _ | fieldAddr _ x _ | field _ x _=>
   have h1:=he x (by simp [ho,Op.operands])
   simp only [stepOp,ho,h1,hv]
 | assign x=>
   have h1:=he x (by simp [ho,Op.operands])
   simp only [stepOp,ho,h1,hv]
 | pick c x y=>
   have h1:=he c (by simp [ho,Op.operands])
   have h2:=he x (by simp [ho,Op.operands])
   have h3:=he y (by simp [ho,Op.operands])
   simp only [stepOp,ho,h1,h2,h3]
 | alloc t=>simp only [stepOp,ho,hv]
 | build t ps=>
   have h1:=z6f (s:=s) (s':=s') (os:=ps.toList) (fun x hx=>he x.2 (by simp only [ho,Op.operands,List.toList_toArray];exact List.mem_map.2 ⟨x,hx,rfl⟩))
   simp only [stepOp,ho,h1]
 | buildSlice t len ps=>
   have h1:=z6f (s:=s) (s':=s') (os:=ps.toList) (fun x hx=>he x.2 (by simp only [ho,Op.operands,List.toList_toArray];exact List.mem_map.2 ⟨x,hx,rfl⟩))
   simp only [stepOp,ho,h1,hv]
 | load t x=>
   have h1:=he x (by simp [ho,Op.operands])
   simp only [z1R,ho] at hH
   simp only [stepOp,ho,← h1]
   cases hx:s.eval x with
   | none=>rfl
   | some a=>rw [hx] at hH;simp only [Option.elim_some] at hH;have h3:=zI6 (E:=E) (t:=t) hH;simp only [h3]
 | store t x y=>
   have h1:=he x (by simp [ho,Op.operands])
   have h2:=he y (by simp [ho,Op.operands])
   simp only [z1R,ho] at hH
   simp only [stepOp,ho,← h1,← h2,← hro]
   cases hx:s.eval x with
   | none=>rfl
   | some a=>rw [hx] at hH;simp only [Option.elim_some] at hH;have h3:=fun y=>zFq (E:=E) (ro:=s.ro) (t:=t) (v:=y) hH;cases s.eval y <;> simp only [h3]
 | binOp op t x y _=>
   have h1:=he x (by simp [ho,Op.operands])
   have h2:=he y (by simp [ho,Op.operands])
   simp only [stepOp,ho,h1,h2]
 | index t x y=>
   have h1:=he x (by simp [ho,Op.operands])
   have h2:=he y (by simp [ho,Op.operands])
   simp only [stepOp,ho,h1,h2]
 | makeSlice t x y=>
   have h1:=he x (by simp [ho,Op.operands])
   have h2:=he y (by simp [ho,Op.operands])
   simp only [stepOp,ho,h1,h2]
 | convert t t2 x=>
   have h1:=he x (by simp [ho,Op.operands])
   simp only [z1R,ho] at hH
   simp only [stepOp,ho,← h1]
   cases hx:s.eval x with
   | none=>simp
   | some a=>rw [hx] at hH;simp only [Option.elim_some] at hH;have h3:=fun a b c=>zCH (src:=a) (dst:=b) (el:=c) hH;cases E.ti t <;> cases E.ti t2 <;> simp only [h3]
 | makeFunc f x y=>
   have h1:=z3n (s:=s) (s':=s') (os:=x.toList) (fun z hz=>he z (by simp [ho,Op.operands,Array.mem_toList_iff.1 hz]))
   have h2:=z3n (s:=s) (s':=s') (os:=y.toList) (fun z hz=>he z (by simp [ho,Op.operands,Array.mem_toList_iff.1 hz]))
   cases f <;> simp only [stepOp,ho,h1,h2]
 | makeMap t r=>cases r <;> simp only [stepOp,ho]
 | slice t x lo hi mx=>
   have h1:=he x (by simp [ho,Op.operands])
   have h2:=z6e (s:=s) (s':=s') (o:=lo) (fun z hz=>he z (by cases hz;simp [ho,Op.operands]))
   have h3:=z6e (s:=s) (s':=s') (o:=hi) (fun z hz=>he z (by cases hz;simp [ho,Op.operands]))
   have h4:=z6e (s:=s) (s':=s') (o:=mx) (fun z hz=>he z (by cases hz;simp [ho,Op.operands]))
   simp only [z1R,ho] at hH
   simp only [stepOp,ho,← h1,h2,h3,h4]
   cases hx:s.eval x with
   | none=>rfl
   | some a=>rw [hx] at hH;simp only [Option.elim_some] at hH;have h3:=fun a b c=>zCz (E:=E) (t:=t) (lo:=a) (hi:=b) (mx:=c) hH;cases z5Q s' lo <;> cases z5Q s' hi <;> cases z5Q s' mx <;> simp only [h3]
 | indexAddr t x y=>
   have h1:=he x (by simp [ho,Op.operands])
   have h2:=he y (by simp [ho,Op.operands])
   simp only [z1R,ho] at hH
   simp only [stepOp,ho,← h1,← h2]
   cases hx:s.eval x with
   | none=>simp
   | some a=>
     rw [hx] at hH
     simp only [Option.elim_some] at hH
     cases E.ti t with
     | none=>rfl
     | some ti=>
       obtain ⟨td,sz,by0,z⟩:=ti
       cases s.eval y with
       | none=>rfl
       | some iv=>
         cases iv with
         | int k n=>
           cases a with
           | ref id g i len cl=>
             have h0:=hH id (by simp [AVal.refs])
             cases td <;> first
              | rfl
              | simp only [h0]
           | _=>cases td <;> rfl
         | _=>rfl
 | lookup t m k ok=>
   have h1:=he m (by simp [ho,Op.operands])
   have h2:=he k (by simp [ho,Op.operands])
   simp only [z1R,ho] at hH
   simp only [stepOp,ho,← h1,← h2]
   cases hx:s.eval m with
   | none=>simp
   | some a=>
     rw [hx] at hH
     simp only [Option.elim_some] at hH
     cases a with
     | mapp id=>
       have h0:=hH id (by simp [AVal.refs])
       cases E.ti t with
       | none=>rfl
       | some ti=>
         obtain ⟨td,sz,by0,z⟩:=ti
         cases s.eval k with
         | none=>cases td <;> rfl
         | some kv=>cases td <;> first
           | rfl
           | simp only [h0]
     | _=>
       cases E.ti t with
       | none=>rfl
       | some ti=>
         obtain ⟨td,sz,by0,z⟩:=ti
         cases td <;> rfl
 | mapUpdate t m k x=>
   have h1:=he m (by simp [ho,Op.operands])
   have h2:=he k (by simp [ho,Op.operands])
   have h3:=he x (by simp [ho,Op.operands])
   simp only [z1R,ho] at hH
   simp only [stepOp,ho,← h1,← h2,← h3,← hro]
   cases hx:s.eval m with
   | none=>simp
   | some a=>
     rw [hx] at hH
     simp only [Option.elim_some] at hH
     cases a with
     | mapp id=>
       have h0:=hH id (by simp [AVal.refs])
       cases E.ti t with
       | none=>rfl
       | some ti=>
         obtain ⟨td,sz,by0,z⟩:=ti
         cases s.eval k with
         | none=>cases td <;> rfl
         | some kv=>
           cases s.eval x with
           | none=>cases td <;> rfl
           | some xv=>cases td <;> first
             | rfl
             | simp only [h0]
     | _=>
       cases E.ti t with
       | none=>rfl
       | some ti=>
         obtain ⟨td,sz,by0,z⟩:=ti
         cases td <;> rfl
 | call c=>
   have h1:=z3n (s:=s) (s':=s') (os:=c.args.toList) (fun z hz=>he z (by simp [ho,Op.operands,Call.operands,Array.mem_toList_iff.1 hz]))
   simp only [stepOp,ho,← h1]
   cases hc:c.callee with
   | value f=>
     have h2:=he f (by simp [ho,Op.operands,Call.operands,hc])
     cases z34 s c.args.toList with
     | none=>rfl
     | some args=>simp only [h2]
   | invoke _ _=>rfl
   | builtin b=>
     cases ha:z34 s c.args.toList with
     | none=>rfl
     | some args=>
       have hr:z1R s o=refsL args:=by
        simp only [z1R,ho]
        obtain ⟨ce,as,ats⟩:=c
        simp only at hc ha
        subst hc
        simp only [ha,Option.getD_some]
       rw [hr] at hH
       exact zCC hro hH
 | defer c=>
   have h1:=z3n (s:=s) (s':=s') (os:=c.args.toList) (fun z hz=>he z (by simp [ho,Op.operands,Call.operands,Array.mem_toList_iff.1 hz]))
   simp only [stepOp,ho,← h1]
   cases hc:c.callee with
   | value f=>
     have h2:=he f (by simp [ho,Op.operands,Call.operands,hc])
     cases z34 s c.args.toList with
     | none=>rfl
     | some args=>simp only [h2]
   | _=>rfl
 | _=>simp only [stepOp,ho]
end
section
variable {E:Env} {H H':Heap}
def Closed (H:Heap) (l:List Nat):Prop:=∀ id ∈ l,∀ g sz es,H[id]?=some (.cells g sz false es)→∀ j ∈ refsL es,j ∈ l
theorem z8L:∀ (n:Nat) (todo seen l:List Nat),looks H n todo seen=some l→(∀ id ∈ seen,∀ g sz es,H[id]?=some (.cells g sz false es)→∀ j ∈ refsL es,j ∈ seen ∨ j ∈ todo) →
    Closed H l∧(∀ id ∈ todo,id ∈ l)∧∀ id ∈ seen,id ∈ l
 | n,[],seen,l,h,hs=>by
   have:seen=l:=by cases n <;> simpa [looks] using h
   subst this
   exact ⟨fun id hid g sz es he j hj=>(hs id hid g sz es he j hj).elim (fun h=>h) (fun h=>by cases h),by simp,fun _ h=>h⟩
 | 0,_ :: _,_,_,h,_=>by simp [looks] at h
 | n+1,id :: todo,seen,l,h,hs=>by
   simp only [looks] at h
   split at h
   · rename_i hc
     have hc:id ∈ seen:=by simpa using hc
     obtain ⟨h1,h2,h3⟩:=z8L n todo seen l h (fun i hi g sz es he j hj=>by
      rcases hs i hi g sz es he j hj with h | h
      · exact .inl h
      · rcases List.mem_cons.1 h with rfl | h
        · exact .inl hc
        · exact .inr h)
     exact ⟨h1,fun i hi=>(List.mem_cons.1 hi).elim (fun e=>e ▸ h3 _ hc) (h2 i),h3⟩
   · have go:∀ todo',(∀ j,j ∈ todo→j ∈ todo')→(∀ g sz es,H[id]?=some (.cells g sz false es)→∀ j ∈ refsL es,j ∈ todo')→looks H n todo' (seen++[id])=some l →
         Closed H l∧(∀ i ∈ id :: todo,i ∈ l)∧∀ i ∈ seen,i ∈ l:=by
       intro todo' ht hr h
       obtain ⟨h1,h2,h3⟩:=z8L n todo' (seen++[id]) l h (fun i hi g sz es he j hj=>by
        rcases List.mem_append.1 hi with hi | hi
        · rcases hs i hi g sz es he j hj with h | h
          · exact .inl (by simp [h])
          · rcases List.mem_cons.1 h with rfl | h
            · exact .inl (by simp)
            · exact .inr (ht j h)
        · have:=List.mem_singleton.1 hi;subst this
          exact .inr (hr g sz es he j hj))
       exact ⟨h1,fun i hi=>(List.mem_cons.1 hi).elim (fun e=>e ▸ h3 _ (by simp)) (fun hi=>h2 i (ht i hi)),fun i hi=>h3 i (by simp [hi])⟩
     split at h
     · rename_i g sz fl es he
       split at h
       · rename_i hfl
         exact go todo (fun _ h=>h) (fun g' sz' es' he'=>by rw [he] at he';cases he';cases hfl) h
       · exact go (todo++refsL es) (fun _ h=>by simp [h]) (fun g' sz' es' he' j hj=>by rw [he] at he';cases he';simp [hj]) h
     · rename_i b hnc hb
       exact go todo (fun _ h=>h) (fun g' sz' es' he'=>by rw [hb] at he';cases he';exact absurd rfl (hnc _ _ _ _)) h
     · cases h
theorem z2c {l:List Nat} (hcl:Closed H l) (hs:Same H H' l):∀ (n:Nat) (todo seen:List Nat),(∀ id ∈ todo,id ∈ l)→reach H n todo seen=reach H' n todo seen
 | n,[],seen,_=>by cases n <;> rfl
 | 0,_ :: _,_,_=>rfl
 | n+1,id :: todo,seen,ht=>by
   have hid:=ht id (by simp)
   have ht':∀ i ∈ todo,i ∈ l:=fun i hi=>ht i (by simp [hi])
   simp only [reach]
   split
   · exact z2c hcl hs n todo seen ht'
   · rw [← hs id hid]
     cases he:H[id]? with
     | none=>rfl
     | some b=>
       cases b with
       | cells g sz fl es=>
         cases fl with
         | true=>exact z2c hcl hs n todo _ ht'
         | false=>
           refine z2c hcl hs n _ _ fun i hi=>?_
           rcases List.mem_append.1 hi with hi | hi
           · exact ht' i hi
           · exact hcl id hid g sz es he i hi
       | map m=>exact z2c hcl hs n todo _ ht'
       | dead=>exact z2c hcl hs n todo _ ht'
       | free=>rfl
theorem z4e {l:List Nat} (hcl:Closed H l):∀ (n:Nat) (todo seen fp:List Nat),(∀ id ∈ todo,id ∈ l)→(∀ id ∈ seen,id ∈ l)→reach H n todo seen=some fp→∀ id ∈ fp,id ∈ l
 | n,[],seen,fp,_,hs,h=>by
   have:seen=fp:=by cases n <;> simpa [reach] using h
   subst this;exact hs
 | 0,_ :: _,_,_,_,_,h=>by simp [reach] at h
 | n+1,id :: todo,seen,fp,ht,hs,h=>by
   have hid:=ht id (by simp)
   have ht':∀ i ∈ todo,i ∈ l:=fun i hi=>ht i (by simp [hi])
   have hs':∀ i ∈ seen++[id],i ∈ l:=fun i hi=>by
    rcases List.mem_append.1 hi with hi | hi
    · exact hs i hi
    · rw [List.mem_singleton.1 hi];exact hid
   simp only [reach] at h
   split at h
   · exact z4e hcl n todo seen fp ht' hs h
   · split at h
     · rename_i g sz fl es he
       split at h
       · exact z4e hcl n todo _ fp ht' hs' h
       · rename_i hfl
         have hfl:fl=false:=by simpa using hfl
         subst hfl
         exact z4e hcl n _ _ fp (fun i hi=>by
          rcases List.mem_append.1 hi with hi | hi
          · exact ht' i hi
          · exact hcl id hid g sz es he i hi) hs' h
     · exact z4e hcl n todo _ fp ht' hs' h
     · exact z4e hcl n todo _ fp ht' hs h
     · cases h
     · cases h
theorem z4B {l:List AVal} {x:AVal} (hx:x ∈ l):∀ id ∈ x.refs,id ∈ refsL l:=by
 intro id hid
 obtain ⟨a,b,rfl⟩:=List.append_of_mem hx
 rw [z8o]
 simp only [refsL,List.mem_append]
 exact .inr (.inl hid)
theorem zEE {l:List AVal} {id:Nat} (h:id ∈ refsL l):∃ x ∈ l,id ∈ x.refs:=by
 induction l with
 | nil=>simp [refsL] at h
 | cons x l ih=>
   simp only [refsL,List.mem_append] at h
   rcases h with h | h
   · exact ⟨x,by simp,h⟩
   · obtain ⟨y,h1,h2⟩:=ih h;exact ⟨y,by simp [h1],h2⟩
theorem z65 {α β:Type} {f f':α→Option β}:∀ {l:List α},(∀ x ∈ l,f x=f' x)→mapO f l=mapO f' l
 | [],_=>rfl
 | x :: xs,h=>by simp only [mapO,h x (by simp),z65 (l:=xs) fun y hy=>h y (by simp [hy])]
theorem z49 {α β:Type} {f:α→Option β}:∀ {l:List α} {r:List β},mapO f l=some r→∀ y ∈ r,∃ x ∈ l,f x=some y
 | [],r,h,y,hy=>by simp [mapO] at h;subst h;cases hy
 | x :: xs,r,h,y,hy=>by
   simp only [mapO] at h
   split at h
   · rename_i z zs h1 h2
     cases h
     rcases List.mem_cons.1 hy with rfl | hy
     · exact ⟨x,by simp,h1⟩
     · obtain ⟨u,h3,h4⟩:=z49 h2 y hy;exact ⟨u,by simp [h3],h4⟩
   · cases h
theorem z1u {α β γ:Type} {f:α→Option β} {g:List β→γ} {l:List α} {r:γ} (h:(mapO f l).map g=some r):∃ m,mapO f l=some m∧r=g m:=by
 simp only [Option.map_eq_some_iff] at h
 obtain ⟨m,h1,h2⟩:=h
 exact ⟨m,h1,h2.symm⟩
theorem z55 {ok:Nat→Bool} {l:List Nat} (hcl:Closed H l) (hs:Same H H' l):∀ (n:Nat) (v:AVal),(∀ id ∈ v.refs,id ∈ l)→toLit ok H n v=toLit ok H' n v
 | 0,_,_=>rfl
 | n+1,v,hv=>by
   unfold toLit
   split
   · rfl
   · cases v with
     | ref id g i len cl=>
       have hid:=hv id (by simp [AVal.refs])
       simp only [← hs id hid]
       cases he:H[id]? with
       | none=>rfl
       | some b=>
         cases b with
         | cells g' sz fl es=>
           cases fl with
           | true=>rfl
           | false=>
             simp only [Bool.false_eq_true,if_false]
             rw [z65 (f:=toLit ok H n) (f':=toLit ok H' n) fun x hx=>z55 hcl hs n x fun j hj=>hcl id hid g' sz es he j (z4B (List.mem_of_mem_drop (List.mem_of_mem_take hx)) j hj)]
         | _=>rfl
     | view id g i f len=>simp only [z3I (hs id (hv id (by simp [AVal.refs])))]
     | agg cs=>simp only;rw [z65 (f:=toLit ok H n) (f':=toLit ok H' n) fun x hx=>z55 hcl hs n x fun j hj=>hv j (by simpa [AVal.refs] using z4B hx j hj)]
     | tuple cs=>simp only;rw [z65 (f:=toLit ok H n) (f':=toLit ok H' n) fun x hx=>z55 hcl hs n x fun j hj=>hv j (by simpa [AVal.refs] using z4B hx j hj)]
     | _=>rfl
theorem z8W {ok:Nat→Bool}:∀ (n:Nat) (v u:AVal),toLit ok H n v=some u→∀ id ∈ u.refs,id ∈ v.refs
 | 0,_,_,h=>by simp [toLit] at h
 | n+1,v,u,h=>by
   unfold toLit at h
   split at h
   · cases h;exact fun _ h=>h
   · split at h
     · split at h
       · split at h
         · split at h
           · cases h;simp [AVal.refs]
           · obtain ⟨m,_,rfl⟩:=z1u h;simp [AVal.refs]
         · cases h
       · cases h
     · split at h
       · split at h
         · cases h;simp [AVal.refs]
         · cases h
       · cases h
     · rename_i cs
       obtain ⟨m,hm,rfl⟩:=z1u h
       simp only [AVal.refs]
       intro id hid
       obtain ⟨x,hx,hi⟩:=zEE hid
       obtain ⟨y,hy,he⟩:=z49 hm x hx
       exact z4B hy id (z8W n y x he id hi)
     · rename_i cs
       obtain ⟨m,hm,rfl⟩:=z1u h
       simp only [AVal.refs]
       intro id hid
       obtain ⟨x,hx,hi⟩:=zEE hid
       obtain ⟨y,hy,he⟩:=z49 hm x hx
       exact z4B hy id (z8W n y x he id hi)
     · cases h
theorem zBb {lits:List Nat} {l:List Nat} (hcl:Closed H l) (hs:Same H H' l):∀ (vs:List AVal) (i:Nat),(∀ id ∈ refsL vs,id ∈ l)→lend H lits vs i=lend H' lits vs i
 | [],_,_=>rfl
 | v :: vs,i,hv=>by
   have h1:∀ id ∈ v.refs,id ∈ l:=fun id hid=>hv id (by simp [refsL,hid])
   simp only [lend,zBb hcl hs vs (i+1) (fun id hid=>hv id (by simp [refsL,hid])),z55 hcl hs 8 v h1,z2c hcl hs fuel0 v.refs [] h1]
theorem zDp {lits:List Nat}:∀ (vs:List AVal) (i:Nat) (ws:List AVal) (ids:List Nat),lend H lits vs i=some (ws,ids)→∀ id ∈ refsL ws,id ∈ refsL vs
 | [],_,_,_,h=>by simp only [lend,Option.some.injEq,Prod.mk.injEq] at h;obtain ⟨rfl,_⟩:=h;simp [refsL]
 | v :: vs,i,ws,ids,h=>by
   simp only [lend] at h
   split at h
   · cases h
   · rename_i ws' ids' hr
     have ih:=zDp vs (i+1) ws' ids' hr
     split at h
     · split at h
       · rename_i u l h1 h2
         cases h
         simp only [refsL,List.mem_append]
         exact fun id hid=>hid.imp (z8W 8 v u h1 id) (ih id)
       · cases h
     · cases h
       simp only [refsL,List.mem_append]
       exact fun id hid=>hid.imp (fun h=>h) (ih id)
theorem z8h:∀ {l:List Nat},Same H H' l→getAll H l=getAll H' l
 | [],_=>rfl
 | id :: l,h=>by simp only [getAll,h id (by simp),z8h (l:=l) fun j hj=>h j (by simp [hj])]
theorem zEx {run:Nat→List AVal→Heap→Nat→Option (CRes × Heap)} {f:Nat} {args:List AVal} {ro nx:Nat} {l:List Nat} (hcl:Closed H l) (hs:Same H H' l) (ha:∀ id ∈ refsL args,id ∈ l) (hw:(E.hint f).whole=false):
    callF E run f args ro H nx=callF E run f args ro H' nx:=by
 unfold callF
 simp only [hw,Bool.false_eq_true,if_false]
 rw [zBb hcl hs args 0 ha]
 cases hl:lend H' (E.hint f).lits args 0 with
 | none=>rfl
 | some p=>
   obtain ⟨as,lent⟩:=p
   have h1:∀ id ∈ refsL as,id ∈ l:=fun id hid=>ha id (zDp args 0 as lent hl id hid)
   simp only
   have h2:=z2c hcl hs fuel0 (refsL as) [] h1
   rw [← h2]
   cases hr:reach H fuel0 (refsL as) [] with
   | none=>rfl
   | some fp=>
     have h3:=z4e hcl fuel0 (refsL as) [] fp h1 (by simp) hr
     simp only
     rw [z8h (l:=fp) fun j hj=>hs j (h3 j hj)]
end
section
variable {β:Type}
def app (l:List β):List (Nat × β)→List β
 | []=>l
 | (k,b) :: ws=>app (l.set k b) ws
theorem z4L (l:List β) (a b:List (Nat × β)):app l (a++b)=app (app l a) b:=by
 induction a generalizing l with
 | nil=>rfl
 | cons x a ih=>obtain ⟨k,v⟩:=x;exact ih _
theorem zBB (l:List β) (a:List (Nat × β)):(app l a).length=l.length:=by
 induction a generalizing l with
 | nil=>rfl
 | cons x a ih=>obtain ⟨k,v⟩:=x;simp only [app];rw [ih];simp
theorem z9L (l:List β) (a:List (Nat × β)) {x:Nat} (h:∀ p ∈ a,p.1 ≠ x):(app l a)[x]?=l[x]?:=by
 induction a generalizing l with
 | nil=>rfl
 | cons y a ih=>
   obtain ⟨k,v⟩:=y
   simp only [app]
   rw [ih _ fun p hp=>h p (by simp [hp]),List.getElem?_set_ne (h (k,v) (by simp))]
theorem zLj (l l':List β) (a:List (Nat × β)) {x:Nat} (hx:l[x]?=l'[x]?):(app l a)[x]?=(app l' a)[x]?:=by
 induction a generalizing l l' with
 | nil=>exact hx
 | cons y a ih=>
   obtain ⟨k,v⟩:=y
   simp only [app]
   refine ih _ _ ?_
   by_cases hk:k=x
   · subst hk
     by_cases hl:k < l.length
     · have hl':k < l'.length:=by
         rcases Nat.lt_or_ge k l'.length with h | h
         · exact h
         · rw [List.getElem?_eq_getElem hl,List.getElem?_eq_none h] at hx;cases hx
       rw [List.getElem?_set_self hl,List.getElem?_set_self hl']
     · have hl':¬ k < l'.length:=by
         intro h
         rw [List.getElem?_eq_none (by omega),List.getElem?_eq_getElem h] at hx;cases hx
       rw [List.getElem?_eq_none (by simpa using hl),List.getElem?_eq_none (by simpa using hl')]
   · rw [List.getElem?_set_ne hk,List.getElem?_set_ne hk];exact hx
theorem zOu (l:List β) (a:List (Nat × β)) {k:Nat} {v:β} (h:∀ p ∈ a,p.1 ≠ k):app (l.set k v) a=(app l a).set k v:=by
 induction a generalizing l with
 | nil=>rfl
 | cons y a ih=>
   obtain ⟨j,u⟩:=y
   simp only [app]
   rw [List.set_comm _ _ (fun e=>h (j,u) (by simp) e.symm),ih _ fun p hp=>h p (by simp [hp])]
theorem zLi (l:List β) (a b:List (Nat × β)) (h:∀ p ∈ a,∀ q ∈ b,p.1 ≠ q.1):app (app l a) b=app (app l b) a:=by
 induction a generalizing l with
 | nil=>rfl
 | cons y a ih=>
   obtain ⟨k,v⟩:=y
   simp only [app]
   rw [ih _ fun p hp=>h p (by simp [hp]),zOu l b fun p hp e=>h (k,v) (by simp) p hp e.symm]
def wsOf (W:Nat→List (Nat × β)) (D:Nat→Bool):Nat→List (Nat × β)
 | 0=>[]
 | n+1=>wsOf W D n++(if D n then W n else [])
theorem z6M {W:Nat→List (Nat × β)} {D D':Nat→Bool} {n:Nat} (h:∀ i,i < n→D i=D' i):wsOf W D n=wsOf W D' n:=by
 induction n with
 | zero=>rfl
 | succ n ih=>simp only [wsOf];rw [ih fun i hi=>h i (by omega),h n (by omega)]
theorem zEl {W:Nat→List (Nat × β)} {D:Nat→Bool} {n:Nat} (h:∀ i,i < n→D i=false):wsOf W D n=[]:=by
 induction n with
 | zero=>rfl
 | succ n ih=>simp only [wsOf];rw [ih fun i hi=>h i (by omega),h n (by omega)];rfl
theorem zLT {W:Nat→List (Nat × β)} {D:Nat→Bool} {m n:Nat} (hmn:m≤n) (h:∀ i,m≤i→i < n→D i=false):wsOf W D n=wsOf W D m:=by
 induction n with
 | zero=>have:m=0:=by omega
         subst this;rfl
 | succ n ih=>
   by_cases hm:m=n+1
   · subst hm;rfl
   · simp only [wsOf]
     rw [ih (by omega) fun i h1 h2=>h i h1 (by omega),h n (by omega) (by omega)]
     simp
theorem zOp {W:Nat→List (Nat × β)} {D D':Nat→Bool} {base:List β} {x:Nat}:∀ {n:Nat},(∀ i,i < n→D i ≠ D' i→∀ p ∈ W i,p.1 ≠ x)→(app base (wsOf W D n))[x]?=(app base (wsOf W D' n))[x]?
 | 0,_=>rfl
 | n+1,h=>by
   have ih:=zOp (W:=W) (D:=D) (D':=D') (base:=base) (x:=x) (n:=n) fun i hi=>h i (by omega)
   simp only [wsOf,z4L]
   by_cases hd:D n=D' n
   · rw [hd];exact zLj _ _ _ ih
   · have hW:=h n (by omega) hd
     have h1:∀ b:Bool,∀ l:List β,(app l (if b then W n else []))[x]?=l[x]?:=by
      intro b l
      cases b
      · rfl
      · exact z9L l _ hW
     rw [h1,h1];exact ih
theorem zK9 {W:Nat→List (Nat × β)} {D D':Nat→Bool} {base:List β} {j:Nat} (hj:D j=false) (hj':D' j=true) (hne:∀ i,i ≠ j→D' i=D i):∀ {n:Nat},j < n→(∀ i,j < i→i < n→D i=true→∀ p ∈ W j,∀ q ∈ W i,p.1 ≠ q.1) →
    app base (wsOf W D' n)=app (app base (wsOf W D n)) (W j)
 | 0,h,_=>by omega
 | n+1,hjn,h=>by
   by_cases hn:j=n
   · subst hn
     simp only [wsOf,hj,hj',if_true,Bool.false_eq_true,if_false,List.append_nil,z4L]
     rw [z6M fun i hi=>hne i (by omega)]
   · have ih:=zK9 (base:=base) hj hj' hne (n:=n) (by omega) fun i h1 h2=>h i h1 (by omega)
     simp only [wsOf,z4L]
     rw [ih,hne n (fun e=>hn e.symm)]
     cases hd:D n with
     | false=>rfl
     | true=>
       simp only [if_true]
       exact zLi _ _ _ (h n (by omega) (by omega) hd)
end
theorem zCn {H:Heap}:∀ {us:Ups},(∀ u ∈ us,u.1 < H.length)→putU H us=app H us
 | [],_=>rfl
 | (id,b) :: us,h=>by
   have h1:=h (id,b) (by simp)
   simp only [putU,app]
   rw [if_pos h1]
   exact zCn fun u hu=>by simpa using h u (by simp [hu])
theorem z3m {m:Nat}:∀ {us:Ups} {H:Heap} (k:Nat),m≤H.length→consec m H.length us=true→(putU H us).length=H.length+us.countP (fun u=>decide (m≤u.1)) ∧
      (∀ u ∈ us,u.1 < m ∨ (H.length≤u.1∧u.1 < (putU H us).length)) ∧
      app (H++List.replicate (us.countP (fun u=>decide (m≤u.1))+k) Blk.free) us=putU H us++List.replicate k Blk.free
 | [],H,k,_,_=>by simp [putU,app]
 | (id,b) :: us,H,k,hm,h=>by
   simp only [consec] at h
   split at h
   · rename_i hid
     have hl:id < H.length:=by omega
     have hp:putU H ((id,b) :: us)=putU (H.set id b) us:=by simp only [putU];rw [if_pos hl]
     have hn:¬ m≤id:=by omega
     obtain ⟨h1,h2,h3⟩:=z3m (m:=m) (us:=us) (H:=H.set id b) k (by simpa using hm) (by simpa using h)
     rw [hp]
     refine ⟨by rw [h1];simp [hn],?_,?_⟩
     · intro u hu
       rcases List.mem_cons.1 hu with rfl | hu
       · exact .inl hid
       · simpa using h2 u hu
     · simp only [app,List.countP_cons,hn,decide_false,Bool.false_eq_true,if_false,Nat.add_zero]
       rw [List.set_append_left _ _ hl]
       exact h3
   · rename_i hid
     simp only [Bool.and_eq_true,beq_iff_eq] at h
     obtain ⟨rfl,h⟩:=h
     have hp:putU H ((H.length,b) :: us)=putU (H++[b]) us:=by simp only [putU];rw [if_neg (by omega)]
     obtain ⟨h1,h2,h3⟩:=z3m (m:=m) (us:=us) (H:=H++[b]) k (by simp;omega) (by simpa using h)
     rw [hp]
     refine ⟨by rw [h1];simp [hm];omega,?_,?_⟩
     · intro u hu
       rcases List.mem_cons.1 hu with rfl | hu
       · right;rw [h1];simp;omega
       · rcases h2 u hu with h | ⟨h4,h5⟩
         · exact .inl h
         · right;simp at h4;exact ⟨by omega,h5⟩
     · simp only [app,List.countP_cons,hm,decide_true,if_true]
       rw [List.set_append_right _ _ (Nat.le_refl _),Nat.sub_self]
       have:us.countP (fun u=>decide (m≤u.1))+1+k=(us.countP (fun u=>decide (m≤u.1))+k)+1:=by omega
       rw [this,List.replicate_succ,List.set_cons_zero]
       simpa using h3
theorem zNE {α:Type} {p:List α→Prop} (h0:p []) (h1:∀ l a,p l→p (l++[a])) (l:List α):p l:=by
 have:∀ l:List α,p l.reverse:=by
  intro l
  induction l with
  | nil=>exact h0
  | cons a l ih=>rw [List.reverse_cons];exact h1 _ a ih
 simpa using this l.reverse
theorem zEs {ops:Array Oper} {i k:Nat} {o:Oper} (ho:ops[i]?=some o) (h:((Region.before ops).getD i 0).testBit k=true):
    ∃ e ∈ o.after.toList,Region.binds .any e=true∧(e.on=k ∨ (e.on < i∧((Region.before ops).getD e.on 0).testBit k=true)):=by
 -- the table,by prefixes
 let f:Array Nat→Oper→Array Nat:=fun acc o=>acc.push (o.after.foldl (fun s e=>if Region.binds .any e then s ||| 2 ^ e.on ||| acc.getD e.on 0 else s) 0)
 have hb:Region.before ops=ops.toList.foldl f #[]:=by simp [Region.before,f,← Array.foldl_toList]
 have key:∀ (l:List Oper),(l.foldl f #[]).size=l.length∧∀ (i:Nat) (o:Oper),l[i]?=some o→∀ k,((l.foldl f #[]).getD i 0).testBit k=true →
     ∃ e ∈ o.after.toList,Region.binds .any e=true∧(e.on=k ∨ (e.on < i∧((l.foldl f #[]).getD e.on 0).testBit k=true)):=by
  intro l
  induction l using zNE with
  | h0=>exact ⟨rfl,by simp⟩
  | h1 l o ih=>
    obtain ⟨ih1,ih2⟩:=ih
    rw [List.foldl_append]
    simp only [List.foldl_cons,List.foldl_nil]
    generalize hacc:l.foldl f #[]=acc at *
    have hf:f acc o=acc.push (o.after.foldl (fun s e=>if Region.binds .any e then s ||| 2 ^ e.on ||| acc.getD e.on 0 else s) 0):=rfl
    rw [hf]
    have hold:∀ j x,j < acc.size→(acc.push x).getD j 0=acc.getD j 0:=by
     intro j x hj
     simp [Array.getElem?_push,hj,Nat.ne_of_lt hj]
    refine ⟨by simp [ih1],fun i o' hi k hk=>?_⟩
    by_cases hil:i < l.length
    · rw [List.getElem?_append_left hil] at hi
      rw [hold i _ (by omega)] at hk
      obtain ⟨e,h1,h2,h3⟩:=ih2 i o' hi k hk
      refine ⟨e,h1,h2,h3.imp_right fun ⟨h4,h5⟩=>⟨h4,?_⟩⟩
      rw [hold e.on _ (by omega)];exact h5
    · have hil':i=l.length:=by
        have:=(List.getElem?_eq_some_iff.1 hi).1
        simp at this;omega
      subst hil'
      rw [List.getElem?_append_right (Nat.le_refl _)] at hi
      simp at hi;subst hi
      have hnew:(acc.push (o.after.foldl (fun s e=>if Region.binds .any e then s ||| 2 ^ e.on ||| acc.getD e.on 0 else s) 0)).getD l.length 0=o.after.foldl (fun s e=>if Region.binds .any e then s ||| 2 ^ e.on ||| acc.getD e.on 0 else s) 0:=by
       simp [← ih1]
      rw [hnew,← Array.foldl_toList] at hk
      have fold:∀ (es:List Edge) (s:Nat),(es.foldl (fun s e=>if Region.binds .any e then s ||| 2 ^ e.on ||| acc.getD e.on 0 else s) s).testBit k=true→s.testBit k=true ∨ ∃ e ∈ es,Region.binds .any e=true∧(e.on=k ∨ (acc.getD e.on 0).testBit k=true):=by
       intro es
       induction es with
       | nil=>intro s h;exact .inl h
       | cons e es ihe=>
         intro s h
         simp only [List.foldl_cons] at h
         rcases ihe _ h with h1 | ⟨e',h1,h2,h3⟩
         · split at h1
           · rename_i hbind
             rw [Nat.testBit_or,Nat.testBit_or,Nat.testBit_two_pow] at h1
             simp only [Bool.or_eq_true,decide_eq_true_eq] at h1
             rcases h1 with (h1 | h1) | h1
             · exact .inl h1
             · exact .inr ⟨e,by simp,hbind,.inl h1⟩
             · exact .inr ⟨e,by simp,hbind,.inr h1⟩
           · exact .inl h1
         · exact .inr ⟨e',by simp [h1],h2,h3⟩
      rcases fold o.after.toList 0 hk with h1 | ⟨e,h1,h2,h3⟩
      · simp at h1
      · refine ⟨e,h1,h2,h3.imp_right fun h4=>?_⟩
        have hlt:e.on < acc.size:=by
         rcases Nat.lt_or_ge e.on acc.size with h | h
         · exact h
         · simp [Array.getElem?_eq_none h] at h4
        exact ⟨by omega,by rw [hold _ _ hlt];exact h4⟩
 rw [hb] at h ⊢
 exact (key ops.toList).2 i o (by simpa using ho) k h
theorem z9P {ops:Array Oper} {D:Nat→Bool} (hD:∀ i o,ops[i]?=some o→D i=true→∀ e ∈ o.after.toList,Region.binds .any e=true→D e.on=true):
    ∀ (i:Nat) (o:Oper),ops[i]?=some o→(∀ e ∈ o.after.toList,Region.binds .any e=true→D e.on=true)→∀ k,((Region.before ops).getD i 0).testBit k=true→D k=true:=by
 intro i
 induction i using Nat.strongRecOn with
 | _ i ih=>
   intro o ho he k hk
   obtain ⟨e,h1,h2,h3⟩:=zEs ho hk
   have hde:=he e h1 h2
   rcases h3 with h3 | ⟨h3,h4⟩
   · rw [← h3];exact hde
   · have hlt:e.on < ops.size:=by have:=(Array.getElem?_eq_some_iff.1 ho).1;omega
     exact ih e.on h3 ops[e.on] (by simp [hlt]) (hD e.on _ (by simp [hlt]) hde) k h4
theorem full_ready {md:Region.Mode} {ops:Array Oper} (hf:z9n md ops=true) {listed:Array Bool} (hl:listed.size=ops.size) (hr:Region.ready md ops listed=[]):∀ i,i < ops.size→listed.getD i false=true:=by
 have hstep:∀ (os:List Oper) (i G:Nat),ops.toList.drop i=os→(∀ k,G.testBit k=true→listed.getD k false=true)→∀ k,(zFs md i os G).testBit k=true→listed.getD k false=true:=by
  intro os
  induction os with
  | nil=>intro i G _ hG k hk;exact hG k hk
  | cons o os ih=>
    intro i G hd hG k hk
    have hi:ops[i]?=some o:=by
     have:=congrArg (·[0]?) hd
     simpa [List.getElem?_drop] using this
    have hd':ops.toList.drop (i+1)=os:=by
     have:=congrArg (List.drop 1) hd
     simpa [List.drop_drop,Nat.add_comm] using this
    simp only [zFs] at hk
    refine ih (i+1) _ hd' ?_ k hk
    intro k hk
    split at hk
    · rename_i hall
      rw [Nat.testBit_or,Nat.testBit_two_pow,Bool.or_eq_true,decide_eq_true_eq] at hk
      rcases hk with hk | rfl
      · exact hG k hk
      · cases hli:listed.getD i false with
        | true=>rfl
        | false=>
          exfalso
          have hlt:=(Array.getElem?_eq_some_iff.1 hi).1
          have hli':listed.getD i true=false:=by
           have hlt':i < listed.size:=by omega
           simp [hlt'] at hli ⊢;exact hli
          have hm:i ∈ Region.ready md ops listed:=mem_ready.2 ⟨hli',o,hi,fun e he hb=>by
           have:=List.all_eq_true.1 hall e (by simpa using he)
           simp only [hb,Bool.not_true,Bool.false_or] at this
           exact hG _ this⟩
          rw [hr] at hm;cases hm
    · exact hG k hk
 intro i hi
 unfold z9n at hf
 simp only [beq_iff_eq] at hf
 have h0:∀ k,(0:Nat).testBit k=true→listed.getD k false=true:=by simp
 have:=hstep _ 0 _ rfl (hstep _ 0 _ rfl (hstep _ 0 _ rfl (hstep _ 0 _ rfl h0))) i
 simp only [List.drop_zero] at this
 rw [hf] at this
 exact this (by rw [Nat.testBit_two_pow_sub_one];simpa using hi)
section
variable {E:Env} {P:Program} {call:Nat→List AVal→Nat→Heap→Nat→Option (CRes × Out)}
structure DRec where
 s:St
 v:AVal
 us:Ups
 reads:List Nat
 on:Bool
def RecOk (E:Env) (call:Nat→List AVal→Nat→Heap→Nat→Option (CRes × Out)) (all:Array Oper) (o:Oper) (r:DRec):Prop:=
 (r.on=false∧want all r.s o=some false∧r.v=.tuple []∧r.us=[]) ∨
 (r.on=true∧want all r.s o=some true∧consec r.s.H.length r.s.H.length r.us=true ∧
   ((stepOp E r.s.H.length r.s o=some (.val r.v r.us)∧r.reads=z1R r.s o∧∀ j ∈ r.reads,j < r.s.H.length) ∨
    ∃ f args,stepOp E r.s.H.length r.s o=some (.call f args)∧call f args r.s.ro r.s.H r.s.H.length=some (.ret r.v,.ups r.us)∧looks r.s.H fuel0 (refsL args) []=some r.reads))
def z8l (o:Oper) (r:DRec):St:={ r.s with H:=putU r.s.H r.us }.put o.dst r.v
inductive Ran (E:Env) (call:Nat→List AVal→Nat→Heap→Nat→Option (CRes × Out)) (all:Array Oper):List Oper→List DRec→St→St→Prop
 | nil (s:St):Ran E call all [] [] s s
 | cons {o:Oper} {os:List Oper} {r:DRec} {rs:List DRec} {s':St}:RecOk E call all o r→Ran E call all os rs (z8l o r) s'→Ran E call all (o :: os) (r :: rs) r.s s'
def feet:Nat→List DRec→List Foot
 | _,[]=>[]
 | i,r :: rs=>if r.on then ⟨i,r.reads,r.us.map (·.1)⟩ :: feet (i+1) rs else feet (i+1) rs
theorem z4r {all:Array Oper}:∀ (os:List Oper) (i:Nat) (s s':St) (l:List Foot),z19 E call all i os s=some (s',l)→∃ rs,Ran E call all os rs s s'∧l=feet i rs
 | [],i,s,s',l,h=>by
   simp only [z19,Option.some.injEq,Prod.mk.injEq] at h
   obtain ⟨rfl,rfl⟩:=h
   exact ⟨[],.nil _,rfl⟩
 | o :: os,i,s,s',l,h=>by
   simp only [z19] at h
   split at h
   · cases h
   · rename_i hw
     obtain ⟨rs,h1,h2⟩:=z4r os (i+1) _ s' l h
     exact ⟨⟨s,.tuple [],[],[],false⟩ :: rs,.cons (.inl ⟨rfl,hw,rfl,rfl⟩) h1,by simpa [feet] using h2⟩
   · rename_i hw
     split at h
     · rename_i v us hst
       split at h
       · rename_i hc
         simp only [Bool.and_eq_true,List.all_eq_true,decide_eq_true_eq] at hc
         split at h
         · rename_i s1 l1 hr
           cases h
           obtain ⟨rs,h1,h2⟩:=z4r os (i+1) _ s' l1 hr
           exact ⟨⟨s,v,us,z1R s o,true⟩ :: rs,.cons (.inr ⟨rfl,hw,hc.1,.inl ⟨hst,rfl,hc.2⟩⟩) h1,by simp [feet,h2]⟩
         · cases h
       · cases h
     · rename_i f args hst
       split at h
       · rename_i v us fp hcall hlk
         split at h
         · rename_i hc
           split at h
           · rename_i s1 l1 hr
             cases h
             obtain ⟨rs,h1,h2⟩:=z4r os (i+1) _ s' l1 hr
             exact ⟨⟨s,v,us,fp,true⟩ :: rs,.cons (.inr ⟨rfl,hw,hc,.inr ⟨f,args,hst,hcall,hlk⟩⟩) h1,by simp [feet,h2]⟩
           · cases h
         · cases h
       · cases h
     · cases h
theorem zGf:∀ {rs:List DRec} {i k:Nat} {r:DRec},rs[k]?=some r→r.on=true→(⟨i+k,r.reads,r.us.map (·.1)⟩:Foot) ∈ feet i rs
 | [],_,_,_,h,_=>by simp at h
 | r0 :: rs,i,0,r,h,ho=>by
   simp at h;subst h
   simp [feet,ho]
 | r0 :: rs,i,k+1,r,h,ho=>by
   have:=zGf (rs:=rs) (i:=i+1) (k:=k) (by simpa using h) ho
   have e:i+1+k=i+(k+1):=by omega
   rw [e] at this
   simp only [feet]
   split
   · exact List.mem_cons_of_mem _ this
   · exact this
theorem z80 {bf:Array Nat}:∀ {rs:List DRec} {i:Nat},apart bf (feet i rs)=true→∀ {j k:Nat} {r r':DRec},j < k→rs[j]?=some r→rs[k]?=some r'→r.on=true→r'.on=true →
    clash ⟨i+j,r.reads,r.us.map (·.1)⟩ ⟨i+k,r'.reads,r'.us.map (·.1)⟩=false ∨ (bf.getD (i+k) 0).testBit (i+j)=true
 | [],_,_,_,_,_,_,_,h,_,_,_=>by simp at h
 | r0 :: rs,i,h,0,k+1,r,r',_,hj,hk,ho,ho'=>by
   simp at hj;subst hj
   simp only [feet,ho,if_true,apart,Bool.and_eq_true] at h
   have hm:=zGf (rs:=rs) (i:=i+1) (k:=k) (by simpa using hk) ho'
   have:=List.all_eq_true.1 h.1 _ hm
   have e:i+1+k=i+(k+1):=by omega
   simp only [e,Bool.or_eq_true,Bool.not_eq_true'] at this
   exact this
 | r0 :: rs,i,h,j+1,k+1,r,r',hjk,hj,hk,ho,ho'=>by
   have h':apart bf (feet (i+1) rs)=true:=by
    simp only [feet] at h
    split at h
    · simp only [apart,Bool.and_eq_true] at h;exact h.2
    · exact h
   have:=z80 (i:=i+1) h' (j:=j) (k:=k) (by omega) (by simpa using hj) (by simpa using hk) ho ho'
   have e1:i+1+k=i+(k+1):=by omega
   have e2:i+1+j=i+(j+1):=by omega
   rwa [e1,e2] at this
theorem z9V {a b:Foot} (h:clash a b=false):(∀ x ∈ a.writes,x ∉ b.reads∧x ∉ b.writes)∧(∀ x ∈ a.reads,x ∉ b.writes):=by
 unfold clash meets at h
 simp only [Bool.or_eq_false_iff,List.any_eq_false,List.contains_iff_mem,List.mem_append,not_or] at h
 exact ⟨fun x hx=>h.1 x hx,fun x hx=>h.2 x hx⟩
theorem zBd {all:Array Oper}:∀ (os:List Oper) (i k:Nat) (o:Oper),os[k]?=some o→(i+k,zDY o,zBF (names all o)) ∈ z7S all i os
 | [],_,_,_,h=>by simp at h
 | o0 :: os,i,0,o,h=>by simp at h;subst h;simp [z7S]
 | o0 :: os,i,k+1,o,h=>by
   have:=zBd (all:=all) os (i+1) k o (by simpa using h)
   have e:i+1+k=i+(k+1):=by omega
   rw [e] at this
   rw [z7S]
   exact List.mem_cons_of_mem _ this
theorem z9c {o:Oper} {d:Nat} (h:o.dst=some d):(zDY o).testBit d=true:=by
 unfold zDY
 rw [h]
 exact Nat.testBit_two_pow_self
theorem zB5 {l:List Nat} {t:Nat} (h:t ∈ l):(zBF l).testBit t=true:=by
 have key:∀ (l:List Nat) (n:Nat),(n.testBit t=true ∨ t ∈ l)→(l.foldl (fun n t=>n ||| 2 ^ t) n).testBit t=true:=by
  intro l
  induction l with
  | nil=>intro n h;simpa using h
  | cons x l ih=>
    intro n h
    refine ih _ ?_
    rw [Nat.testBit_or,Nat.testBit_two_pow]
    rcases h with h | h
    · left;simp [h]
    · rcases List.mem_cons.1 h with rfl | h
      · left;simp
      · exact .inr h
 exact key l 0 (.inr h)
theorem zBY {n d:Nat} {l:List Nat} (h0:n &&& zBF l=0) (hn:n.testBit d=true):d ∉ l:=by
 intro hd
 have h3:=zB5 hd
 have h4:(n &&& zBF l).testBit d=true:=by rw [Nat.testBit_and,hn,h3];rfl
 rw [h0,Nat.zero_testBit] at h4
 cases h4
def zC5 (all:Array Oper) (o o':Oper):Prop:=(∀ d,o.dst=some d→d ∉ names all o')∧(∀ d,o'.dst=some d→d ∉ names all o)
theorem zFt {all:Array Oper} {bf:Array Nat} {os:List Oper} {i k:Nat} {o o':Oper} (h:((z7S all (i+1) os).all fun (j,w',n')=>(zDY o &&& n' == 0 && w' &&& zBF (names all o) == 0) || (bf.getD j 0).testBit i)=true) (hk:os[k]?=some o'):
    zC5 all o o' ∨ (bf.getD (i+(k+1)) 0).testBit i=true:=by
 have hm:=zBd (all:=all) os (i+1) k o' hk
 have e:i+1+k=i+(k+1):=by omega
 rw [e] at hm
 have h2:=List.all_eq_true.1 h _ hm
 simp only [Bool.or_eq_true,Bool.and_eq_true,beq_iff_eq] at h2
 rcases h2 with ⟨h1,h2⟩ | h1
 · exact .inl ⟨fun d hd=>zBY h1 (z9c hd),fun d hd=>zBY h2 (z9c hd)⟩
 · exact .inr h1
theorem zAb {all:Array Oper} {bf:Array Nat} (os:List Oper):∀ (i:Nat),zEe bf (z7S all i os)=true→∀ (j k:Nat) (o o':Oper),j < k→os[j]?=some o→os[k]?=some o' →
    zC5 all o o' ∨ (bf.getD (i+k) 0).testBit (i+j)=true:=by
 induction os with
 | nil=>intro i _ j k o o' _ h;simp at h
 | cons o0 os ih=>
   intro i h j k o o' hjk hj hk
   obtain ⟨k,rfl⟩:∃ k',k=k'+1:=⟨k - 1,by omega⟩
   rw [z7S,zEe,Bool.and_eq_true] at h
   have hk:os[k]?=some o':=by simpa using hk
   cases j with
   | zero=>
     have hj:o0=o:=by simpa using hj
     subst hj
     exact zFt h.1 hk
   | succ j=>
     have:=ih (i+1) h.2 j k o o' (by omega) (by simpa using hj) hk
     have e1:i+1+k=i+(k+1):=by omega
     have e2:i+1+j=i+(j+1):=by omega
     rwa [e1,e2] at this
end
section
variable {E:Env} {P:Program} {call:Nat→List AVal→Nat→Heap→Nat→Option (CRes × Out)} {all:Array Oper}
def z5F (call:Nat→List AVal→Nat→Heap→Nat→Option (CRes × Out)):Prop:=
 ∀ f args ro H H' nx l v us,Closed H l→Same H H' l→(∀ id ∈ refsL args,id ∈ l)→call f args ro H nx=some (.ret v,.ups us)→call f args ro H' nx=some (.ret v,.ups us)
theorem zIF {os:List Oper} {rs:List DRec} {s s':St} (h:Ran E call all os rs s s'):
    ∃ S:Nat→St,S 0=s∧S os.length=s'∧∀ i o,os[i]?=some o→∃ r,rs[i]?=some r∧r.s=S i∧S (i+1)=z8l o r∧RecOk E call all o r:=by
 induction h with
 | nil s=>exact ⟨fun _=>s,rfl,rfl,by simp⟩
 | @cons o os r rs s' hr _ ih=>
   obtain ⟨S,h1,h2,h3⟩:=ih
   refine ⟨fun i=>match i with
    | 0=>r.s
    | i+1=>S i,rfl,by simpa using h2,?_⟩
   intro i o' ho
   cases i with
   | zero=>
     simp at ho;subst ho
     exact ⟨r,rfl,rfl,h1,hr⟩
   | succ i=>
     obtain ⟨r',k1,k2,k3,k4⟩:=h3 i o' (by simpa using ho)
     exact ⟨r',by simpa using k1,k2,k3,k4⟩
theorem z7N {H:Heap}:∀ (n:Nat) (todo seen l:List Nat),looks H n todo seen=some l→(∀ id ∈ seen,id < H.length)→∀ id ∈ l,id < H.length
 | n,[],seen,l,h,hs=>by
   have:seen=l:=by cases n <;> simpa [looks] using h
   subst this;exact hs
 | 0,_ :: _,_,_,h,_=>by simp [looks] at h
 | n+1,id :: todo,seen,l,h,hs=>by
   have hs':id < H.length→∀ i ∈ seen++[id],i < H.length:=fun hid i hi=>by
    rcases List.mem_append.1 hi with hi | hi
    · exact hs i hi
    · rw [List.mem_singleton.1 hi];exact hid
   simp only [looks] at h
   split at h
   · exact z7N n todo seen l h hs
   · split at h
     · rename_i he
       have hid:=(List.getElem?_eq_some_iff.1 he).1
       split at h
       · exact z7N n todo _ l h (hs' hid)
       · exact z7N n _ _ l h (hs' hid)
     · rename_i he
       exact z7N n todo _ l h (hs' (List.getElem?_eq_some_iff.1 he).1)
     · cases h
theorem z85 {m:Nat}:∀ {us:Ups} {n:Nat},m≤n→consec m n us=true→∀ p,n≤p→p < n+us.countP (fun u=>decide (m≤u.1))→∃ u ∈ us,u.1=p
 | [],n,_,_,p,h1,h2=>by simp at h2;omega
 | (id,b) :: us,n,hm,h,p,h1,h2=>by
   simp only [consec] at h
   split at h
   · rename_i hid
     have hn:¬ m≤id:=by omega
     simp only [List.countP_cons,hn,decide_false,Bool.false_eq_true,if_false,Nat.add_zero] at h2
     obtain ⟨u,h3,h4⟩:=z85 hm h p h1 h2
     exact ⟨u,by simp [h3],h4⟩
   · simp only [Bool.and_eq_true,beq_iff_eq] at h
     obtain ⟨rfl,h⟩:=h
     by_cases hp:p=id
     · exact ⟨(id,b),by simp,hp.symm⟩
     · simp only [List.countP_cons,hm,decide_true,if_true] at h2
       obtain ⟨u,h3,h4⟩:=z85 (n:=id+1) (by omega) h p (by omega) (by omega)
       exact ⟨u,by simp [h3],h4⟩
structure Text (E:Env) (call:Nat→List AVal→Nat→Heap→Nat→Option (CRes × Out)) (all:Array Oper) (rs:List DRec) (s s':St) (S:Nat→St):Prop where
 first:S 0=s
 last:S all.size=s'
 each:∀ i o,all[i]?=some o→∃ r,rs[i]?=some r∧r.s=S i∧S (i+1)=z8l o r∧RecOk E call all o r
 ok:zEe (Region.before all) (z7S all 0 all.toList)=true
 far:apart (Region.before all) (feet 0 rs)=true
def WT (all:Array Oper) (rs:List DRec) (i:Nat):List (Nat × AVal):=match all[i]?,rs[i]? with
 | some o,some r=>match o.dst with
   | some d=>[(d,r.v)]
   | none=>[]
 | _,_=>[]
def WH (rs:List DRec) (i:Nat):Ups:=match rs[i]? with
 | some r=>r.us
 | none=>[]
variable {rs:List DRec} {s s':St} {S:Nat→St}
theorem zCl (o:Oper) (r:DRec):(z8l o r).H=putU r.s.H r.us:=by simp [z8l,St.put_H]
theorem RecOk.consec {o:Oper} {r:DRec} (h:RecOk E call all o r):consec r.s.H.length r.s.H.length r.us=true:=by
 rcases h with ⟨_,_,_,h⟩ | ⟨_,_,h,_⟩
 · rw [h];rfl
 · exact h
theorem Text.len (h:Text E call all rs s s' S) {i:Nat} {o:Oper} (ho:all[i]?=some o) {r:DRec} (hr:rs[i]?=some r):(S (i+1)).H.length=(S i).H.length+r.us.countP (fun u=>decide ((S i).H.length≤u.1)):=by
 obtain ⟨r',h1,h2,h3,h4⟩:=h.each i o ho
 rw [hr] at h1;cases h1
 rw [h3,zCl,← h2]
 exact (z3m 0 (Nat.le_refl _) h4.consec).1
theorem Text.mono (h:Text E call all rs s s' S):∀ {i j:Nat},i≤j→j≤all.size→(S i).H.length≤(S j).H.length
 | i,0,hij,_=>by have:i=0:=by omega
                 subst this;exact Nat.le_refl _
 | i,j+1,hij,hj=>by
   by_cases he:i=j+1
   · subst he;exact Nat.le_refl _
   · have h1:=h.mono (i:=i) (j:=j) (by omega) (by omega)
     obtain ⟨r,hr,_⟩:=h.each j all[j] (by simp)
     have h2:=h.len (i:=j) (o:=all[j]) (by simp) hr
     omega
theorem Text.keep (h:Text E call all rs s s' S):∀ {i:Nat},i≤all.size→(S i).ro=s.ro∧(S i).virt=s.virt∧(S i).defers=s.defers
 | 0,_=>by rw [h.first];exact ⟨rfl,rfl,rfl⟩
 | i+1,hi=>by
   obtain ⟨r,_,h2,h3,_⟩:=h.each i all[i] (by simp)
   have:=h.keep (i:=i) (by omega)
   rw [h3]
   unfold z8l
   rw [h2]
   cases all[i].dst <;> exact this
theorem Text.tmps (h:Text E call all rs s s' S):∀ {i:Nat},i≤all.size→(S i).tmps=app s.tmps (wsOf (WT all rs) (fun _=>true) i)
 | 0,_=>by rw [h.first];rfl
 | i+1,hi=>by
   have ho:all[i]?=some all[i]:=by simp
   obtain ⟨r,h1,h2,h3,_⟩:=h.each i all[i] ho
   have ih:=h.tmps (i:=i) (by omega)
   simp only [wsOf,if_true,z4L]
   rw [← ih,h3]
   unfold z8l WT
   rw [ho,h1,h2]
   simp only
   cases all[i].dst <;> rfl
theorem Text.heap (h:Text E call all rs s s' S):∀ {i:Nat},i≤all.size→(S i).H++List.replicate (s'.H.length - (S i).H.length) Blk.free=app (s.H++List.replicate (s'.H.length - s.H.length) Blk.free) (wsOf (WH rs) (fun _=>true) i)
 | 0,_=>by rw [h.first];rfl
 | i+1,hi=>by
   have ho:all[i]?=some all[i]:=by simp
   obtain ⟨r,h1,h2,h3,h4⟩:=h.each i all[i] ho
   have ih:=h.heap (i:=i) (by omega)
   have hm:=h.mono (i:=i+1) (j:=all.size) hi (Nat.le_refl _)
   rw [h.last] at hm
   have hl:=h.len ho h1
   simp only [wsOf,if_true,z4L]
   rw [← ih]
   have e:s'.H.length - (S i).H.length=r.us.countP (fun u=>decide ((S i).H.length≤u.1))+(s'.H.length - (S (i+1)).H.length):=by omega
   have hW:WH rs i=r.us:=by unfold WH;rw [h1]
   rw [e,hW,h3,zCl,h2]
   have hc:=h4.consec
   rw [h2] at hc
   exact ((z3m _ (Nat.le_refl _) hc).2.2).symm
def sD (all:Array Oper) (rs:List DRec) (s s':St) (D:Nat→Bool):St:=
 { s with tmps:=app s.tmps (wsOf (WT all rs) D all.size),H:=app (s.H++List.replicate (s'.H.length - s.H.length) Blk.free) (wsOf (WH rs) D all.size) }
theorem Text.upto {β:Type} {W:Nat→List (Nat × β)} {i n:Nat} (h:i≤n):wsOf W (fun j=>decide (j < i)) n=wsOf W (fun _=>true) i:=by
 rw [zLT h fun j h1 h2=>by simpa using h1]
 exact z6M fun j hj=>by simpa using hj
structure Next (all:Array Oper) (D:Nat→Bool) (i:Nat) (o:Oper):Prop where
 ho:all[i]?=some o
 not:D i=false
 down:∀ j o,all[j]?=some o→D j=true→∀ e ∈ o.after.toList,Region.binds .any e=true→D e.on=true
 edges:∀ e ∈ o.after.toList,Region.binds .any e=true→D e.on=true
theorem Next.ahead {D:Nat→Bool} {i j:Nat} {o oj:Oper} (h:Next all D i o) (hj:all[j]?=some oj) (hd:D j=true):((Region.before all).getD j 0).testBit i=false:=by
 cases hb:((Region.before all).getD j 0).testBit i with
 | false=>rfl
 | true=>
   have:=z9P h.down j oj hj (h.down j oj hj hd) i hb
   rw [h.not] at this;cases this
theorem Next.behind {D:Nat→Bool} {i j:Nat} {o:Oper} (h:Next all D i o) (hd:D j=false):((Region.before all).getD i 0).testBit j=false:=by
 cases hb:((Region.before all).getD i 0).testBit j with
 | false=>rfl
 | true=>
   have:=z9P h.down i o h.ho h.edges j hb
   rw [hd] at this;cases this
theorem Next.lt {D:Nat→Bool} {i:Nat} {o:Oper} (h:Next all D i o):i < all.size:=(Array.getElem?_eq_some_iff.1 h.ho).1
theorem zKR {i:Nat} {p:Nat × AVal} (h:p ∈ WT all rs i):∃ o,all[i]?=some o∧o.dst=some p.1:=by
 unfold WT at h
 split at h
 · rename_i o r ho hr
   cases hd:o.dst with
   | none=>rw [hd] at h;cases h
   | some d=>rw [hd] at h;rw [List.mem_singleton.1 h];exact ⟨o,ho,hd⟩
 · cases h
theorem zCe {o:Oper} {d:Nat} (h:o.dst=some d):d ∈ names all o:=by simp [names,h]
theorem Text.apartT (h:Text E call all rs s s' S) {D:Nat→Bool} {i:Nat} {o:Oper} (hn:Next all D i o) {j:Nat} {oj:Oper} (hj:all[j]?=some oj) (hd:D j ≠ decide (j < i)) (hne:j ≠ i):zC5 all o oj:=by
 have hlj:=(Array.getElem?_eq_some_iff.1 hj).1
 rcases Nat.lt_or_ge j i with hlt | hge
 · have hdj:D j=false:=by simpa [hlt] using hd
   rcases zAb all.toList 0 h.ok j i oj o hlt (by simpa using hj) (by simpa using hn.ho) with h1 | h1
   · exact ⟨h1.2,h1.1⟩
   · simp only [Nat.zero_add] at h1
     rw [hn.behind hdj] at h1;cases h1
 · have hgt:i < j:=by omega
   have hdj:D j=true:=by
    have:decide (j < i)=false:=by simp;omega
    rw [this] at hd;simpa using hd
   rcases zAb all.toList 0 h.ok i j o oj hgt (by simpa using hn.ho) (by simpa using hj) with h1 | h1
   · exact h1
   · simp only [Nat.zero_add] at h1
     rw [hn.ahead hj hdj] at h1;cases h1
theorem Text.tmp_eq (h:Text E call all rs s s' S) {D:Nat→Bool} {i:Nat} {o:Oper} (hn:Next all D i o) {t:Nat} (ht:t ∈ names all o):(sD all rs s s' D).tmps[t]?=(S i).tmps[t]?:=by
 have hi:=hn.lt
 rw [h.tmps (by omega),← Text.upto (n:=all.size) (Nat.le_of_lt hi)]
 refine zOp fun j hj hd p hp he=>?_
 obtain ⟨oj,hoj,hdst⟩:=zKR hp
 have hne:j ≠ i:=by
  rintro rfl
  rw [hn.not] at hd;simp at hd
 have:=h.apartT hn hoj hd hne
 exact this.2 _ hdst (he ▸ ht)
theorem Text.recd (h:Text E call all rs s s' S) {i:Nat} (hi:i < all.size):∃ r,rs[i]?=some r∧r.s=S i∧S (i+1)=z8l all[i] r∧RecOk E call all all[i] r:=h.each i all[i] (by simp)
theorem RecOk.us_on {o:Oper} {r:DRec} (h:RecOk E call all o r) {u:Nat × Blk} (hu:u ∈ r.us):r.on=true:=by
 rcases h with ⟨_,_,_,h⟩ | ⟨h,_⟩
 · rw [h] at hu;cases hu
 · exact h
theorem Text.apartH (h:Text E call all rs s s' S) {D:Nat→Bool} {i:Nat} {o:Oper} (hn:Next all D i o) {r:DRec} (hr:rs[i]?=some r) (hon:r.on=true) {j:Nat} (hj:j < all.size) {rj:DRec} (hrj:rs[j]?=some rj) (hd:D j ≠ decide (j < i)) (hne:j ≠ i):
    ∀ u ∈ rj.us,u.1 ∉ r.reads∧∀ u' ∈ r.us,u'.1 ≠ u.1:=by
 intro u hu
 obtain ⟨rj',h1,_,_,h4⟩:=h.recd hj
 rw [hrj] at h1;cases h1
 have honj:=h4.us_on hu
 have hm:u.1 ∈ rj.us.map (·.1):=List.mem_map.2 ⟨u,hu,rfl⟩
 rcases Nat.lt_or_ge j i with hlt | hge
 · have hdj:D j=false:=by simpa [hlt] using hd
   rcases z80 h.far hlt hrj hr honj hon with h5 | h5
   · obtain ⟨h6,_⟩:=z9V h5
     obtain ⟨h7,h8⟩:=h6 u.1 hm
     exact ⟨h7,fun u' hu' e=>h8 (List.mem_map.2 ⟨u',hu',e⟩)⟩
   · simp only [Nat.zero_add] at h5
     rw [hn.behind hdj] at h5;cases h5
 · have hgt:i < j:=by omega
   have hdj:D j=true:=by
    have:decide (j < i)=false:=by simp;omega
    rw [this] at hd;simpa using hd
   rcases z80 h.far hgt hr hrj hon honj with h5 | h5
   · obtain ⟨h6,h7⟩:=z9V h5
     refine ⟨fun hx=>h7 u.1 hx hm,fun u' hu' e=>?_⟩
     exact (h6 u'.1 (List.mem_map.2 ⟨u',hu',rfl⟩)).2 (e ▸ hm)
   · simp only [Nat.zero_add] at h5
     rw [hn.ahead (oj:=all[j]) (by simp) hdj] at h5;cases h5
theorem zLa {i:Nat} {r:DRec} (h:rs[i]?=some r):WH rs i=r.us:=by unfold WH;rw [h]
theorem Text.heap_eq (h:Text E call all rs s s' S) {D:Nat→Bool} {i:Nat} {o:Oper} (hn:Next all D i o) {x:Nat} (hx:∀ j,j < all.size→j ≠ i→D j ≠ decide (j < i)→∀ rj,rs[j]?=some rj→∀ u ∈ rj.us,u.1 ≠ x):
    (sD all rs s s' D).H[x]?=((S i).H++List.replicate (s'.H.length - (S i).H.length) Blk.free)[x]?:=by
 have hi:=hn.lt
 rw [h.heap (by omega),← Text.upto (n:=all.size) (Nat.le_of_lt hi)]
 refine zOp fun j hj hd p hp=>?_
 have hne:j ≠ i:=by
  rintro rfl
  rw [hn.not] at hd;simp at hd
 obtain ⟨rj,hrj,_⟩:=h.recd hj
 rw [zLa hrj] at hp
 exact hx j hj hne hd rj hrj p hp
theorem Text.same (h:Text E call all rs s s' S) {D:Nat→Bool} {i:Nat} {o:Oper} (hn:Next all D i o) {r:DRec} (hr:rs[i]?=some r) (hon:r.on=true) (hl:∀ j ∈ r.reads,j < (S i).H.length):Same (S i).H (sD all rs s s' D).H r.reads:=by
 intro id hid
 rw [h.heap_eq hn (x:=id) fun j hj hne hd rj hrj u hu e=>((h.apartH hn hr hon hj hrj hd hne) u hu).1 (e ▸ hid)]
 rw [List.getElem?_append_left (hl id hid)]
theorem zOT (D:Nat→Bool):(sD all rs s s' D).H.length=s.H.length+(s'.H.length - s.H.length):=by
 simp [sD,zBB]
theorem Text.slots (h:Text E call all rs s s' S) {D:Nat→Bool} {i:Nat} {o:Oper} (hn:Next all D i o) {r:DRec} (hr:rs[i]?=some r) {X:Nat→Prop} {B:BMap} {w:World} (hH:HRel B X w (sD all rs s s' D).H):
    Slots (sD all rs s s' D).H B (S i).H.length (r.us.countP fun u=>decide ((S i).H.length≤u.1)):=by
 right
 intro c hc
 have hi:=hn.lt
 obtain ⟨r',h1,h2,h3,h4⟩:=h.each i o hn.ho
 rw [hr] at h1;cases h1
 have hlen:=h.len hn.ho hr
 have hm0:=h.mono (i:=0) (j:=i) (by omega) (by omega)
 have hm1:=h.mono (i:=i+1) (j:=all.size) (by omega) (Nat.le_refl _)
 rw [h.first] at hm0
 rw [h.last] at hm1
 have hcs:=h4.consec
 rw [h2] at hcs
 obtain ⟨u0,hu0,hue⟩:=z85 (Nat.le_refl _) hcs ((S i).H.length+c) (by omega) (by omega)
 have hon:=h4.us_on hu0
 have key:(sD all rs s s' D).H[(S i).H.length+c]?=some .free:=by
  rw [h.heap_eq hn (x:=(S i).H.length+c)]
  · rw [List.getElem?_append_right (by omega),List.getElem?_replicate,if_pos (by omega)]
  · intro j hj hne hd rj hrj u hu e
    exact ((h.apartH hn hr hon hj hrj hd hne) u hu).2 u0 hu0 (by rw [hue,e])
 exact ⟨by rw [zOT];omega,key,hH.free key⟩
theorem St.ext_eq {a b:St} (h1:a.tmps=b.tmps) (h2:a.H=b.H) (h3:a.defers=b.defers) (h4:a.ro=b.ro) (h5:a.virt=b.virt):a=b:=by
 cases a;cases b;simp_all
theorem Text.step (h:Text E call all rs s s' S) {D D':Nat→Bool} {i:Nat} {o:Oper} (hn:Next all D i o) (hD':D' i=true) (hne:∀ j,j ≠ i→D' j=D j) {r:DRec} (hr:rs[i]?=some r):
    ({ sD all rs s s' D with H:=putU (sD all rs s s' D).H r.us }.put o.dst r.v)=sD all rs s s' D':=by
 have hi:=hn.lt
 obtain ⟨r',h1,h2,h3,h4⟩:=h.each i o hn.ho
 rw [hr] at h1;cases h1
 have hin:∀ u ∈ r.us,u.1 < (sD all rs s s' D).H.length:=by
  intro u hu
  have hcs:=h4.consec
  rw [h2] at hcs
  have hm0:=h.mono (i:=0) (j:=i) (by omega) (by omega)
  have hm1:=h.mono (i:=i+1) (j:=all.size) (by omega) (Nat.le_refl _)
  rw [h.first] at hm0
  rw [h.last] at hm1
  rw [h3,zCl,h2] at hm1
  obtain ⟨k1,k2,_⟩:=z3m 0 (Nat.le_refl _) hcs
  rw [zOT]
  rcases k2 u hu with k | ⟨_,k⟩ <;> omega
 have hH:putU (sD all rs s s' D).H r.us=(sD all rs s s' D').H:=by
  rw [zCn hin,← zLa hr]
  refine (zK9 hn.not hD' hne hi ?_).symm
  intro j hij hj hd p hp q hq
  obtain ⟨rj,hrj,_⟩:=h.recd hj
  rw [zLa hr] at hp
  rw [zLa hrj] at hq
  have hdj:D j ≠ decide (j < i):=by
   have:decide (j < i)=false:=by simp;omega
   rw [hd,this];simp
  exact ((h.apartH hn hr (h4.us_on hp) hj hrj hdj (by omega)) q hq).2 p hp
 have hT:(app (sD all rs s s' D).tmps (WT all rs i))=(sD all rs s s' D').tmps:=by
  refine (zK9 hn.not hD' hne hi ?_).symm
  intro j hij hj hd p hp q hq e
  obtain ⟨oi,k1,k2⟩:=zKR hp
  obtain ⟨oj,k3,k4⟩:=zKR hq
  rw [hn.ho] at k1;cases k1
  have hdj:D j ≠ decide (j < i):=by
   have:decide (j < i)=false:=by simp;omega
   rw [hd,this];simp
  exact (h.apartT hn k3 hdj (by omega)).1 _ k2 (e ▸ zCe k4)
 have hW:WT all rs i=match o.dst with
     | some d=>[(d,r.v)]
     | none=>[]:=by unfold WT;rw [hn.ho,hr]
 rw [hW] at hT
 cases hd:o.dst with
 | none=>
   rw [hd] at hT
   exact St.ext_eq hT hH rfl rfl rfl
 | some d=>
   rw [hd] at hT
   exact St.ext_eq hT hH rfl rfl rfl
theorem zIh {s1 s2:St} {o:Oper} (h:∀ t ∈ names all o,s1.tmps[t]?=s2.tmps[t]?):want all s1 o=want all s2 o:=by
 unfold want
 split
 · rfl
 · rename_i j b hg
   split
   · rename_i p hp
     split
     · rename_i d hd
       rw [h d (by simp [names,hg,hp,hd])]
     · rfl
   · rfl
theorem zHp {s1 s2:St} {o:Oper} (h:∀ t ∈ names all o,s1.tmps[t]?=s2.tmps[t]?):∀ x ∈ o.op.operands.toList,s1.eval x=s2.eval x:=by
 intro x hx
 cases x with
 | tmp t=>exact h t (by simp only [names,List.mem_append,List.mem_filterMap];exact .inl (.inr ⟨_,hx,rfl⟩))
 | _=>rfl
theorem zME (hE:EnvOk E P) (hC:z9F P call) (hL:z5F call) (h:Text E call all rs s s' S) {md:Region.Mode} (hfull:z9n md all=true) {X:Nat→Prop} {Q:Exit→Act→World→Prop}:
    ∀ (fuel:Nat) (listed:Array Bool),listed.size=all.size→(∀ j o,all[j]?=some o→listed.getD j false=true→∀ e ∈ o.after.toList,Region.binds md e=true→listed.getD e.on false=true) →
     (List.range all.size).countP (fun j=>!listed.getD j false)≤fuel →
     ∀ (a:Act) (w:World) (B:BMap),Sim X B w (sD all rs s s' (fun j=>listed.getD j false)) a →
     (∀ a' w' B',Sim X B' w' s' a'→Evo s.ro B X w B' w'→Q .normal a' w')→wpAny P md all Q fuel listed a w:=by
 have hend:∀ listed:Array Bool,(∀ i,i < all.size→listed.getD i false=true)→sD all rs s s' (fun j=>listed.getD j false)=s':=by
  intro listed hl
  have k:=h.keep (i:=all.size) (Nat.le_refl _)
  rw [h.last] at k
  have hH:=h.heap (i:=all.size) (Nat.le_refl _)
  have hT:=h.tmps (i:=all.size) (Nat.le_refl _)
  rw [h.last] at hH hT
  refine St.ext_eq ?_ ?_ k.2.2.symm k.1.symm k.2.1.symm
  · rw [hT];simp only [sD];rw [z6M fun i hi=>hl i hi]
  · simp only [sD]
    rw [z6M fun i hi=>hl i hi,← hH];simp
 have hdone:∀ listed:Array Bool,listed.size=all.size→Region.ready md all listed=[]→∀ (a:Act) (w:World) (B:BMap),Sim X B w (sD all rs s s' (fun j=>listed.getD j false)) a →
     (∀ a' w' B',Sim X B' w' s' a'→Evo s.ro B X w B' w'→Q .normal a' w')→Q .normal a w:=by
  intro listed hsz hr a w B hS hQ
  rw [hend listed (full_ready hfull hsz hr)] at hS
  exact hQ a w B hS (.refl _ _ _ _)
 intro fuel
 induction fuel with
 | zero=>
   intro listed hsz _ hcnt a w B hS hQ
   have hall:∀ i,i < all.size→listed.getD i false=true:=by
    intro i hi
    have:=List.countP_eq_zero.1 (Nat.le_zero.1 hcnt) i (by simpa using hi)
    simpa using this
   have hr:Region.ready md all listed=[]:=by
    cases hh:Region.ready md all listed with
    | nil=>rfl
    | cons i l=>
      have hm:i ∈ Region.ready md all listed:=by rw [hh];simp
      obtain ⟨h1,o,ho,_⟩:=mem_ready.1 hm
      have hi:=(Array.getElem?_eq_some_iff.1 ho).1
      have h2:=hall i hi
      have hi':i < listed.size:=by omega
      simp [hi'] at h1 h2
      rw [h1] at h2;cases h2
   exact ⟨hr,hdone listed hsz hr a w B hS hQ⟩
 | succ fuel ih=>
   intro listed hsz hdown hcnt a w B hS hQ
   refine ⟨fun hr=>hdone listed hsz hr a w B hS hQ,fun i hi=>?_⟩
   obtain ⟨hnot,o,ho,hedge⟩:=mem_ready.1 hi
   have hlt:=(Array.getElem?_eq_some_iff.1 ho).1
   have hlt':i < listed.size:=by omega
   have hnot':listed.getD i false=false:=by simp [hlt'] at hnot ⊢;exact hnot
   have hbind:∀ e:Edge,Region.binds .any e=true→Region.binds md e=true:=by
    intro e he
    unfold Region.binds at he ⊢
    split
    · rename_i hg;rw [hg] at he;simp at he
    · rename_i hg;rw [hg] at he;simp at he
    · rfl
   have hn:Next all (fun j=>listed.getD j false) i o:=
    ⟨ho,hnot',fun j oj hj hd e he hb=>hdown j oj hj hd e he (hbind e hb),fun e he hb=>hedge e (by simpa using he) (hbind e hb)⟩
   obtain ⟨r,hr,hrs,hnx,hok⟩:=h.each i o ho
   have hD':(listed.setIfInBounds i true).getD i false=true:=by simp [hlt']
   have hne:∀ j,j ≠ i→(listed.setIfInBounds i true).getD j false=listed.getD j false:=fun j hj=>getD_set_ne false (Ne.symm hj)
   have hstep:=h.step (D':=fun j=>(listed.setIfInBounds i true).getD j false) hn hD' hne hr
   have hnames:∀ t ∈ names all o,(S i).tmps[t]?=(sD all rs s s' (fun j=>listed.getD j false)).tmps[t]?:=fun t ht=>(h.tmp_eq hn ht).symm
   have hwant:=zIh (all:=all) hnames
   have hkeep:=h.keep (i:=i) (by omega)
   have hgo:∀ (a':Act) (w':World) (B':BMap),Sim X B' w' (sD all rs s s' (fun j=>(listed.setIfInBounds i true).getD j false)) a'→Evo s.ro B X w B' w'→wpAny P md all Q fuel (listed.setIfInBounds i true) a' w':=by
    intro a' w' B' hS' hEv
    refine ih _ (by simpa using hsz) ?_ ?_ a' w' B' hS' (fun a2 w2 B2 hS2 hEv2=>hQ a2 w2 B2 hS2 (hEv.trans hEv2))
    · intro j oj hj hd e he hb
      by_cases hji:j=i
      · subst hji
        rw [ho] at hj;cases hj
        exact getD_set_true (hedge e (by simpa using he) hb)
      · rw [hne j hji] at hd
        exact getD_set_true (hdown j oj hj hd e he hb)
    · have hlow:∀ n,n≤all.size→(List.range n).countP (fun j=>!(listed.setIfInBounds i true).getD j false)+(if i < n then 1 else 0)=(List.range n).countP (fun j=>!listed.getD j false):=by
        intro n
        induction n with
        | zero=>intro _;simp
        | succ n ihn=>
          intro hn'
          have:=ihn (by omega)
          rw [List.range_succ,List.countP_append,List.countP_append]
          simp only [List.countP_cons,List.countP_nil,Nat.zero_add]
          by_cases hni:n=i
          · subst hni
            rw [hD',hnot']
            simp at this ⊢
            omega
          · rw [hne n hni]
            by_cases h1:i < n
            · have h2:i < n+1:=by omega
              simp only [h1,h2,if_true] at this ⊢
              omega
            · have h2:¬ i < n+1:=by omega
              simp only [h1,h2,if_false] at this ⊢
              omega
      have:=hlow all.size (Nat.le_refl _)
      rw [if_pos hlt] at this
      omega
   have hskip:want all (S i) o=some false→r.v=.tuple []→r.us=[]→wpOp P all Q i (wpAny P md all Q fuel (listed.setIfInBounds i true)) a w:=by
    intro hw hv hus
    unfold wpOp
    rw [ho]
    simp only
    rw [z6K hS.tmps (hwant ▸ hw)]
    simp only [Bool.false_eq_true,if_false]
    refine hgo _ w B ?_ (.refl _ _ _ _)
    rw [hv,hus] at hstep
    rw [← hstep]
    exact z7c hS o.dst
   rcases hok with ⟨_,hw,hv,hus⟩ | ⟨hon,hw,hcs,hres⟩
   · rw [hrs] at hw
     exact hskip hw hv hus
   · rw [hrs] at hw hcs hres
     unfold wpOp
     rw [ho]
     simp only
     rw [z6K hS.tmps (hwant ▸ hw)]
     simp only [if_true]
     refine .inl ?_
     have hslots:=h.slots hn hr hS.heap
     have hev:=zHp (all:=all) hnames
     rcases hres with ⟨hst,hrd,hlr⟩ | ⟨f,args,hst,hcall,hlk⟩
     · have hsame:=h.same hn hr hon hlr
       rw [hrd] at hsame
       rw [z5k hev hsame hkeep.1 hkeep.2.1] at hst
       refine zOO hE hS hst (fun hall=>?_) fun a' w' B' hS' hEv=>hgo a' w' B' (hstep ▸ hS') hEv
       have:r.us.countP (fun u=>decide ((S i).H.length≤u.1))=r.us.length:=by
        rw [List.countP_eq_length];intro u hu;simpa using hall u hu
       rw [← this];exact hslots
     · have hcl:=z8L fuel0 (refsL args) [] r.reads hlk (by simp)
       have hll:=z7N fuel0 (refsL args) [] r.reads hlk (by simp)
       have hsame:=h.same hn hr hon hll
       have hst':stepOp E (S i).H.length (sD all rs s s' (fun j=>listed.getD j false)) o=some (.call f args):=by
        have hrd0:z1R (S i) o=[] ∨ Same (S i).H (sD all rs s s' (fun j=>listed.getD j false)).H (z1R (S i) o):=by
         left
         unfold stepOp at hst
         unfold z1R
         cases hop:o.op with
         | call c=>
           obtain ⟨ce,as,ats⟩:=c
           cases ce with
           | builtin b=>
             rw [hop] at hst
             simp only at hst
             split at hst
             · rename_i b' args' hc' ha'
               exfalso
               have:∀ res,builtin E (S i).H.length (S i) b' ats.toList args'=some res→∀ f args,res ≠ .call f args:=by
                intro res hres f args e
                subst e
                unfold builtin at hres
                repeat' (split at hres)
                all_goals first
                 | (cases hres;done)
                 | (simp at hres;done)
               exact this _ hst f args rfl
             · rename_i hc' _;cases hc'
             · cases hst
           | _=>rfl
         | load _ _ | store _ _ _ | indexAddr _ _ _ | convert _ _ _ | slice _ _ _ _ _ | lookup _ _ _ _ | mapUpdate _ _ _ _=>
           exfalso
           rw [hop] at hst
           revert hst
           (try simp only)
           all_goals (intro hst;repeat' (split at hst))
           all_goals first
            | (cases hst;done)
            | (simp at hst;done)
         | _=>rfl
        rcases hrd0 with h0 | h0
        · rw [← z5k hev (by rw [h0];intro id hid;cases hid) hkeep.1 hkeep.2.1];exact hst
        · rw [← z5k hev h0 hkeep.1 hkeep.2.1];exact hst
       have hcall':=hL f args (S i).ro (S i).H (sD all rs s s' (fun j=>listed.getD j false)).H (S i).H.length r.reads r.v r.us hcl.1 hsame hcl.2.1 hcall
       rw [hkeep.1] at hcall'
       exact zA9 hE hC hS hst' hcall' hslots (fun v hv a' w' B' hS' hEv=>by cases hv;exact hgo a' w' B' (hstep ▸ hS') hEv) (fun v hv=>by cases hv)
end
section
variable {E:Env} {P:Program} {call:Nat→List AVal→Nat→Heap→Nat→Option (CRes × Out)} {X:Nat→Prop} {B:BMap} {w:World}
theorem Sim.world {s:St} {a:Act} (hS:Sim X B w s a) {w':World} (hh:w'.heap=w.heap) (ho:w'.os=w.os∧w'.output=w.output∧w'.tape=w.tape) (ro:Nat):Sim X B w' s a∧Evo ro B X w B w':=by
 obtain ⟨h1,h2⟩:=hS.heap.world (w':=w') (by rw [hh];exact Nat.le_refl _) (fun r _=>by rw [hh])
 exact ⟨⟨h1,hS.tmps.last h2 (.refl _),hS.defs.last h2 (.refl _)⟩,⟨h2,.refl _,ho,fun id e _ he=>⟨he,fun r s t _=>by rw [hh]⟩,fun r _=>by rw [hh]⟩⟩
theorem zEF (hE:EnvOk E P) (hC:z9F P call) (hL:z5F call) {id:Nat} {ops:Array Oper} {draw:Bool} (hok:z2t (.region id ops draw)=true) {s s':St} {a:Act} {ex:Ex} (hS:Sim X B w s a)
    (h:z20 E call ops draw s=some (ex,s')) {Q:Exit→Act→World→Prop} (hQ:∀ e a' w',ExOk X s.ro B w ex s' e a' w'→Q e a' w'):(Code.region id ops draw).wp P Q a w:=by
 unfold z20 at h
 cases draw with
 | false=>
   simp only [Bool.false_eq_true,if_false] at h
   refine wp_region ?_
   rw [List.range_eq_range',← Array.length_toList]
   exact z2i hE hC ops.toList 0 rfl s a w B ex s' hS h hQ
 | true=>
   simp only [if_true] at h
   split at h
   · rename_i s1 l hd
     split at h
     · rename_i hap
       cases h
       simp only [z2t,Bool.not_true,Bool.false_or,zJh,Bool.and_eq_true] at hok
       obtain ⟨⟨⟨ht,hany⟩,htext⟩,hgc⟩:=hok
       obtain ⟨rs,hran,rfl⟩:=z4r _ _ _ _ _ hd
       obtain ⟨S,k1,k2,k3⟩:=zIF hran
       have hT:Text E call ops rs s s' S:=⟨k1,by simpa using k2,fun i o ho=>k3 i o (by simpa using ho),ht,hap⟩
       refine wp_region_draw fun t=>?_
       obtain ⟨hS1,hEv⟩:=hS.world (w':={ w with drawn:=w.drawn+1 }) rfl ⟨rfl,rfl,rfl⟩ s.ro
       have hzero:∀ j,(Array.replicate ops.size false).getD j false=false:=by
        intro j
        by_cases hj:j < ops.size <;> simp [Array.getElem?_replicate,hj]
       have hS2:Sim X B { w with drawn:=w.drawn+1 } (sD ops rs s s' (fun j=>(Array.replicate ops.size false).getD j false)) a:=by
        have e:sD ops rs s s' (fun j=>(Array.replicate ops.size false).getD j false)={ s with H:=s.H++List.replicate (s'.H.length - s.H.length) Blk.free }:=by
         unfold sD
         rw [zEl fun j _=>hzero j,zEl fun j _=>hzero j]
         rfl
        rw [e]
        exact ⟨hS1.heap.slots _,hS1.tmps,hS1.defs⟩
       have key:∀ md t,z9n md ops=true→wpOps P ops Q (Region.linearise md ops t) a { w with drawn:=w.drawn+1 }:=by
        intro md t hf
        refine wpAny_sound ops.size t _ a _ ?_
        refine zME hE hC hL hT hf ops.size _ (by simp) (fun j o _ hj=>by rw [hzero j] at hj;cases hj) ?_ a _ B hS2 fun a' w' B' hS' hEv'=>?_
        · have:=List.countP_le_length (p:=fun j=>!(Array.replicate ops.size false).getD j false) (l:=List.range ops.size)
          simpa using this
        · have hro:s'.ro=s.ro:=by
            have:=(hT.keep (i:=ops.size) (Nat.le_refl _)).1
            rwa [hT.last] at this
          exact hQ _ _ _ ⟨hro,B',hS',hEv.trans hEv',trivial⟩
       unfold Region.schedule
       split
       · exact key _ _ hany
       · refine key _ _ ?_
         split
         · exact htext
         · exact hgc
     · cases h
   · cases h
theorem zKp (f:Nat→Option Nat) (a:AVal) (h:a.oneC=true):(a.ren f).oneC=true:=by
 cases a <;> simp only [AVal.ren] <;> first
  | rfl
  | (simp [AVal.oneC] at h;done)
  | (split <;> rfl)
theorem z7f (f:Nat→Option Nat) {Y:Nat→Prop} {B':BMap}:(∀ a:AVal,∀ v,(∀ id j e,f id=some j→B id=some e→B' j=some e)→VRel Y w B a v→VRel Y w B' (a.ren f) v) ∧
    (∀ l:List AVal,∀ vs,(∀ id j e,f id=some j→B id=some e→B' j=some e)→VRelL Y w B l vs→VRelL Y w B' (renL f l) vs):=by
 refine AVal.strong ?_ ?_
 · intro a ihp ihq v hf h
   cases a with
   | bool _ | int _ _ | str _ | nilptr | nilmap | nilfunc | niliface | undef | lptr _ _ | lit _ _ _=>simpa only [AVal.ren,VRel] using h
   | ptr id g i o=>
     have h0:=h.one rfl
     simp only [AVal.ren]
     split
     · rename_i j hj
       simp only [VRel] at h ⊢
       obtain ⟨ad,h1,e,he,h2⟩:=h
       exact ⟨ad,h1,e,hf id j e hj he,h2⟩
     · simpa only [VRel] using h0
   | ref id g i len cl=>
     have h0:=h.one rfl
     simp only [AVal.ren]
     split
     · rename_i j hj
       simp only [VRel] at h ⊢
       obtain ⟨ad,cap,h1,h2,h3,h4,e,he,h5⟩:=h
       exact ⟨ad,cap,h1,h2,h3,h4,e,hf id j e hj he,h5⟩
     · simpa only [VRel] using h0
   | view id g i o len=>
     have h0:=h.one rfl
     simp only [AVal.ren]
     split
     · rename_i j hj
       simp only [VRel] at h ⊢
       obtain ⟨ad,cap,h1,h2,h3,e,he,h5⟩:=h
       exact ⟨ad,cap,h1,h2,h3,e,hf id j e hj he,h5⟩
     · simpa only [VRel] using h0
   | mapp id=>
     have h0:=h.one rfl
     simp only [AVal.ren]
     split
     · rename_i j hj
       simp only [VRel] at h ⊢
       obtain ⟨r,h1,e,he,h5⟩:=h
       exact ⟨r,h1,e,hf id j e hj he,h5⟩
     · simpa only [VRel] using h0
   | func g a b=>
     simp only [AVal.ren,VRel] at h ⊢
     obtain ⟨x,y,h1,h2,h3⟩:=h
     exact ⟨x,y,h1,ihq a (by simp;omega) _ hf h2,ihq b (by simp;omega) _ hf h3⟩
   | iface t x=>
     simp only [AVal.ren,VRel] at h ⊢
     obtain ⟨y,h1,h2⟩:=h
     exact ⟨y,h1,ihp x (by simp;omega) y hf h2⟩
   | agg cs=>
     simp only [AVal.ren,VRel] at h ⊢
     obtain ⟨vs,h1,h2,h3⟩:=h
     refine ⟨vs,h1,ihq cs (by simp) _ hf h2,?_⟩
     have:∀ l:List AVal,(∀ c ∈ l,c.oneC=true)→∀ c ∈ renL f l,c.oneC=true:=by
      intro l
      induction l with
      | nil=>intro _ c hc;cases hc
      | cons x l ih=>
        intro hl c hc
        simp only [renL,List.mem_cons] at hc
        rcases hc with rfl | hc
        · exact zKp f x (hl x (by simp))
        · exact ih (fun y hy=>hl y (by simp [hy])) c hc
     exact this cs h3
   | tuple cs=>
     simp only [AVal.ren,VRel] at h ⊢
     obtain ⟨vs,h1,h2⟩:=h
     exact ⟨vs,h1,ihq cs (by simp) _ hf h2⟩
 · intro l ihp ihq vs hf h
   cases l with
   | nil=>rw [z08] at h;subst h;simp only [renL];exact z0N
   | cons a as=>
     obtain ⟨v,vs',rfl,h1,h2⟩:=z05.1 h
     simp only [renL]
     exact z0D.2 ⟨ihp a (by simp;omega) v hf h1,ihq as (by simp;omega) vs' hf h2⟩
def cutB (B:BMap) (m:Nat):BMap:=fun id=>if id < m then B id else none
theorem z4V (m:Nat):Lasts (avoid X B) w (avoid X (cutB B m)) w:=by
 refine ⟨Nat.le_refl _,fun _ _ _=>rfl,fun r _ hy hy'=>hy ?_⟩
 rcases hy' with h | ⟨id,e,s,t,h1,h2⟩
 · exact .inl h
 · unfold cutB at h1
   split at h1
   · exact .inr ⟨id,e,s,t,h1,h2⟩
   · cases h1
theorem VRel.cut {a:AVal} {v:Value} {m:Nat} (h:VRel (avoid X B) w B a v):VRel (avoid X (cutB B m)) w (cutB B m) (scrub m a) v:=by
 have h1:VRel (avoid X (cutB B m)) w B a v:=h.last (z4V m) (.refl _)
 unfold scrub
 split
 · rename_i hu
   exact (z2w m _ w B (cutB B m) (fun id e hid he=>by simp [cutB,hid,he])).1 a v hu h1
 · refine (z7f _).1 a v (fun id j e hj he=>?_) h1
   split at hj
   · rename_i hid
     cases hj
     simp [cutB,hid,he]
   · cases hj
theorem VRelL.cut {l:List AVal} {vs:List Value} {m:Nat} (h:VRelL (avoid X B) w B l vs) (hu:underL m l=true):VRelL (avoid X (cutB B m)) w (cutB B m) l vs:=
 (z2w m _ w B (cutB B m) (fun id e hid he=>by simp [cutB,hid,he])).2 l vs hu (h.last (z4V m) (.refl _))
theorem VRelL.scrub {m:Nat}:∀ {l:List AVal} {vs:List Value},VRelL (avoid X B) w B l vs→VRelL (avoid X (cutB B m)) w (cutB B m) (l.map (scrub m)) vs
 | [],vs,h=>by rw [z08] at h;subst h;exact z0N
 | a :: l,vs,h=>by
   obtain ⟨v,vs',rfl,h1,h2⟩:=z05.1 h
   exact z0D.2 ⟨h1.cut,VRelL.scrub h2⟩
theorem zIe {m:Nat} {es:List AVal} (h:underL m es=true):underL m (flatC es)=true:=by
 induction es with
 | nil=>rfl
 | cons e es ih=>
   simp only [underL,Bool.and_eq_true] at h
   simp only [flatC,z58,Bool.and_eq_true]
   exact ⟨z3b h.1,ih h.2⟩
theorem HRel.cut {H:Heap} (h:HRel B X w H) {m:Nat} (hm:m≤H.length) (hu:(H.take m).all (underB m)=true):HRel (cutB B m) X w (H.take m):=by
 have some_of:∀ {id:Nat} {e:Ent},cutB B m id=some e→id < m∧B id=some e:=by
  intro id e he
  unfold cutB at he
  split at he
  · exact ⟨by assumption,he⟩
  · cases he
 refine ⟨fun id e he=>?_,fun id id' e e' r s t s' t' h1 h2 h3 h4=>h.inj _ _ _ _ _ _ _ _ _ (some_of h1).2 (some_of h2).2 h3 h4,fun id e r s t h1 h2=>h.lt _ _ _ _ _ (some_of h1).2 h2,h.xlt,fun id b hb=>?_⟩
 · have:=(some_of he).1
   simp;omega
 · have hid:id < m:=by
     have:=(List.getElem?_eq_some_iff.1 hb).1
     simp at this;omega
   have hub:underB m b=true:=List.all_eq_true.1 hu b (List.mem_of_getElem? hb)
   rw [List.getElem?_take,if_pos hid] at hb
   rcases h.blk id b hb with ⟨h1,h2⟩ | ⟨e,h1,h2⟩
   · exact .inl ⟨h1,by unfold cutB;rw [if_pos hid,h2]⟩
   · refine .inr ⟨e,by unfold cutB;rw [if_pos hid,h1],?_⟩
     unfold BOk at h2 ⊢
     split at h2
     · rename_i g sz fl es r sh tot hst
       obtain ⟨q1,q2,q3,q4,q5,c,T,q6,q7,q8⟩:=h2
       refine ⟨q1,q2,q3,q4,q5,c,T,q6,q7,?_⟩
       cases fl with
       | true=>exact q8.last (z4V m) (.refl _)
       | false=>
         simp only [underB,Bool.false_or] at hub
         exact VRelL.cut q8 (zIe hub)
     · exact h2
     · obtain ⟨q1,me,cl,q2,q3⟩:=h2
       exact ⟨q1,me,cl,q2,q3.last (z4V m)⟩
     · trivial
     · exact h2.elim
theorem DRel.cut {m:Nat}:∀ {l:List (Nat × List AVal)} {d:List Deferred},l.all (fun d=>underL m d.2)=true→DRel (avoid X B) w B l d→DRel (avoid X (cutB B m)) w (cutB B m) l d
 | [],[],_,_=>trivial
 | (f,as) :: l,d :: ds,hu,⟨⟨cap,h1,h2⟩,h3⟩=>by
   simp only [List.all_cons,Bool.and_eq_true] at hu
   exact ⟨⟨cap,h1,h2.cut hu.1⟩,DRel.cut hu.2 h3⟩
 | [],_ :: _,_,h=>h.elim
 | _ :: _,[],_,h=>by obtain ⟨_,_⟩:=‹Nat × List AVal›;exact h.elim
theorem zFz {s0 s:St} {a:Act} {w0:World} {B0':BMap} (h0:∀ id e,B0' id=some e→id < s0.H.length) (hS:Sim X B w s a) {ro:Nat} (hE:Evo ro B0' X w0 B w):
    ∃ B',Sim X B' w (trunc s0.H.length s) a∧Evo ro B0' X w0 B' w∧(trunc s0.H.length s).ro=s.ro:=by
 unfold trunc
 split
 · exact ⟨B,hS,hE,rfl⟩
 · split
   · rename_i hm hc
     simp only [Bool.and_eq_true] at hc
     refine ⟨cutB B s0.H.length,⟨hS.heap.cut (by omega) hc.1,VRelL.scrub hS.tmps,hS.defs.cut hc.2⟩,⟨hE.lasts.trans (z4V _),fun id e he=>?_,hE.os,fun id e hid he=>?_,hE.fix⟩,rfl⟩
     · obtain ⟨e',h1,h2⟩:=hE.ble id e he
       exact ⟨e',by unfold cutB;rw [if_pos (h0 id e he),h1],h2⟩
     · obtain ⟨h1,h2⟩:=hE.ro id e hid he
       exact ⟨by unfold cutB;rw [if_pos (h0 id e he),h1],h2⟩
   · exact ⟨B,hS,hE,rfl⟩
end
def LoopWp (P:Program) (c:Code) (Q:Exit→Act→World→Prop) (a:Act) (w:World):Prop:=
 ∀ (b:Frame) (k:List Item) (cs:List Frame),∃ e a' w',Q e a' w'∧Arrives P (lone (b.at a (.code c :: .inLoop c :: k)) cs w) b k cs e a' w'
section
variable {P:Program} {Q:Exit→Act→World→Prop} {a:Act} {w:World}
theorem LoopWp.loop {c:Code} (h:LoopWp P c Q a w):(Code.loop c).wp P Q a w:=by
 intro b k cs
 obtain ⟨e,a',w',hq,harr⟩:=h b k cs
 exact ⟨e,a',w',hq,.of_steps (.one step_loop) harr⟩
theorem LoopWp.round {c:Code} (h:c.wp P (Exit.then (LoopWp P c Q) Q) a w):LoopWp P c Q a w:=by
 intro b k cs
 obtain ⟨e,a₁,w₁,hq,harr⟩:=h b (.inLoop c :: k) cs
 cases e with
 | normal=>
   obtain ⟨e₂,a₂,w₂,hq₂,harr₂⟩:=hq b k cs
   exact ⟨e₂,a₂,w₂,hq₂,.of_steps (Steps.trans harr (.one step_inLoop)) harr₂⟩
 | exit id=>exact ⟨_,a₁,w₁,hq,.pass (x:=.inLoop c) rfl (fun _ _=>.inl (by simp)) harr⟩
 | goto l=>exact ⟨_,a₁,w₁,hq,.pass (x:=.inLoop c) rfl (fun _ _=>.inl (by simp)) harr⟩
 | ret=>exact ⟨_,a₁,w₁,hq,.pass (x:=.inLoop c) rfl (fun _ _=>.inl (by simp)) harr⟩
 | panic ch=>exact ⟨_,a₁,w₁,hq,.pass (x:=.inLoop c) rfl (fun _ _=>.inl (by simp)) harr⟩
 | outgrown=>exact ⟨_,a₁,w₁,hq,.pass (x:=.inLoop c) rfl (fun _ _=>.inl (by simp)) harr⟩
end
section
variable {E:Env} {P:Program} {call:Nat→List AVal→Nat→Heap→Nat→Option (CRes × Out)} {X:Nat→Prop}
def zOg (P:Program) (run:Code→St→Option (Ex × St)) (c:Code):Prop:=
 ∀ (X:Nat→Prop) (s:St) (a:Act) (w:World) (B:BMap) (ex:Ex) (s':St) (Q:Exit→Act→World→Prop),run c s=some (ex,s')→Sim X B w s a→(∀ e a' w',ExOk X s.ro B w ex s' e a' w'→Q e a' w')→c.wp P Q a w
def zOh (P:Program) (run:Code→St→Option (Ex × St)) (c:Code):Prop:=
 ∀ (X:Nat→Prop) (s:St) (a:Act) (w:World) (B:BMap) (ex:Ex) (s':St) (Q:Exit→Act→World→Prop),run c s=some (ex,s')→Sim X B w s a→(∀ e a' w',ExOk X s.ro B w ex s' e a' w'→Q e a' w')→LoopWp P c Q a w
theorem ExOk.not_normal {ro:Nat} {B:BMap} {w:World} {ex:Ex} {s':St} {e:Exit} {a':Act} {w':World} (h:ExOk X ro B w ex s' e a' w') (hn:ex ≠ .normal):e ≠ .normal:=by
 obtain ⟨_,B',_,_,h3⟩:=h
 cases ex <;> cases e <;> simp_all [zHN]
theorem zLF {ro:Nat} {B:BMap} {w:World} {ex:Ex} {s':St} {K:Act→World→Prop} {Q:Exit→Act→World→Prop} (hn:ex ≠ .normal) (hQ:∀ e a' w',ExOk X ro B w ex s' e a' w'→Q e a' w'):
    ∀ e a' w',ExOk X ro B w ex s' e a' w'→Exit.then K Q e a' w':=by
 intro e a' w' h
 have h1:=h.not_normal hn
 have h2:=hQ e a' w' h
 cases e with
 | normal=>exact absurd rfl h1
 | _=>exact h2
theorem ExOk.normal {ro:Nat} {B:BMap} {w:World} {s':St} {e:Exit} {a':Act} {w':World} (h:ExOk X ro B w .normal s' e a' w'):e=.normal∧s'.ro=ro∧∃ B',Sim X B' w' s' a'∧Evo ro B X w B' w':=by
 obtain ⟨h0,B',h1,h2,h3⟩:=h
 cases e <;> simp_all [zHN]
 exact ⟨B',h1,h2⟩
theorem z2B (hE:EnvOk E P) (hC:z9F P call) (hL:z5F call) {L:Code→St→Option (Ex × St)} (hLoop:∀ c,z2t c=true→zOh P L c):∀ c:Code,z2t c=true→zOg P (z1t E call L) c
 | .skip,_,X,s,a,w,B,ex,s',Q,h,hS,hQ=>by
   simp only [z1t,Option.some.injEq,Prod.mk.injEq] at h
   obtain ⟨rfl,rfl⟩:=h
   exact wp_skip (hQ _ _ _ ⟨rfl,B,hS,.refl _ _ _ _,trivial⟩)
 | .exit id,_,X,s,a,w,B,ex,s',Q,h,hS,hQ=>by
   simp only [z1t,Option.some.injEq,Prod.mk.injEq] at h
   obtain ⟨rfl,rfl⟩:=h
   exact wp_exit (hQ _ _ _ ⟨rfl,B,hS,.refl _ _ _ _,rfl⟩)
 | .ret,_,X,s,a,w,B,ex,s',Q,h,hS,hQ=>by
   simp only [z1t,Option.some.injEq,Prod.mk.injEq] at h
   obtain ⟨rfl,rfl⟩:=h
   exact wp_ret (hQ _ _ _ ⟨rfl,B,hS,.refl _ _ _ _,trivial⟩)
 | .region id ops draw,hok,X,s,a,w,B,ex,s',Q,h,hS,hQ=>zEF hE hC hL hok hS h hQ
 | .seq c d,hok,X,s,a,w,B,ex,s',Q,h,hS,hQ=>by
   simp only [z2t,Bool.and_eq_true] at hok
   simp only [z1t] at h
   refine wp_seq ?_
   split at h
   · rename_i s1 hc
     refine z2B hE hC hL hLoop c hok.1 X s a w B .normal s1 _ hc hS fun e a' w' he=>?_
     obtain ⟨rfl,hro,B',hS',hEv⟩:=he.normal
     exact z2B hE hC hL hLoop d hok.2 X s1 a' w' B' ex s' Q h hS' fun e2 a2 w2 h2=>hQ e2 a2 w2 ((hro ▸ h2).trans hEv)
   · rename_i hne
     refine z2B hE hC hL hLoop c hok.1 X s a w B ex s' _ h hS (zLF (fun e=>?_) hQ)
     subst e
     exact hne _ h
 | .cond c x y,hok,X,s,a,w,B,ex,s',Q,h,hS,hQ=>by
   simp only [z2t,Bool.and_eq_true] at hok
   simp only [z1t] at h
   split at h
   · rename_i hc
     exact wp_cond_true (z1F.1 (z0Q hS.tmps hc)) (z2B hE hC hL hLoop x hok.1 X s a w B ex s' Q h hS hQ)
   · rename_i hc
     exact wp_cond_false (z1F.1 (z0Q hS.tmps hc)) (z2B hE hC hL hLoop y hok.2 X s a w B ex s' Q h hS hQ)
   · cases h
 | .block id c,hok,X,s,a,w,B,ex,s',Q,h,hS,hQ=>by
   simp only [z2t] at hok
   simp only [z1t] at h
   refine wp_block ?_
   split at h
   · rename_i j s1 hc
     refine z2B hE hC hL hLoop c hok X s a w B (.exit j) s1 _ hc hS fun e a' w' he=>?_
     obtain ⟨hro,B',hS',hEv,hx⟩:=he
     cases e with
     | exit j'=>
       have hx:j=j':=hx
       subst hx
       simp only [Option.some.injEq] at h
       simp only [Exit.inBlock]
       by_cases hj:j=id
       · rw [if_pos hj] at h ⊢
         cases h
         exact hQ _ _ _ ⟨hro,B',hS',hEv,trivial⟩
       · rw [if_neg hj] at h ⊢
         cases h
         exact hQ _ _ _ ⟨hro,B',hS',hEv,rfl⟩
     | _=>exact hx.elim
   · rename_i hne
     refine z2B hE hC hL hLoop c hok X s a w B ex s' _ h hS fun e a' w' he=>?_
     have h2:=hQ e a' w' he
     cases e with
     | exit j=>
       obtain ⟨_,_,_,_,hx⟩:=he
       cases ex with
       | exit i=>exact absurd h (hne i s')
       | _=>exact hx.elim
     | _=>exact h2
 | .loop c,hok,X,s,a,w,B,ex,s',Q,h,hS,hQ=>by
   simp only [z1t] at h
   exact (hLoop c (by simpa [z2t] using hok) X s a w B ex s' Q h hS hQ).loop
 | .label _,_,X,s,a,w,B,ex,s',Q,h,_,_=>by simp [z1t] at h
 | .goto _,_,X,s,a,w,B,ex,s',Q,h,_,_=>by simp [z1t] at h
end
section
variable {E:Env} {P:Program} {w:World} {X:Nat→Prop} {B:BMap} {H:Heap}
def Live (H:Heap) (id:Nat):Prop:=(∃ g sz fl es,H[id]?=some (.cells g sz fl es)) ∨ ∃ m,H[id]?=some (.map m)
theorem z4d:∀ (n:Nat) (todo seen l:List Nat),reach H n todo seen=some l→(∀ id ∈ seen,Live H id)→seen.Nodup→(∀ id ∈ seen,∀ g sz es,H[id]?=some (.cells g sz false es)→∀ j ∈ refsL es,Live H j→j ∈ seen ∨ j ∈ todo) →
    (∀ id ∈ l,Live H id)∧l.Nodup∧(∀ id ∈ l,∀ g sz es,H[id]?=some (.cells g sz false es)→∀ j ∈ refsL es,Live H j→j ∈ l)∧(∀ id ∈ todo,Live H id→id ∈ l)∧∀ id ∈ seen,id ∈ l
 | n,[],seen,l,h,h1,h2,h3=>by
   have:seen=l:=by cases n <;> simpa [reach] using h
   subst this
   exact ⟨h1,h2,fun id hid g sz es he j hj hl=>(h3 id hid g sz es he j hj hl).elim (fun h=>h) (fun h=>by cases h),by simp,fun _ h=>h⟩
 | 0,_ :: _,_,_,h,_,_,_=>by simp [reach] at h
 | n+1,id :: todo,seen,l,h,h1,h2,h3=>by
   simp only [reach] at h
   split at h
   · rename_i hc
     have hc:id ∈ seen:=by simpa using hc
     obtain ⟨k1,k2,k3,k4,k5⟩:=z4d n todo seen l h h1 h2 (fun i hi g sz es he j hj hl=>by
      rcases h3 i hi g sz es he j hj hl with h | h
      · exact .inl h
      · rcases List.mem_cons.1 h with rfl | h
        · exact .inl hc
        · exact .inr h)
     exact ⟨k1,k2,k3,fun i hi hl=>(List.mem_cons.1 hi).elim (fun e=>e ▸ k5 _ hc) (fun hi=>k4 i hi hl),k5⟩
   · rename_i hc
     have hc:id ∉ seen:=by simpa using hc
     have go:∀ todo',(∀ j,j ∈ todo→j ∈ todo')→Live H id→(∀ g sz es,H[id]?=some (.cells g sz false es)→∀ j ∈ refsL es,j ∈ todo')→reach H n todo' (seen++[id])=some l →
         (∀ id ∈ l,Live H id)∧l.Nodup∧(∀ id ∈ l,∀ g sz es,H[id]?=some (.cells g sz false es)→∀ j ∈ refsL es,Live H j→j ∈ l)∧(∀ i ∈ id :: todo,Live H i→i ∈ l)∧∀ i ∈ seen,i ∈ l:=by
      intro todo' ht hlv hr h
      obtain ⟨k1,k2,k3,k4,k5⟩:=z4d n todo' (seen++[id]) l h
       (fun i hi=>by
         rcases List.mem_append.1 hi with hi | hi
         · exact h1 i hi
         · rw [List.mem_singleton.1 hi];exact hlv)
       (by
         rw [List.nodup_append]
         exact ⟨h2,by simp,fun a ha b hb e=>hc (by rw [← List.mem_singleton.1 hb,← e];exact ha)⟩)
       (fun i hi g sz es he j hj hl=>by
         rcases List.mem_append.1 hi with hi | hi
         · rcases h3 i hi g sz es he j hj hl with h | h
           · exact .inl (by simp [h])
           · rcases List.mem_cons.1 h with rfl | h
             · exact .inl (by simp)
             · exact .inr (ht j h)
         · have:=List.mem_singleton.1 hi;subst this
           exact .inr (hr g sz es he j hj))
      exact ⟨k1,k2,k3,fun i hi hl=>(List.mem_cons.1 hi).elim (fun e=>e ▸ k5 _ (by simp)) (fun hi=>k4 i (ht i hi) hl),fun i hi=>k5 i (by simp [hi])⟩
     split at h
     · rename_i g sz fl es he
       have hlv:Live H id:=.inl ⟨g,sz,fl,es,he⟩
       split at h
       · rename_i hfl
         exact go todo (fun _ h=>h) hlv (fun g' sz' es' he'=>by rw [he] at he';cases he';cases hfl) h
       · exact go (todo++refsL es) (fun _ h=>by simp [h]) hlv (fun g' sz' es' he' j hj=>by rw [he] at he';cases he';simp [hj]) h
     · rename_i m he
       exact go todo (fun _ h=>h) (.inr ⟨m,he⟩) (fun g' sz' es' he'=>by rw [he] at he';cases he') h
     · rename_i he
       obtain ⟨k1,k2,k3,k4,k5⟩:=z4d n todo seen l h h1 h2 (fun i hi g sz es he' j hj hl=>by
        rcases h3 i hi g sz es he' j hj hl with h | h
        · exact .inl h
        · rcases List.mem_cons.1 h with rfl | h
          · exfalso;rcases hl with ⟨_,_,_,_,h⟩ | ⟨_,h⟩ <;> (rw [he] at h;cases h)
          · exact .inr h)
       refine ⟨k1,k2,k3,fun i hi hl=>(List.mem_cons.1 hi).elim (fun e=>?_) (fun hi=>k4 i hi hl),k5⟩
       subst e
       exfalso;rcases hl with ⟨_,_,_,_,h⟩ | ⟨_,h⟩ <;> (rw [he] at h;cases h)
     · cases h
     · cases h
theorem z6B {Y Y':Nat→Prop}:(∀ a:AVal,∀ v,a.noLit=true→VRel Y w B a v→VRel Y' w B a v)∧(∀ l:List AVal,∀ vs,z2S l=true→VRelL Y w B l vs→VRelL Y' w B l vs):=by
 refine AVal.strong ?_ ?_
 · intro a ihp ihq v hn h
   cases a with
   | lit cl sz es=>
     simp only [AVal.noLit,List.isEmpty_iff] at hn
     subst hn
     simp only [VRel] at h ⊢
     obtain ⟨ad,cap,h1,h2,h3,h4,h5,_⟩:=h
     exact ⟨ad,cap,h1,h2,h3,h4,h5,.inl trivial⟩
   | lptr e f=>simp [AVal.noLit] at hn
   | func f a b=>
     simp only [AVal.noLit,Bool.and_eq_true] at hn
     simp only [VRel] at h ⊢
     obtain ⟨x,y,h1,h2,h3⟩:=h
     exact ⟨x,y,h1,ihq a (by simp;omega) _ hn.1 h2,ihq b (by simp;omega) _ hn.2 h3⟩
   | iface t x=>
     simp only [AVal.noLit] at hn
     simp only [VRel] at h ⊢
     obtain ⟨y,h1,h2⟩:=h
     exact ⟨y,h1,ihp x (by simp;omega) y hn h2⟩
   | agg cs=>
     simp only [AVal.noLit] at hn
     simp only [VRel] at h ⊢
     obtain ⟨vs,h1,h2,h3⟩:=h
     exact ⟨vs,h1,ihq cs (by simp) _ hn h2,h3⟩
   | tuple cs=>
     simp only [AVal.noLit] at hn
     simp only [VRel] at h ⊢
     obtain ⟨vs,h1,h2⟩:=h
     exact ⟨vs,h1,ihq cs (by simp) _ hn h2⟩
   | _=>simpa only [VRel] using h
 · intro l ihp ihq vs hn h
   cases l with
   | nil=>rw [z08] at h;subst h;exact z0N
   | cons a as=>
     simp only [z2S,Bool.and_eq_true] at hn
     obtain ⟨v,vs',rfl,h1,h2⟩:=z05.1 h
     exact z0D.2 ⟨ihp a (by simp;omega) v hn.1 h1,ihq as (by simp;omega) vs' hn.2 h2⟩
theorem z3w (f:Nat→Option Nat) (l:List AVal):renL f l=l.map (AVal.ren f):=by
 induction l with
 | nil=>rfl
 | cons a l ih=>simp [renL,ih]
theorem z9T (f:Nat→Option Nat) (a:AVal):(a.ren f).cellsOf=renL f a.cellsOf:=by
 cases a with
 | agg cs=>rfl
 | ptr id g i o=>show _=[AVal.ren f _];simp only [AVal.ren];cases f id <;> rfl
 | ref id g i len cl=>show _=[AVal.ren f _];simp only [AVal.ren];cases f id <;> rfl
 | view id g i o len=>show _=[AVal.ren f _];simp only [AVal.ren];cases f id <;> rfl
 | mapp id=>show _=[AVal.ren f _];simp only [AVal.ren];cases f id <;> rfl
 | _=>rfl
theorem zDh (f:Nat→Option Nat) (es:List AVal):flatC (renL f es)=renL f (flatC es):=by
 induction es with
 | nil=>rfl
 | cons e es ih=>simp only [renL,flatC,z9T,ih];simp only [z3w,List.map_append]
theorem z2v {l:List Nat} {x j:Nat} (h:idx l x=some j):l[j]?=some x:=by
 unfold idx at h
 rw [List.findIdx?_eq_some_iff_getElem] at h
 obtain ⟨h1,h2,_⟩:=h
 rw [List.getElem?_eq_getElem h1]
 simpa using h2
theorem z9r {l:List Nat} {x:Nat} (h:x ∈ l):∃ j,idx l x=some j:=by
 cases hi:idx l x with
 | some j=>exact ⟨j,rfl⟩
 | none=>
   unfold idx at hi
   rw [List.findIdx?_eq_none_iff] at hi
   have:=hi x h
   simp at this
theorem z9q {l:List Nat} (hn:l.Nodup) {x j:Nat} (h:l[j]?=some x):idx l x=some j:=by
 obtain ⟨k,hk⟩:=z9r (List.mem_of_getElem? h)
 have h2:=z2v hk
 obtain ⟨a1,a2⟩:=List.getElem?_eq_some_iff.1 h
 obtain ⟨b1,b2⟩:=List.getElem?_eq_some_iff.1 h2
 have key:j=k:=by
  rcases Nat.lt_trichotomy j k with hlt | he | hgt
  · exact absurd (by rw [a2,b2]) (List.pairwise_iff_getElem.1 hn j k a1 b1 hlt)
  · exact he
  · exact absurd (by rw [a2,b2]) (List.pairwise_iff_getElem.1 hn k j b1 a1 hgt)
 rw [hk,key]
end
section
variable {E:Env} {P:Program} {w:World} {X:Nat→Prop} {B:BMap} {H:Heap}
theorem z6n {α β:Type} {f:α→Option β}:∀ {l:List α} {r:List β},mapO f l=some r→r.length=l.length
 | [],r,h=>by simp [mapO] at h;subst h;rfl
 | x :: xs,r,h=>by
   simp only [mapO] at h
   split at h
   · rename_i h1 h2;cases h;simp [z6n h2]
   · cases h
theorem zEi {m:Nat} {l:List AVal} (h:∀ x ∈ l,x.under m=true):underL m l=true:=by
 induction l with
 | nil=>rfl
 | cons x l ih=>simp only [underL,Bool.and_eq_true];exact ⟨h x (by simp),ih fun y hy=>h y (by simp [hy])⟩
theorem z56 {ok:Nat→Bool}:∀ (n:Nat) (v u:AVal),toLit ok H n v=some u→noRef u=true
 | 0,_,_,h=>by simp [toLit] at h
 | n+1,v,u,h=>by
   unfold toLit at h
   split at h
   · rename_i hn;cases h;exact hn
   · split at h
     · split at h
       · split at h
         · split at h
           · cases h;rfl
           · obtain ⟨m,_,rfl⟩:=z1u h;rfl
         · cases h
       · cases h
     · split at h
       · split at h
         · cases h;rfl
         · cases h
       · cases h
     · obtain ⟨m,hm,rfl⟩:=z1u h
       exact zEi fun y hy=>by obtain ⟨x,_,hx⟩:=z49 hm y hy;exact z56 n x y hx
     · obtain ⟨m,hm,rfl⟩:=z1u h
       exact zEi fun y hy=>by obtain ⟨x,_,hx⟩:=z49 hm y hy;exact z56 n x y hx
     · cases h
theorem zAc {ok:Nat→Bool}:∀ (n:Nat) (v u:AVal),toLit ok H n v=some u→v.oneC=true→u.oneC=true:=by
 intro n v u h ho
 cases n with
 | zero=>simp [toLit] at h
 | succ n=>
   unfold toLit at h
   split at h
   · cases h;exact ho
   · split at h
     · split at h
       · split at h
         · split at h
           · cases h;rfl
           · obtain ⟨m,_,rfl⟩:=z1u h;rfl
         · cases h
       · cases h
     · split at h
       · split at h
         · cases h;rfl
         · cases h
       · cases h
     · simp [AVal.oneC] at ho
     · simp [AVal.oneC] at ho
     · cases h
theorem zFw {ok:Nat→Bool} (n:Nat) (v u:AVal) (h:toLit ok H n v=some u) (hc:∀ c ∈ v.cellsOf,c.oneC=true):u.cellsOf.length=v.cellsOf.length∧∀ c ∈ u.cellsOf,c.oneC=true:=by
 have one:=@zAc H ok
 by_cases hv:v.oneC=true
 · have hu:=one n v u h hv
   have e1:∀ a:AVal,a.oneC=true→a.cellsOf=[a]:=fun a ha=>by cases a <;> simp_all [AVal.cellsOf,AVal.oneC]
   rw [e1 v hv,e1 u hu]
   exact ⟨rfl,by simpa using hu⟩
 · cases v with
   | agg cs=>
     cases n with
     | zero=>simp [toLit] at h
     | succ n=>
       unfold toLit at h
       split at h
       · cases h;exact ⟨rfl,hc⟩
       · simp only at h
         obtain ⟨m,hm,rfl⟩:=z1u h
         refine ⟨z6n hm,fun c hcm=>?_⟩
         obtain ⟨x,hx,he⟩:=z49 hm c hcm
         exact one n x c he (hc x hx)
   | tuple cs=>have:=hc (.tuple cs) (by simp [AVal.cellsOf]);simp [AVal.oneC] at this
   | _=>exact absurd rfl hv
theorem z7P {f:AVal→Option AVal} {Y Y':Nat→Prop} {B':BMap}:∀ {l m:List AVal} {vs:List Value},mapO f l=some m→VRelL Y w B l vs→(∀ x ∈ l,∀ u v,f x=some u→VRel Y w B x v→VRel Y' w B' u v)→VRelL Y' w B' m vs
 | [],m,vs,h,hv,_=>by
   simp [mapO] at h;subst h
   rw [z08] at hv;subst hv;exact z0N
 | x :: xs,m,vs,h,hv,hf=>by
   simp only [mapO] at h
   split at h
   · rename_i y ys h1 h2
     cases h
     obtain ⟨v,vs',rfl,g1,g2⟩:=z05.1 hv
     exact z0D.2 ⟨hf x (by simp) y v h1 g1,z7P h2 g2 fun z hz=>hf z (by simp [hz])⟩
   · cases h
theorem zDs {f:AVal→Option AVal} {Y Y':Nat→Prop} {sz:Nat}:∀ {l m:List AVal} {vs:List Value},mapO f l=some m→(∀ x ∈ l,x.cellsOf.length=sz)→(∀ c ∈ flatC l,c.oneC=true)→VRelL Y w B (flatC l) vs →
    (∀ x ∈ l,∀ u,f x=some u→u.cellsOf.length=x.cellsOf.length∧(∀ c ∈ u.cellsOf,c.oneC=true)∧∀ us,VRelL Y w B x.cellsOf us→VRelL Y' w B0 u.cellsOf us) →
    VRelL Y' w B0 (flatC m) vs∧(∀ x ∈ m,x.cellsOf.length=sz)∧∀ c ∈ flatC m,c.oneC=true
 | [],m,vs,h,_,_,hv,_=>by
   simp [mapO] at h;subst h
   simp only [flatC] at hv ⊢
   rw [z08] at hv;subst hv
   exact ⟨z0N,by simp,by simp⟩
 | x :: xs,m,vs,h,hs,h1,hv,hf=>by
   simp only [mapO] at h
   split at h
   · rename_i y ys g1 g2
     cases h
     obtain ⟨k1,k2,k3⟩:=hf x (by simp) y g1
     simp only [flatC] at hv h1 ⊢
     obtain ⟨v1,v2⟩:=zEp hv
     obtain ⟨i1,i2,i3⟩:=zDs g2 (fun z hz=>hs z (by simp [hz])) (fun c hc=>h1 c (by simp [hc])) v2 fun z hz=>hf z (by simp [hz])
     refine ⟨?_,?_,?_⟩
     · have:=VRelL_append (k3 _ v1) i1
       rwa [List.take_append_drop] at this
     · intro z hz
       rcases List.mem_cons.1 hz with rfl | hz
       · rw [k1];exact hs x (by simp)
       · exact i2 z hz
     · intro c hc
       rcases List.mem_append.1 hc with hc | hc
       · exact k2 c hc
       · exact i3 c hc
   · cases h
theorem zDi {es:List AVal} {i len:Nat}:∀ c ∈ flatC ((es.drop i).take len),c ∈ flatC es:=by
 have mem:∀ (l:List AVal) (c:AVal),c ∈ flatC l ↔ ∃ x ∈ l,c ∈ x.cellsOf:=by
  intro l c
  induction l with
  | nil=>simp [flatC]
  | cons x l ih=>simp [flatC,ih]
 intro c hc
 obtain ⟨x,hx,h⟩:=(mem _ c).1 hc
 exact (mem _ c).2 ⟨x,List.mem_of_mem_drop (List.mem_of_mem_take hx),h⟩
theorem z6v (hH:HRel B X w H) {Y':Nat→Prop} {ok:Nat→Bool} {S:Nat→Prop}
    (hS:∀ id,S id→∀ g sz es,H[id]?=some (.cells g sz false es)→∀ j ∈ refsL es,Live H j→ok j=true→S j)
    (hY:∀ id e r s t,S id→B id=some e→e.st=.real r s t→¬ Y' r) (hL:Lasts (avoid X B) w Y' w):
    ∀ (n:Nat) (v u:AVal) (x:Value),toLit ok H n v=some u→VRel (avoid X B) w B v x→(∀ id ∈ v.refs,Live H id→ok id=true→S id)→VRel Y' w B u x
 | 0,_,_,_,h,_,_=>by simp [toLit] at h
 | n+1,v,u,x,h,hv,hr=>by
   have ih:=z6v hH hS hY hL n
   unfold toLit at h
   split at h
   · cases h;exact hv.last hL (.refl _)
   · split at h
     · rename_i id g i len cl _hn
       split at h
       · rename_i g' sz fl es hid
         split at h
         · rename_i hc
           simp only [Bool.and_eq_true,decide_eq_true_eq] at hc
           obtain ⟨⟨hok,rfl⟩,hil⟩:=hc
           have hSid:S id:=hr id (by simp [AVal.refs]) (.inl ⟨_,_,_,_,hid⟩) hok
           obtain ⟨e,hB,hg,hsz,hh⟩:=hH.cells hid
           simp only [VRel] at hv
           obtain ⟨ad,cap,rfl,hle,hcl,hnil,e',hB',_,hv⟩:=hv
           rw [hB] at hB';cases hB'
           have hv:=hv hg.symm
           have hl:((es.drop i).take len).length=len:=by simp;omega
           -- what is to be shown of the elements
           have key:∀ m:List AVal,m.length=len→(∀ r sh tot c T,e.st=.real r sh tot→w.heap[r]?=some (.cells c T (0,0))→(∀ x ∈ m,x.cellsOf.length=sz)∧(∀ c ∈ flatC m,c.oneC=true)∧VRelL Y' w B0 (flatC m) ((c.toList.drop (sh+i * sz)).take (len * sz)))→VRel Y' w B (.lit cl sz m) (.slice ad len cap):=by
            intro m hm hrel
            simp only [VRel]
            refine ⟨ad,cap,by rw [hm],by omega,fun h=>by rw [hm];exact hcl h,fun h0=>?_,hnil,?_⟩
            · rcases hh with ⟨hst,_⟩ | ⟨r,sh,tot,hst,⟨_,hpos⟩,_⟩
              · rw [hst] at hv
                exact ⟨hv.2.2 (by rw [hsz];exact h0),hv.2.1⟩
              · omega
            · by_cases hm0:m=[]
              · exact .inl hm0
              · right
                have hpos:0 < len:=by rw [← hm];exact List.length_pos_iff.2 hm0
                rcases hh with ⟨hst,_⟩ | ⟨r,sh,tot,hst,⟨htot,hpos'⟩,_,_,c,T,hc,hcs,_⟩
                · rw [hst] at hv;omega
                · rw [hst] at hv
                  obtain ⟨_,_,had⟩:=hv
                  have had:=had.resolve_left (by omega)
                  obtain ⟨q1,q2,q3⟩:=hrel r sh tot c T hst hc
                  rw [hsz] at had
                  have hmul:(i+len) * sz≤tot * sz:=Nat.mul_le_mul_right _ (by omega)
                  rw [Nat.add_mul] at hmul
                  exact ⟨r,sh+i * sz,_,had,hY id e r sh tot hSid hB hst,q1,q2,⟨c,T,(0,0),hc,by rw [hm];omega,by rw [hm]⟩,q3⟩
           have inner:∀ r sh tot c T,e.st=.real r sh tot→w.heap[r]?=some (.cells c T (0,0))→(∀ x ∈ es,x.cellsOf.length=sz)∧(∀ c ∈ flatC es,c.oneC=true)∧VRelL (avoid X B) w (if fl then B0 else B) (flatC ((es.drop i).take len)) ((c.toList.drop (sh+i * sz)).take (len * sz)):=by
            intro r sh tot c T hst hc
            rcases hh with ⟨hst',_⟩ | ⟨r',sh',tot',hst',_,hall,hone,c',T',hc',_,hrel⟩
            · rw [hst] at hst';cases hst'
            · rw [hst] at hst';cases hst'
              rw [hc] at hc';cases hc'
              refine ⟨hall,hone,?_⟩
              have hd:∀ x ∈ es.drop i,x.cellsOf.length=sz:=fun x hx=>hall x (List.mem_of_mem_drop hx)
              rw [z1m hd,z1k hall]
              have:=VRelL_take (VRelL_drop hrel (i * sz)) (len * sz)
              rw [List.drop_take,List.drop_drop,List.take_take] at this
              have hmul:(i+len) * sz≤es.length * sz:=Nat.mul_le_mul_right _ (by omega)
              rw [Nat.add_mul] at hmul
              rwa [Nat.min_eq_left (by omega)] at this
           split at h
           · rename_i hfl
             cases h
             refine key _ hl fun r sh tot c T hst hc=>?_
             obtain ⟨q1,q2,q3⟩:=inner r sh tot c T hst hc
             rw [if_pos hfl] at q3
             exact ⟨fun x hx=>q1 x (List.mem_of_mem_drop (List.mem_of_mem_take hx)),fun c hc=>q2 c (zDi c hc),q3.last hL (.refl _)⟩
           · rename_i hfl
             obtain ⟨m,hm,rfl⟩:=z1u h
             refine key m (by rw [z6n hm,hl]) fun r sh tot c T hst hc=>?_
             obtain ⟨q1,q2,q3⟩:=inner r sh tot c T hst hc
             rw [if_neg hfl] at q3
             have hfl':fl=false:=by simpa using hfl
             subst hfl'
             have:=zDs (Y':=Y') hm (fun x hx=>q1 x (List.mem_of_mem_drop (List.mem_of_mem_take hx))) (fun c hc=>q2 c (zDi c hc)) q3 (fun y hy u hu=>by
              have hyes:y ∈ es:=List.mem_of_mem_drop (List.mem_of_mem_take hy)
              have hyone:∀ c ∈ y.cellsOf,c.oneC=true:=fun c hc=>q2 c (by
               obtain ⟨a,b,rfl⟩:=List.append_of_mem hyes
               rw [z0j];simp [flatC,hc])
              obtain ⟨t1,t2⟩:=zFw n y u hu hyone
              refine ⟨t1,t2,fun us hus=>?_⟩
              have hrefs:∀ id' ∈ y.refs,Live H id'→ok id'=true→S id':=fun j hj hlv hokj=>hS id hSid g' sz es hid j (z4B hyes j hj) hlv hokj
              have hun:=z56 n y u hu
              by_cases hyo:y.oneC=true
              · have e1:∀ a:AVal,a.oneC=true→a.cellsOf=[a]:=fun a ha=>by cases a <;> simp_all [AVal.cellsOf,AVal.oneC]
                rw [e1 y hyo] at hus t1
                obtain ⟨z,zs,rfl,z1,z2⟩:=z05.1 hus
                rw [z08] at z2;subst z2
                have hu1:=(ih y u z hu z1 hrefs).noRef (B':=B0) hun
                have huo:u.cellsOf=[u]:=by
                 cases u with
                 | agg cs=>
                   exfalso
                   cases n with
                   | zero=>simp [toLit] at hu
                   | succ n=>
                     unfold toLit at hu
                     split at hu
                     · cases hu;simp [AVal.oneC] at hyo
                     · split at hu
                       · split at hu
                         · split at hu
                           · split at hu
                             · cases hu
                             · obtain ⟨_,_,h⟩:=z1u hu;cases h
                           · cases hu
                         · cases hu
                       · split at hu
                         · split at hu <;> cases hu
                         · cases hu
                       · simp [AVal.oneC] at hyo
                       · simp [AVal.oneC] at hyo
                       · cases hu
                 | _=>rfl
                rw [huo]
                exact z0D.2 ⟨hu1,z0N⟩
              · cases y with
                | agg cs=>
                  have hval:VRel (avoid X B) w B (.agg cs) (.agg us.toArray):=by simp only [VRel];exact ⟨_,rfl,by rw [List.toList_toArray];exact hus,hyone⟩
                  have hu1:=(ih (.agg cs) u (.agg us.toArray) hu hval hrefs).noRef (B':=B0) hun
                  have hcl:=hu1.cells (by
                   cases n with
                   | zero=>simp [toLit] at hu
                   | succ n=>
                     unfold toLit at hu
                     split at hu
                     · cases hu;rfl
                     · simp only at hu
                       obtain ⟨m',_,rfl⟩:=z1u hu;rfl)
                  simpa [Value.cells] using hcl.1
                | tuple cs=>have:=hyone (.tuple cs) (by simp [AVal.cellsOf]);simp [AVal.oneC] at this
                | _=>exact absurd rfl hyo)
             exact ⟨this.2.1,this.2.2,this.1⟩
         · cases h
       · cases h
     · rename_i id g i f len _hn
       split at h
       · rename_i sz es cs hel
         split at h
         · rename_i hc
           simp only [Bool.and_eq_true,decide_eq_true_eq] at hc
           obtain ⟨hok,hfl⟩:=hc
           cases h
           obtain ⟨hid,hi⟩:=z33 hel
           have hSid:S id:=hr id (by simp [AVal.refs]) (.inl ⟨_,_,_,_,hid⟩) hok
           obtain ⟨e,hB,hg,hsz,hh⟩:=hH.cells hid
           simp only [VRel] at hv
           obtain ⟨ad,cap,rfl,hle,hnil,e',hB',_,hv⟩:=hv
           rw [hB] at hB';cases hB'
           have hv:=hv hg.symm
           have hl:((cs.drop f).take len).length=len:=by simp;omega
           simp only [VRel]
           refine ⟨ad,cap,by rw [hl],by omega,by simp,by simp,hnil,?_⟩
           by_cases hm0:(cs.drop f).take len=[]
           · exact .inl hm0
           · right
             have hpos:0 < len:=by rw [← hl];exact List.length_pos_iff.2 hm0
             rcases hh with ⟨_,hnil'⟩ | ⟨r,sh,tot,hst,⟨htot,hpos'⟩,hall,hone,c,T,hc,hcs,hrel⟩
             · rw [hnil'] at hi;simp at hi
             · have had:=(hv r sh tot hst).resolve_left (by omega)
               rw [hsz] at had
               have hlt:=(List.getElem?_eq_some_iff.1 hi).1
               have hcl:cs.length=sz:=hall _ (List.mem_of_getElem? hi)
               have hel2:=z5y hall hi
               simp only [AVal.cellsOf] at hel2
               have hmul:(i+1) * sz≤es.length * sz:=Nat.mul_le_mul_right _ (by omega)
               have hmul2:es.length * sz≤tot * sz:=Nat.mul_le_mul_right _ htot
               rw [Nat.succ_mul] at hmul
               have hcone:∀ c ∈ cs,c.oneC=true:=fun c hc=>hone c (by rw [← hel2] at hc;exact List.mem_of_mem_drop (List.mem_of_mem_take hc))
               have hone':∀ c ∈ (cs.drop f).take len,c.oneC=true:=fun c hc=>hcone c (List.mem_of_mem_drop (List.mem_of_mem_take hc))
               rw [if_pos rfl] at hrel
               have h1:=VRelL_take (VRelL_drop (VRelL_take (VRelL_drop hrel (i * sz)) sz) f) len
               rw [hel2] at h1
               refine ⟨r,sh+i * sz+f,_,had,hY id e r sh tot hSid hB hst,fun x hx=>z5K (hone' x hx),by rw [z1N hone'];exact hone',⟨c,T,(0,0),hc,by rw [hl];omega,rfl⟩,?_⟩
               rw [z1N hone',hl,Nat.mul_one]
               have e1:(List.drop f (List.take sz (List.drop (i * sz) (List.take (es.length * sz) (List.drop sh c.toList))))).take len=(c.toList.drop (sh+i * sz+f)).take len:=by
                rw [List.drop_take,List.drop_take,List.drop_drop,List.drop_take,List.drop_drop,List.take_take,List.take_take]
                congr 1
                omega
               rw [e1] at h1
               exact h1.last hL (.refl _)
         · cases h
       · cases h
     · rename_i cs
       obtain ⟨m,hm,rfl⟩:=z1u h
       simp only [VRel] at hv ⊢
       obtain ⟨vs,rfl,h1,h2⟩:=hv
       refine ⟨vs,rfl,z7P hm h1 fun y hy u z hu hz=>ih y u z hu hz fun j hj=>hr j (by simpa [AVal.refs] using z4B hy j hj),?_⟩
       intro c hc
       obtain ⟨y,hy,he⟩:=z49 hm c hc
       exact zAc n y c he (h2 y hy)
     · rename_i cs
       obtain ⟨m,hm,rfl⟩:=z1u h
       simp only [VRel] at hv ⊢
       obtain ⟨vs,rfl,h1⟩:=hv
       exact ⟨vs,rfl,z7P hm h1 fun y hy u z hu hz=>ih y u z hu hz fun j hj=>hr j (by simpa [AVal.refs] using z4B hy j hj)⟩
     · cases h
end
section
variable {E:Env} {P:Program} {w:World} {X:Nat→Prop} {B:BMap} {H:Heap}
theorem zEy {run:Nat→List AVal→Heap→Nat→Option (CRes × Heap)}:z5F (callF E run):=by
 intro f args ro H H' nx l v us hcl hs ha h
 cases hw:(E.hint f).whole with
 | true=>
   unfold callF at h
   simp only [hw,if_true] at h
   split at h
   · simp at h
   · cases h
 | false=>rw [← zEx hcl hs ha hw];exact h
def zIp (P:Program) (run:Nat→List AVal→Heap→Nat→Option (CRes × Heap)):Prop:=
 ∀ f args H ro r H',run f args H ro=some (r,H')→∀ (X:Nat→Prop) (B:BMap) (w:World) (vs:Array Value),HRel B X w H→VRelL (avoid X B) w B args vs.toList →
  (callFunc f vs).run P w=.ok (.enter f vs) w∧Calls P f vs w (z8z X ro B w H' r)
def mapF (B:BMap) (fp:List Nat):BMap:=fun j=>(fp[j]?).bind B
def z8E (X:Nat→Prop) (B:BMap) (fp lent:List Nat) (r:Nat):Prop:=X r ∨ ∃ id e s t,B id=some e∧e.st=.real r s t∧id ∉ fp∧id ∉ lent
theorem z3L {fp:List Nat} {j:Nat} {e:Ent} (h:mapF B fp j=some e):∃ id,fp[j]?=some id∧B id=some e:=by
 unfold mapF at h
 cases hj:fp[j]? with
 | none=>simp [hj] at h
 | some id=>exact ⟨id,rfl,by simpa [hj] using h⟩
theorem z6m {fp:List Nat} {j id:Nat} (h:fp[j]?=some id):mapF B fp j=B id:=by simp [mapF,h]
theorem zJ3 {fp lent:List Nat} {r:Nat} (h:avoid (z8E X B fp lent) (mapF B fp) r):avoid X B r:=by
 rcases h with (h | ⟨id,e,s,t,h1,h2,_⟩) | ⟨j,e,s,t,h1,h2⟩
 · exact .inl h
 · exact .inr ⟨id,e,s,t,h1,h2⟩
 · obtain ⟨id,_,h3⟩:=z3L h1
   exact .inr ⟨id,e,s,t,h3,h2⟩
theorem zOB {fp lent:List Nat}:Lasts (avoid X B) w (avoid (z8E X B fp lent) (mapF B fp)) w:=
 ⟨Nat.le_refl _,fun _ _ _=>rfl,fun _ _ h h'=>h (zJ3 h')⟩
theorem z5z:∀ {l:List Nat} {bs:List Blk},getAll H l=some bs→bs.length=l.length∧∀ (j:Nat) (b:Blk),bs[j]?=some b→∃ id:Nat,l[j]?=some id∧H[id]?=some b
 | [],bs,h=>by simp [getAll] at h;subst h;exact ⟨rfl,by simp⟩
 | id :: l,bs,h=>by
   simp only [getAll] at h
   split at h
   · rename_i b bs' h1 h2
     cases h
     obtain ⟨k1,k2⟩:=z5z h2
     refine ⟨by simp [k1],fun j b' hj=>?_⟩
     cases j with
     | zero=>simp at hj;subst hj;exact ⟨id,rfl,h1⟩
     | succ j=>simpa using k2 j b' (by simpa using hj)
   · cases h
theorem zH4 {fp:List Nat}:∀ id j e,idx fp id=some j→B id=some e→mapF B fp j=some e:=by
 intro id j e hj he
 rw [z6m (z2v hj),he]
theorem BOk.ren {Y Y':Nat→Prop} {B':BMap} {f:Nat→Option Nat} {b:Blk} {e:Ent} (h:BOk Y w B b e) (hl:Lasts Y w Y' w) (hf:∀ id j e,f id=some j→B id=some e→B' j=some e):BOk Y' w B' (renB f b) e:=by
 unfold BOk at h
 split at h
 · rename_i g sz fl es r sh tot hst
   obtain ⟨q1,q2,q3,q4,q5,c,T,q6,q7,q8⟩:=h
   cases fl with
   | true=>
     simp only [renB,if_true,BOk,hst]
     exact ⟨q1,q2,q3,q4,q5,c,T,q6,q7,q8.last hl (.refl _)⟩
   | false=>
     simp only [renB,Bool.false_eq_true,if_false,BOk,hst]
     have hlen:(renL f es).length=es.length:=by rw [z3w,List.length_map]
     refine ⟨q1,q2,by rw [hlen];exact q3,fun x hx=>?_,fun c hc=>?_,c,T,q6,q7,?_⟩
     · rw [z3w] at hx
       obtain ⟨y,hy,rfl⟩:=List.mem_map.1 hx
       rw [z9T,z3w,List.length_map]
       exact q4 y hy
     · rw [zDh,z3w] at hc
       obtain ⟨y,hy,rfl⟩:=List.mem_map.1 hc
       exact zKp f y (q5 y hy)
     · rw [zDh,hlen]
       exact (z7f f).2 _ _ hf (q8.last hl (.refl _))
 · rename_i g sz fl es hst
   obtain ⟨q1,q2,rfl⟩:=h
   cases fl <;> simp [renB,BOk,hst,q1,q2,renL]
 · rename_i m r s t hst
   obtain ⟨q1,me,cl,q2,q3⟩:=h
   simp only [renB,BOk,hst]
   exact ⟨q1,me,cl,q2,q3.last hl⟩
 · rename_i hst
   simp only [renB,BOk,hst]
 · exact h.elim
theorem HRel.callee (hH:HRel B X w H) {fp lent:List Nat} (hn:fp.Nodup) (hlv:∀ id ∈ fp,Live H id) {bs:List Blk} (hb:getAll H fp=some bs):
    HRel (mapF B fp) (z8E X B fp lent) w (bs.map (renB (idx fp))):=by
 obtain ⟨hlen,hget⟩:=z5z hb
 refine ⟨fun j e he=>?_,fun j j' e e' r s t s' t' h1 h2 h3 h4=>?_,fun j e r s t h1 h2=>?_,fun r hr=>?_,fun j b hj=>?_⟩
 · obtain ⟨id,h1,_⟩:=z3L he
   have:=(List.getElem?_eq_some_iff.1 h1).1
   simp;omega
 · obtain ⟨id,a1,a2⟩:=z3L h1
   obtain ⟨id',b1,b2⟩:=z3L h2
   have:=hH.inj _ _ _ _ _ _ _ _ _ a2 b2 h3 h4
   subst this
   have k1:=z9q hn a1
   have k2:=z9q hn b1
   rw [k1] at k2;exact Option.some.inj k2
 · obtain ⟨id,a1,a2⟩:=z3L h1
   obtain ⟨q1,q2⟩:=hH.lt _ _ _ _ _ a2 h2
   refine ⟨q1,fun hx=>?_⟩
   rcases hx with hx | ⟨id',e',s',t',c1,c2,c3,_⟩
   · exact q2 hx
   · have:=hH.inj _ _ _ _ _ _ _ _ _ a2 c1 h2 c2
     subst this
     exact c3 (List.mem_of_getElem? a1)
 · rcases hr with hx | ⟨id',e',s',t',c1,c2,_⟩
   · exact hH.xlt r hx
   · exact (hH.lt _ _ _ _ _ c1 c2).1
 · rw [List.getElem?_map,Option.map_eq_some_iff] at hj
   obtain ⟨b0,hj,rfl⟩:=hj
   obtain ⟨id,a1,a2⟩:=hget j b0 hj
   rcases hH.blk id b0 a2 with ⟨h1,_⟩ | ⟨e,h1,h2⟩
   · subst h1
     exfalso
     rcases hlv id (List.mem_of_getElem? a1) with ⟨_,_,_,_,h⟩ | ⟨_,h⟩ <;> (rw [a2] at h;cases h)
   · exact .inr ⟨e,by rw [z6m a1,h1],h2.ren zOB zH4⟩
end
end Go.Proofs.Ytgfejpngfikjiaa.Tidy
