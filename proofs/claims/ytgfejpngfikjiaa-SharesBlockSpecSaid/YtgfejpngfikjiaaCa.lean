/-
 What the functions that the statements of this seat share compute.
-/
import Derived.Test.YtgfejpngfikjiaaMc
import Derived.Test.YtgfejpngfikjiaaMa
set_option linter.all false
namespace Go.Proofs.Ytgfejpngfikjiaa.Tidy
open Go
section
variable {E:Env}
theorem call_of_run {f:Nat} {args:List AVal} {r:CRes} {H':Heap} (hw:(E.hint f).whole=false) (ha:underL 0 args=true) (hr:runT E f args [] 0=some (r,H')) (ro:Nat) (H:Heap) (nx:Nat):
    callT E f args ro H nx=callBack (E.hint f) ro nx [] [] (r,H'):=by
 unfold callT
 rw [callF_small hw,lend_noRef H _ args 0 ha]
 simp only [refs_noRef.2 args ha,reach,getAll,List.all_nil,Bool.not_true,Bool.or_false,Bool.and_false,Bool.false_eq_true,if_false,List.map_nil,List.length_nil]
 rw [(ren_noRef (idx [])).2 args ha]
 have h0:(if (E.hint f).ro=true then (0:Nat) else 0)=0:=by split <;> rfl
 rw [h0,hr]
 rfl
theorem handBack_tuple (H:Heap) (k:Nat) (keep:List Nat) (n:Nat) (cs:List AVal):handBack H k keep (n+1) (.tuple cs)=(mapO (handBack H k keep n) cs).map .tuple:=rfl
theorem apart_ok {bf:Array Nat} {l:List Foot} {x:Option (Ex × St)} (h:apart bf l=true):(if apart bf l=true then x else none)=x:=if_pos h
theorem append_lit {t e n m sz nsz nx ro:Nat} {z x:AVal} {te:TI} {H:Heap} {es new:List AVal} (ht:E.ti t=some ⟨.slice e,n,m,z⟩) (he:E.ti e=some te) (hx:z16 H x=some (nsz,new)) (hz:0 < te.sz∧te.zero.cellsOf.length=te.sz∧te.zero.isTuple=false) (hn:nsz=te.sz) (hne:new ≠ [])
    (hs:es=[] ∨ sz=te.sz) (hb:(es.length+new.length) * (te.bytes+1)≤z04) (hf:z0r E 8 e=true→new.all noRef=true):
    z0H E ro nx t (.lit true sz es) x H=some (.ref nx 0 0 (es.length+new.length) false,[(nx,z1Q E e te.sz (es++new))]):=by
 have h1:new.isEmpty=false:=by cases new <;> simp_all
 have h2:(es.isEmpty || sz == te.sz)=true:=by rcases hs with rfl | rfl <;> simp
 have h3:(!z0r E 8 e || new.all noRef)=true:=by
  cases h:z0r E 8 e with
  | false=>rfl
  | true=>simp only [hf h];rfl
 simp only [z0H,ht,he,hx,hn,hz.1,hz.2.1,hz.2.2,h1,h3,hb,h2,beq_self_eq_true,Bool.or_true,Bool.true_and,decide_true,Bool.not_false,Bool.and_true,if_true]
theorem append_ref {t e n m nsz nx ro id g len:Nat} {z x:AVal} {te:TI} {H:Heap} {fl:Bool} {bs new:List AVal} (ht:E.ti t=some ⟨.slice e,n,m,z⟩) (he:E.ti e=some te) (hx:z16 H x=some (nsz,new)) (hz:0 < te.sz∧te.zero.cellsOf.length=te.sz∧te.zero.isTuple=false) (hn:nsz=te.sz) (hne:new ≠ [])
    (hH:H[id]?=some (.cells g te.sz fl bs)) (hl:bs.length=len) (h0:0 < len) (hro:ro≤id) (hb:(len+new.length) * (te.bytes+1)≤z04) (hf:fl=true→new.all noRef=true):
    z0H E ro nx t (.ref id g 0 len false) x H=some (.ref id (g+1) 0 (len+new.length) false,[(id,.cells (g+1) te.sz fl (bs++new))]):=by
 have h1:new.isEmpty=false:=by cases new <;> simp_all
 have h4:bs.isEmpty=false:=by cases bs <;> simp_all
 have h5:0 < new.length:=List.length_pos_iff.2 hne
 have h3:(fl && !new.all noRef)=false:=by
  cases h:fl with
  | false=>rfl
  | true=>simp only [hf h];rfl
 subst hl
 have h6:¬ (bs.length+new.length≤bs.length):=by omega
 simp only [z0H,ht,he,hx,hn,hz.1,hz.2.1,hz.2.2,h1,hH,hro,hb,beq_self_eq_true,Bool.or_true,Bool.true_or,Bool.true_and,decide_true,Bool.not_false,Bool.and_true,if_true,h4,h3,Bool.false_eq_true,List.drop_zero,Nat.zero_add,Nat.le_refl,h6,if_false]
end
attribute [go_sem] List.contains_cons
section
variable {E:Env}
end
section
variable {E:Env}
theorem idx_range':∀ (n k j:Nat),idx (List.range' k n) j=if k≤j∧j < k+n then some (j - k) else none
 | 0,k,j=>by
   rw [if_neg (by omega)];rfl
 | n+1,k,j=>by
   have ih:=idx_range' n (k+1) j
   unfold idx at ih ⊢
   rw [List.range'_succ,List.findIdx?_cons,ih]
   by_cases h:k=j
   · subst h;simp
   · have:(k == j)=false:=by simpa using h
     simp only [this,Bool.false_eq_true,if_false]
     by_cases h2:k+1≤j∧j < k+1+n
     · rw [if_pos h2,if_pos (by omega),Option.map_some]
       congr 1;omega
     · rw [if_neg h2,if_neg (by omega)];rfl
theorem getAll_range' (H':Heap):∀ (n k:Nat),k+n=H'.length→getAll H' (List.range' k n)=some (H'.drop k)
 | 0,k,h=>by
   simp only [List.range'_zero,getAll]
   rw [List.drop_eq_nil_of_le (by omega)]
 | n+1,k,h=>by
   rw [List.range'_succ]
   simp only [getAll]
   rw [getAll_range' H' n (k+1) (by omega),List.getElem?_eq_getElem (show k < H'.length by omega)]
   simp only
   rw [← List.drop_eq_getElem_cons]
end
def sumN:Nat→(Nat→Int)→Int
 | 0,_=>0
 | n+1,f=>sumN n f+f n
theorem z02 {f g:Nat→Int}:∀ {n:Nat},(∀ i,i < n→f i=g i)→sumN n f=sumN n g
 | 0,_=>rfl
 | n+1,h=>by simp only [sumN];rw [z02 fun i hi=>h i (by omega),h n (by omega)]
theorem z4D (f g:Nat→Int):∀ n,sumN n (fun i=>f i+g i)=sumN n f+sumN n g
 | 0=>rfl
 | n+1=>by simp only [sumN,z4D f g n];omega
theorem z1x (f g:Nat→Int):∀ n,sumN n (fun i=>f i - g i)=sumN n f - sumN n g
 | 0=>rfl
 | n+1=>by simp only [sumN,z1x f g n];omega
theorem z7s (f:Nat→Int):∀ n,sumN n (fun i=>- f i)=- sumN n f
 | 0=>rfl
 | n+1=>by simp only [sumN,z7s f n];omega
theorem z5l (f:Nat→Int) (c:Int):∀ n,sumN n (fun i=>f i * c)=sumN n f * c
 | 0=>by simp [sumN]
 | n+1=>by simp only [sumN,z5l f c n,Int.add_mul]
theorem z0q:∀ {n:Nat} {f:Nat→Int},(∀ i,i < n→f i=0)→sumN n f=0
 | 0,_,_=>rfl
 | n+1,f,h=>by simp only [sumN];rw [z0q fun i hi=>h i (by omega),h n (by omega)];rfl
theorem zAZ {f g:Nat→Int}:∀ {n:Nat},(∀ i,i < n→f i≤g i)→sumN n f≤sumN n g
 | 0,_=>Int.le_refl _
 | n+1,h=>by
   have h1:=zAZ (f:=f) (g:=g) (n:=n) fun i hi=>h i (by omega)
   have h2:=h n (by omega)
   simp only [sumN];omega
theorem zFr {f:Nat→Int} {n:Nat} (h:∀ i,i < n→0≤f i):0≤sumN n f:=by
 have:=zAZ (f:=fun _=>0) (g:=f) (n:=n) h
 rwa [z0q (f:=fun _=>0) (fun _ _=>rfl)] at this
theorem z6F (f:Nat→Int) (n:Nat):∀ m,sumN (n+m) f=sumN n f+sumN m (fun i=>f (n+i))
 | 0=>by simp [sumN]
 | m+1=>by rw [← Nat.add_assoc];simp only [sumN,z6F f n m];omega
theorem zEZ (f:Nat→Int) (m:Nat):∀ n,sumN (n * m) f=sumN n fun i=>sumN m fun k=>f (i * m+k)
 | 0=>by simp [sumN]
 | n+1=>by
   rw [Nat.succ_mul,z6F,zEZ f m n]
   rfl
theorem z7t (f:Nat→Nat→Int) (m:Nat):∀ n,sumN n (fun i=>sumN m (f i))=sumN m fun k=>sumN n fun i=>f i k
 | 0=>by simp only [sumN];exact (z0q fun _ _=>rfl).symm
 | n+1=>by
   simp only [sumN]
   rw [z7t f m n,← z4D]
theorem z31 {n j:Nat} (hj:j < n) (c:Int):sumN n (fun i=>if i=j then c else 0)=c:=by
 induction n with
 | zero=>omega
 | succ n ih=>
   simp only [sumN]
   by_cases h:j=n
   · subst h
     rw [z0q fun i hi=>if_neg (by omega)]
     simp
   · rw [ih (by omega),if_neg (fun e=>h e.symm)];omega
def updF (f:Nat→Int) (j:Nat) (v:Int):Nat→Int:=fun i=>if i=j then v else f i
theorem z9B {n j:Nat} (hj:j < n) (f:Nat→Int) (v:Int):sumN n (updF f j v)=sumN n f+(v - f j):=by
 have:sumN n (updF f j v)=sumN n (fun i=>f i+(if i=j then v - f j else 0)):=z02 fun i _=>by
  unfold updF
  by_cases h:i=j
  · rw [if_pos h,if_pos h,h];omega
  · rw [if_neg h,if_neg h];omega
 rw [this,z4D,z31 hj]
structure Net where
 n:Nat
 N:Nat
 fr:Nat→Nat
 to:Nat→Nat
 lo:Nat→Int
 hi:Nat→Int
structure Net.Ok (G:Net):Prop where
 fr:∀ j,j < G.n→G.fr j < G.N
 to:∀ j,j < G.n→G.to j < G.N
def Net.In (G:Net) (f:Nat→Int):Prop:=∀ j,j < G.n→G.lo j≤f j∧f j≤G.hi j
def Net.div (G:Net) (f P:Nat→Int):Int:=sumN G.n fun j=>f j * (P (G.to j) - P (G.fr j))
def Net.Circ (G:Net) (f:Nat→Int):Prop:=∀ P,G.div f P=0
def Net.Can (G:Net):Prop:=∃ f,G.In f∧G.Circ f
def Net.over (G:Net) (S:Nat→Bool):Int:=sumN G.n fun j=>if !S (G.fr j) && S (G.to j) then G.lo j else if S (G.fr j) && !S (G.to j) then - G.hi j else 0
def ind (S:Nat→Bool) (v:Nat):Int:=if S v then 1 else 0
theorem Net.over_le {G:Net} {f:Nat→Int} (h:G.In f) (S:Nat→Bool):G.over S≤G.div f (ind S):=by
 refine zAZ fun j hj=>?_
 obtain ⟨h1,h2⟩:=h j hj
 unfold ind
 cases S (G.fr j) <;> cases S (G.to j) <;> simp <;> omega
theorem Net.over_none {G:Net} (h:G.Can) (S:Nat→Bool):G.over S≤0:=by
 obtain ⟨f,h1,h2⟩:=h
 have:=over_le h1 S
 rw [h2] at this
 exact this
theorem Net.over_eq {G:Net} {f:Nat→Int} (h:G.In f) {S:Nat→Bool} (hS:∀ j,j < G.n→(f j < G.hi j→S (G.fr j)=true→S (G.to j)=true)∧(G.lo j < f j→S (G.to j)=true→S (G.fr j)=true)):G.over S=G.div f (ind S):=by
 refine z02 fun j hj=>?_
 obtain ⟨h1,h2⟩:=h j hj
 obtain ⟨h3,h4⟩:=hS j hj
 unfold ind
 cases h5:S (G.fr j) <;> cases h6:S (G.to j) <;> simp [h5,h6] at h3 h4 ⊢ <;> omega
theorem Net.greatest {G:Net} {f f' g P:Nat→Int} (h:G.Circ f) (h1:G.In f') (h2:G.Circ f')
    (hP:∀ j,j < G.n→(f j < G.hi j→P (G.fr j)+g j≤P (G.to j))∧(G.lo j < f j→P (G.to j) - g j≤P (G.fr j))):
    sumN G.n (fun j=>g j * f' j)≤sumN G.n fun j=>g j * f j:=by
 have e1:G.div f' P - G.div f P=0:=by rw [h P,h2 P];rfl
 unfold Net.div at e1
 rw [← z1x] at e1
 have e2:sumN G.n (fun j=>g j * f' j) - sumN G.n (fun j=>g j * f j)≤0:=by
  rw [← z1x,← e1]
  refine zAZ fun j hj=>?_
  obtain ⟨a,b⟩:=hP j hj
  obtain ⟨c,d⟩:=h1 j hj
  have e:f' j * (P (G.to j) - P (G.fr j)) - f j * (P (G.to j) - P (G.fr j)) - (g j * f' j - g j * f j)=(f' j - f j) * (P (G.to j) - P (G.fr j) - g j):=by
   simp only [Int.sub_mul,Int.mul_sub,Int.mul_comm];omega
  have:0≤(f' j - f j) * (P (G.to j) - P (G.fr j) - g j):=by
   rcases Int.lt_trichotomy (f j) (f' j) with h3 | h3 | h3
   · have:=a (by omega)
     exact Int.mul_nonneg (by omega) (by omega)
   · rw [h3];simp
   · have:=b (by omega)
     exact Int.mul_nonneg_of_nonpos_of_nonpos (by omega) (by omega)
  omega
 omega
structure Res where
 arc:Nat
 back:Bool
 to:Nat
 room:Int
 gain:Int
 start:Nat
 deriving DecidableEq,Inhabited
def Net.fwd (G:Net) (f g:Nat→Int) (j:Nat):Res:=⟨j,false,G.to j,G.hi j - f j,g j,G.fr j⟩
def Net.bwd (G:Net) (f g:Nat→Int) (j:Nat):Res:=⟨j,true,G.fr j,f j - G.lo j,- g j,G.to j⟩
def Net.ways (G:Net) (f g:Nat→Int) (n:Nat):List Res:=(List.range n).flatMap fun j=>
 (if f j < G.hi j then [G.fwd f g j] else [])++(if G.lo j < f j then [G.bwd f g j] else [])
theorem Net.mem_ways {G:Net} {f g:Nat→Int} {n:Nat} {w:Res}:w ∈ G.ways f g n ↔ ∃ j,j < n∧((f j < G.hi j∧w=G.fwd f g j) ∨ (G.lo j < f j∧w=G.bwd f g j)):=by
 unfold Net.ways
 simp only [List.mem_flatMap,List.mem_range,List.mem_append]
 constructor
 · rintro ⟨j,hj,h | h⟩
   · split at h
     · exact ⟨j,hj,.inl ⟨by assumption,by simpa using h⟩⟩
     · cases h
   · split at h
     · exact ⟨j,hj,.inr ⟨by assumption,by simpa using h⟩⟩
     · cases h
 · rintro ⟨j,hj,⟨h1,rfl⟩ | ⟨h1,rfl⟩⟩
   · exact ⟨j,hj,.inl (by simp [h1])⟩
   · exact ⟨j,hj,.inr (by simp [h1])⟩
def push (f:Nat→Int) (by':Int):List Res→Nat→Int
 | []=>f
 | w :: l=>push (updF f w.arc (if w.back then f w.arc - by' else f w.arc+by')) by' l
theorem Net.div_upd {G:Net} {j:Nat} (hj:j < G.n) (f P:Nat→Int) (v:Int):G.div (updF f j v) P=G.div f P+(v - f j) * (P (G.to j) - P (G.fr j)):=by
 unfold Net.div
 have:sumN G.n (fun i=>updF f j v i * (P (G.to i) - P (G.fr i)))=sumN G.n (updF (fun i=>f i * (P (G.to i) - P (G.fr i))) j (v * (P (G.to j) - P (G.fr j)))):=z02 fun i _=>by
  unfold updF
  by_cases h:i=j
  · rw [if_pos h,if_pos h,h]
  · rw [if_neg h,if_neg h]
 rw [this,z9B hj,Int.sub_mul]
def Net.Own (G:Net) (w:Res):Prop:=w.arc < G.n∧((w.back=false∧w.to=G.to w.arc∧w.start=G.fr w.arc) ∨ (w.back=true∧w.to=G.fr w.arc∧w.start=G.to w.arc))
theorem Net.own_ways {G:Net} {f g:Nat→Int} {w:Res} (h:w ∈ G.ways f g G.n):G.Own w:=by
 obtain ⟨j,hj,⟨_,rfl⟩ | ⟨_,rfl⟩⟩:=mem_ways.1 h
 · exact ⟨hj,.inl ⟨rfl,rfl,rfl⟩⟩
 · exact ⟨hj,.inr ⟨rfl,rfl,rfl⟩⟩
theorem zAB {d:Int} {g:Nat→Int}:∀ {n:Nat} (l:List Res) (f:Nat→Int),(∀ w ∈ l,w.arc < n∧w.gain=if w.back then - g w.arc else g w.arc)→sumN n (fun j=>g j * push f d l j)=sumN n (fun j=>g j * f j)+d * (l.map (·.gain)).foldr (·+·) 0
 | n,[],f,_=>by simp [push]
 | n,w :: l,f,h=>by
   obtain ⟨h1,h2⟩:=h w (by simp)
   simp only [push,List.map_cons,List.foldr_cons]
   rw [zAB l _ fun x hx=>h x (by simp [hx])]
   have:sumN n (fun j=>g j * updF f w.arc (if w.back then f w.arc - d else f w.arc+d) j)=sumN n (updF (fun j=>g j * f j) w.arc (g w.arc * (if w.back then f w.arc - d else f w.arc+d))):=z02 fun i _=>by
    unfold updF
    by_cases e:i=w.arc
    · rw [if_pos e,if_pos e,e]
    · rw [if_neg e,if_neg e]
   rw [this,z9B h1,h2]
   cases w.back
   · simp only [Bool.false_eq_true,if_false,Int.mul_add]
     rw [Int.mul_comm d (g w.arc)];omega
   · simp only [if_true,Int.mul_add,Int.mul_sub,Int.mul_neg]
     rw [Int.mul_comm d (g w.arc)];omega
def RChain:Nat→List Res→Nat→Prop
 | b,[],a=>b=a
 | b,w :: l,a=>w.to=b∧RChain w.start l a
theorem Net.push_rdiv {G:Net} (P:Nat→Int) (d:Int):∀ (l:List Res) (f:Nat→Int) (a b:Nat),(∀ w ∈ l,G.Own w)→RChain b l a→G.div (push f d l) P=G.div f P+d * (P b - P a)
 | [],f,a,b,_,h=>by
   simp only [RChain] at h
   subst h
   simp [push]
 | w :: l,f,a,b,hw,h=>by
   simp only [RChain] at h
   obtain ⟨rfl,h⟩:=h
   obtain ⟨h1,h2⟩:=hw w (by simp)
   simp only [push]
   rw [push_rdiv P d l _ a w.start (fun x hx=>hw x (by simp [hx])) h,div_upd h1]
   rcases h2 with ⟨e1,e2,e3⟩ | ⟨e1,e2,e3⟩
   · rw [e1,e2,e3]
     simp only [Bool.false_eq_true,if_false,Int.mul_sub,Int.sub_mul,Int.add_mul];omega
   · rw [e1,e2,e3]
     simp only [if_true,Int.mul_sub,Int.sub_mul];omega
def cntW (j:Nat) (b:Bool):List Res→Int
 | []=>0
 | w :: l=>(if w.arc=j∧w.back=b then 1 else 0)+cntW j b l
theorem zGz (d:Int) (j:Nat):∀ (l:List Res) (f:Nat→Int),push f d l j=f j+d * cntW j false l - d * cntW j true l
 | [],f=>by simp [push,cntW]
 | w :: l,f=>by
   simp only [push,cntW]
   rw [zGz d j l]
   unfold updF
   by_cases e:j=w.arc
   · subst e
     rw [if_pos rfl]
     cases w.back <;> simp [Int.mul_add] <;> omega
   · rw [if_neg e]
     have:¬ w.arc=j:=fun h=>e h.symm
     simp [this]
theorem zGP {j:Nat} {b:Bool}:∀ {l:List Res},(∀ w ∈ l,¬ (w.arc=j∧w.back=b))→cntW j b l=0
 | [],_=>rfl
 | w :: l,h=>by
   simp only [cntW]
   rw [if_neg (h w (by simp)),zGP fun x hx=>h x (by simp [hx])];rfl
theorem z9X {G:Net} {j:Nat} {b:Bool}:∀ {l:List Res},(∀ w ∈ l,G.Own w)→(l.map (·.start)).Nodup→cntW j b l=0 ∨ (cntW j b l=1∧∃ w ∈ l,w.arc=j∧w.back=b)
 | [],_,_=>.inl rfl
 | w :: l,hw,hn=>by
   simp only [List.map_cons,List.nodup_cons] at hn
   simp only [cntW]
   by_cases h:w.arc=j∧w.back=b
   · rw [if_pos h,zGP]
     · exact .inr ⟨rfl,w,by simp,h⟩
     · rintro x hx ⟨e1,e2⟩
       refine hn.1 (List.mem_map.2 ⟨x,hx,?_⟩)
       have a1:=(hw w (by simp)).2
       have a2:=(hw x (by simp [hx])).2
       rw [h.2,h.1] at a1
       rw [e1,e2] at a2
       cases b
       · rcases a1 with ⟨_,_,a1⟩ | ⟨a1,_⟩
         · rcases a2 with ⟨_,_,a2⟩ | ⟨a2,_⟩
           · rw [a1,a2]
           · cases a2
         · cases a1
       · rcases a1 with ⟨a1,_⟩ | ⟨_,_,a1⟩
         · cases a1
         · rcases a2 with ⟨a2,_⟩ | ⟨_,_,a2⟩
           · cases a2
           · rw [a1,a2]
   · rw [if_neg h]
     rcases z9X (j:=j) (b:=b) (fun x hx=>hw x (List.mem_cons_of_mem _ hx)) hn.2 with h0 | ⟨h0,x,hx,h1⟩
     · exact .inl (by omega)
     · exact .inr ⟨by omega,x,by simp [hx],h1⟩
theorem Net.push_within {G:Net} {f g:Nat→Int} {d:Int} (hf:G.In f) (hd:0≤d) {l:List Res} (hw:∀ w ∈ l,w ∈ G.ways f g G.n) (hr:∀ w ∈ l,d≤w.room) (hn:(l.map (·.start)).Nodup):G.In (push f d l):=by
 intro j hj
 have h0:=hf j hj
 rw [zGz]
 have ho:∀ w ∈ l,G.Own w:=fun w h=>own_ways (hw w h)
 have h1:d * cntW j false l=0 ∨ (d * cntW j false l=d∧d≤G.hi j - f j):=by
  rcases z9X (j:=j) (b:=false) ho hn with h | ⟨h,w,hwl,e1,e2⟩
  · exact .inl (by rw [h];omega)
  · refine .inr ⟨by rw [h];omega,?_⟩
    have h3:=hr w hwl
    obtain ⟨i,hi,⟨h4,e4⟩ | ⟨h4,e4⟩⟩:=mem_ways.1 (hw w hwl)
    · subst e4
      simp only [Net.fwd] at h3 e1
      subst e1;exact h3
    · subst e4
      simp [Net.bwd] at e2
 have h2:d * cntW j true l=0 ∨ (d * cntW j true l=d∧d≤f j - G.lo j):=by
  rcases z9X (j:=j) (b:=true) ho hn with h | ⟨h,w,hwl,e1,e2⟩
  · exact .inl (by rw [h];omega)
  · refine .inr ⟨by rw [h];omega,?_⟩
    have h3:=hr w hwl
    obtain ⟨i,hi,⟨h4,e4⟩ | ⟨h4,e4⟩⟩:=mem_ways.1 (hw w hwl)
    · subst e4
      simp [Net.fwd] at e2
    · subst e4
      simp only [Net.bwd] at h3 e1
      subst e1;exact h3
 omega
structure Bf where
 met:List Bool
 last:List Res
 q:List Nat
def z1e (a:Nat) (s:Bf) (w:Res):Bf:=if w.start=a∧s.met.getD w.to false=false then ⟨s.met.set w.to true,s.last.set w.to w,s.q++[w.to]⟩ else s
def bfs (ws:List Res):Nat→Bf→Option Bf
 | 0,_=>none
 | n+1,s=>match s.q with
   | []=>some s
   | a :: q=>bfs ws n (ws.foldl (z1e a) { s with q:=q })
structure BfI (ws:List Res) (N from':Nat) (Q:List Nat) (s:Bf):Prop where
 lm:s.met.length=N
 ll:s.last.length=N
 lt:∀ v ∈ Q,v < N
 nodup:Q.Nodup
 met:∀ v,s.met.getD v false=true ↔ v ∈ Q
 tree:∀ A v B,Q=A++v :: B→v=from' ∨ ((s.last.getD v default) ∈ ws∧(s.last.getD v default).to=v∧(s.last.getD v default).start ∈ A)
 from_:from' ∈ Q
theorem z17 {α:Type} {l:List α} {i:Nat} {x d:α} (h:i < l.length):(l.set i x).getD i d=x:=by
 rw [List.getD_eq_getElem?_getD,List.getElem?_set_self h];rfl
theorem getD_set_ne {α:Type} {l:List α} {i j:Nat} {x d:α} (h:i ≠ j):(l.set i x).getD j d=l.getD j d:=by
 rw [List.getD_eq_getElem?_getD,List.getElem?_set_ne h,List.getD_eq_getElem?_getD]
theorem BfI.step {ws:List Res} {N from':Nat} {Q:List Nat} {s:Bf} (h:BfI ws N from' Q s) {a:Nat} (ha:a ∈ Q) {w:Res} (hw:w ∈ ws) (hto:w.to < N) {D:List Nat} (hq:Q=D++s.q):
    ∃ Q',BfI ws N from' Q' (z1e a s w)∧Q'=D++(z1e a s w).q∧(∃ E,Q'=Q++E)∧(w.start=a→w.to ∈ Q'):=by
 unfold z1e
 by_cases hc:w.start=a∧s.met.getD w.to false=false
 · rw [if_pos hc]
   have hnm:w.to ∉ Q:=fun hm=>by
    have:=(h.met w.to).2 hm
    rw [hc.2] at this;cases this
   refine ⟨Q++[w.to],⟨by simp [h.lm],by simp [h.ll],?_,?_,?_,?_,by simp [h.from_]⟩,by simp [hq],⟨_,rfl⟩,fun _=>by simp⟩
   · intro v hv
     rcases List.mem_append.1 hv with hv | hv
     · exact h.lt v hv
     · simp at hv;subst hv;exact hto
   · rw [List.nodup_append]
     refine ⟨h.nodup,by simp,fun x hx y hy e=>?_⟩
     simp at hy;subst hy;subst e;exact hnm hx
   · intro v
     by_cases e:w.to=v
     · subst e
       rw [z17 (by rw [h.lm];exact hto)];simp
     · rw [getD_set_ne e,h.met v]
       simp [Ne.symm e]
   · intro A v B he
     rcases List.eq_nil_or_concat B with rfl | ⟨B',b,rfl⟩
     · have:=List.append_inj' he rfl
       obtain ⟨e1,e2⟩:=this
       simp at e2;subst e2;subst e1
       rw [z17 (by rw [h.ll];exact hto)]
       exact .inr ⟨hw,rfl,hc.1 ▸ ha⟩
     · have he':Q++[w.to]=(A++v :: B')++[b]:=by rw [he];simp
       obtain ⟨e1,e2⟩:=List.append_inj' he' rfl
       have hv:w.to ≠ v:=fun e=>hnm (by rw [e1,e];simp)
       rw [getD_set_ne hv]
       exact h.tree A v B' e1
 · rw [if_neg hc]
   refine ⟨Q,h,hq,⟨[],by simp⟩,fun hs=>?_⟩
   have:s.met.getD w.to false=true:=by
    cases hm:s.met.getD w.to false
    · exact absurd ⟨hs,hm⟩ hc
    · rfl
   exact (h.met _).1 this
theorem BfI.fold {ws:List Res} {N from':Nat} {a:Nat} {D:List Nat} (hto:∀ w ∈ ws,w.to < N):∀ (us:List Res) (Q:List Nat) (s:Bf),(∀ w ∈ us,w ∈ ws)→BfI ws N from' Q s→a ∈ Q→Q=D++s.q →
    ∃ Q',BfI ws N from' Q' (us.foldl (z1e a) s)∧Q'=D++(us.foldl (z1e a) s).q∧(∃ E,Q'=Q++E)∧∀ w ∈ us,w.start=a→w.to ∈ Q'
 | [],Q,s,_,h,_,hq=>⟨Q,h,hq,⟨[],by simp⟩,by simp⟩
 | w :: us,Q,s,hu,h,ha,hq=>by
   obtain ⟨Q1,h1,h2,⟨E1,h3⟩,h4⟩:=h.step ha (hu w (by simp)) (hto w (hu w (by simp))) hq
   obtain ⟨Q2,k1,k2,⟨E2,k3⟩,k4⟩:=BfI.fold hto us Q1 _ (fun x hx=>hu x (by simp [hx])) h1 (h3 ▸ List.mem_append.2 (.inl ha)) h2
   refine ⟨Q2,k1,k2,⟨E1++E2,by rw [k3,h3];simp⟩,fun x hx hs=>?_⟩
   rcases List.mem_cons.1 hx with rfl | hx
   · rw [k3]
     have:=h4 hs
     simp [this]
   · exact k4 x hx hs
theorem z7X {N:Nat} {Q:List Nat} (h:Q.Nodup) (hl:∀ v ∈ Q,v < N):Q.length≤N:=by
 induction N generalizing Q with
 | zero=>
   cases Q with
   | nil=>simp
   | cons x Q=>exact absurd (hl x (by simp)) (by omega)
 | succ N ih=>
   have h1:=ih (Q:=Q.erase N) (h.sublist List.erase_sublist) fun v hv=>by
    have h2:=hl v (List.mem_of_mem_erase hv)
    have h3:v ≠ N:=by rintro rfl;exact (h.mem_erase_iff.1 hv).1 rfl
    omega
   have h2:Q.length≤(Q.erase N).length+1:=by
    rw [List.length_erase];split <;> omega
   omega
structure BfEnd (ws:List Res) (N from':Nat) (Q:List Nat) (s:Bf):Prop extends BfI ws N from' Q s where
 closed:∀ w ∈ ws,w.start ∈ Q→w.to ∈ Q
theorem zJ6 {ws:List Res} {N from':Nat} (hto:∀ w ∈ ws,w.to < N):∀ (n:Nat) (D:List Nat) (s:Bf),BfI ws N from' (D++s.q) s→(∀ w ∈ ws,w.start ∈ D→w.to ∈ D++s.q)→N < n+D.length→∃ Q s',bfs ws n s=some s'∧BfEnd ws N from' Q s'
 | 0,D,s,h,_,hn=>by
   have:=z7X h.nodup h.lt
   simp at this;omega
 | n+1,D,s,h,hc,hn=>by
   cases hq:s.q with
   | nil=>
     rw [hq,List.append_nil] at h hc
     exact ⟨D,s,by unfold bfs;rw [hq],h,hc⟩
   | cons a q=>
     have h':BfI ws N from' (D++s.q) { s with q:=q }:=⟨h.lm,h.ll,h.lt,h.nodup,h.met,h.tree,h.from_⟩
     obtain ⟨Q',k1,k2,⟨E,k3⟩,k4⟩:=BfI.fold (a:=a) (D:=D++[a]) hto ws _ _ (fun _ h=>h) h' (by rw [hq];simp) (by rw [hq];simp)
     obtain ⟨Q,s',h1,h2⟩:=zJ6 hto n (D++[a]) (ws.foldl (z1e a) { s with q:=q }) (k2 ▸ k1) (fun w hw hs=>by
      rw [← k2]
      rcases List.mem_append.1 hs with hs | hs
      · rw [k3]
        exact List.mem_append.2 (.inl (hc w hw hs))
      · simp at hs
        exact k4 w hw hs) (by simp;omega)
     exact ⟨Q,s',by unfold bfs;rw [hq];exact h1,h2⟩
def bf0 (N from':Nat):Bf:=⟨(List.replicate N false).set from' true,List.replicate N default,[from']⟩
theorem bf0_ok {ws:List Res} {N from':Nat} (hf:from' < N):BfI ws N from' ([]++(bf0 N from').q) (bf0 N from'):=by
 refine ⟨by simp [bf0],by simp [bf0],by simp [bf0,hf],by simp [bf0],fun v=>?_,fun A v B h=>?_,by simp [bf0]⟩
 · simp only [bf0,List.nil_append,List.mem_singleton]
   by_cases e:from'=v
   · subst e
     rw [z17 (by simpa using hf)];simp
   · rw [getD_set_ne e]
     simp only [List.getD_eq_getElem?_getD,List.getElem?_replicate]
     constructor
     · intro h;split at h <;> simp at h
     · intro h;exact absurd h.symm e
 · left
   simp only [bf0,List.nil_append] at h
   cases A with
   | nil=>simp at h;exact h.1.symm
   | cons x A=>
     simp at h
theorem zNp {ws:List Res} {N from':Nat} (hto:∀ w ∈ ws,w.to < N) (hf:from' < N):∃ Q s,bfs ws (N+1) (bf0 N from')=some s∧BfEnd ws N from' Q s:=
 zJ6 hto (N+1) [] _ (bf0_ok hf) (by simp) (by simp)
def z3B (last:List Res) (from':Nat):Nat→Nat→List Res→Option (List Res)
 | 0,_,_=>none
 | n+1,a,out=>if a=from' then some out else z3B last from' n (last.getD a default).start (out++[last.getD a default])
theorem zC1 {ws:List Res} {N from':Nat} {Q:List Nat} {s:Bf} (h:BfEnd ws N from' Q s):∀ (n:Nat) (A:List Nat) (v:Nat) (B:List Nat) (out:List Res),Q=A++v :: B→A.length < n →
    ∃ l,z3B s.last from' n v out=some (out++l)∧RChain v l from'∧(∀ w ∈ l,w ∈ ws)∧(∀ w ∈ l,w.start ∈ A)∧(l.map (·.start)).Nodup
 | 0,A,v,B,out,_,hn=>by omega
 | n+1,A,v,B,out,he,hn=>by
   unfold z3B
   by_cases e:v=from'
   · rw [if_pos e]
     exact ⟨[],by simp,e,by simp,by simp,by simp⟩
   · rw [if_neg e]
     rcases h.tree A v B he with h1 | ⟨h1,h2,h3⟩
     · exact absurd h1 e
     · obtain ⟨A1,A2,rfl⟩:=List.append_of_mem h3
       obtain ⟨l,k1,k2,k3,k4,k5⟩:=zC1 h n A1 (s.last.getD v default).start (A2++v :: B) (out++[s.last.getD v default]) (by rw [he];simp) (by simp at hn;omega)
       refine ⟨s.last.getD v default :: l,by rw [k1];simp,⟨h2,k2⟩,?_,?_,?_⟩
       · intro w hw
         rcases List.mem_cons.1 hw with rfl | hw
         · exact h1
         · exact k3 w hw
       · intro w hw
         rcases List.mem_cons.1 hw with rfl | hw
         · simp
         · have:=k4 w hw
           simp [this]
       · simp only [List.map_cons,List.nodup_cons]
         refine ⟨fun hm=>?_,k5⟩
         obtain ⟨x,hx,hxe⟩:=List.mem_map.1 hm
         have hA:=k4 x hx
         rw [hxe] at hA
         have hnd:=h.nodup
         rw [he] at hnd
         simp only [List.append_assoc,List.cons_append] at hnd
         rw [List.nodup_append] at hnd
         exact hnd.2.2 _ hA _ (by simp) rfl
theorem zCU (s:List Int) {i:Nat} (hi:i < s.length) (x:Int) (v:Nat):(s.set i x).getD v 0=updF (fun v=>s.getD v 0) i x v:=by
 unfold updF
 by_cases h:v=i
 · subst h
   rw [z17 hi,if_pos rfl]
 · rw [getD_set_ne (fun e=>h e.symm),if_neg h]
theorem z8C (s:List Int) {i:Nat} (hi:i < s.length) (x:Int) (v:Nat):(s.set i x).getD v 0=if v=i then x else s.getD v 0:=zCU s hi x v
def vsum (s:List Int) (P:Nat→Int):Int:=sumN s.length fun v=>s.getD v 0 * P v
theorem z9D (s:List Int) {i:Nat} (hi:i < s.length) (x:Int) (P:Nat→Int):vsum (s.set i x) P=vsum s P+(x - s.getD i 0) * P i:=by
 unfold vsum
 rw [List.length_set]
 have:sumN s.length (fun v=>(s.set i x).getD v 0 * P v)=sumN s.length (updF (fun v=>s.getD v 0 * P v) i (x * P i)):=z02 fun v _=>by
  rw [zCU s hi]
  unfold updF
  by_cases h:v=i
  · rw [if_pos h,if_pos h,h]
  · rw [if_neg h,if_neg h]
 rw [this,z9B hi,Int.sub_mul]
def z8V (G:Net) (f:Nat→Int) (s:List Int) (j:Nat):List Int:=
 let s1:=s.set (G.to j) (s.getD (G.to j) 0+f j)
 s1.set (G.fr j) (s1.getD (G.fr j) 0 - f j)
def z0m (G:Net) (f:Nat→Int) (n:Nat):List Int:=(List.range n).foldl (z8V G f) (List.replicate G.N 0)
theorem z8s (G:Net) (f:Nat→Int) (n:Nat):z0m G f (n+1)=z8V G f (z0m G f n) n:=by
 unfold z0m
 rw [List.range_succ,List.foldl_append];rfl
theorem z6G {G:Net} (hG:G.Ok) (f:Nat→Int) (B:Int) (hB:0≤B) (hf:∀ j,j < G.n→-B≤f j∧f j≤B):∀ n,n≤G.n→(z0m G f n).length=G.N∧(∀ P,vsum (z0m G f n) P=sumN n fun j=>f j * (P (G.to j) - P (G.fr j)))∧∀ v,-(2 * n * B)≤(z0m G f n).getD v 0∧(z0m G f n).getD v 0≤2 * n * B
 | 0,_=>by
   refine ⟨by simp [z0m],fun P=>?_,fun v=>?_⟩
   · simp only [z0m,List.range_zero,List.foldl_nil,vsum,sumN]
     exact z0q fun i _=>by
      rw [List.getD_eq_getElem?_getD,List.getElem?_replicate];split <;> simp
   · have:(z0m G f 0).getD v 0=0:=by
       simp only [z0m,List.range_zero,List.foldl_nil]
       rw [List.getD_eq_getElem?_getD,List.getElem?_replicate];split <;> simp
     rw [this];simp
 | n+1,hn=>by
   obtain ⟨h1,h2,h3⟩:=z6G hG f B hB hf n (by omega)
   have ht:=hG.to n (by omega)
   have hr:=hG.fr n (by omega)
   have hfn:=hf n (by omega)
   rw [z8s]
   have hl1:(z8V G f (z0m G f n) n).length=G.N:=by simp [z8V,h1]
   refine ⟨hl1,fun P=>?_,fun v=>?_⟩
   · unfold z8V
     rw [z9D _ (by simp [h1];exact hr),z9D _ (by rw [h1];exact ht),h2]
     simp only [sumN,Int.mul_sub,Int.sub_mul,Int.add_mul];omega
   · have e:2 * ((n+1:Nat):Int) * B=2 * (n:Int) * B+2 * B:=by
       rw [show ((n+1:Nat):Int)=(n:Int)+1 by omega]
       simp only [Int.mul_add,Int.add_mul];omega
     rw [e]
     unfold z8V
     rw [z8C _ (by simp [h1];exact hr)]
     have hx:=fun v=>h3 v
     by_cases e1:v=G.fr n
     · rw [if_pos e1,z8C _ (by rw [h1];exact ht)]
       by_cases e2:G.fr n=G.to n
       · rw [if_pos e2]
         have:=hx (G.to n)
         omega
       · rw [if_neg e2]
         have:=hx (G.fr n)
         omega
     · rw [if_neg e1,z8C _ (by rw [h1];exact ht)]
       by_cases e2:v=G.to n
       · rw [if_pos e2]
         have:=hx (G.to n)
         omega
       · rw [if_neg e2]
         have:=hx v
         omega
def z6k (p:Nat→Int→Bool):Nat→List Int→Int→Int
 | _,[],a=>a
 | i,x :: l,a=>z6k p (i+1) l (if p i x then i else a)
theorem z3s (p:Nat→Int→Bool):∀ (l:List Int) (i:Nat) (a:Int),(z6k p i l a=a∧∀ j,j < l.length→p (i+j) (l.getD j 0)=false) ∨ ∃ j,j < l.length∧z6k p i l a=((i+j:Nat):Int)∧p (i+j) (l.getD j 0)=true
 | [],i,a=>.inl ⟨rfl,by simp⟩
 | x :: l,i,a=>by
   simp only [z6k]
   rcases z3s p l (i+1) (if p i x then i else a) with ⟨h1,h2⟩ | ⟨j,h1,h2,h3⟩
   · cases h:p i x with
     | true=>
       right
       refine ⟨0,by simp,?_,by simpa using h⟩
       rw [h] at h1
       simpa using h1
     | false=>
       left
       rw [h] at h1
       refine ⟨by simpa using h1,fun j hj=>?_⟩
       cases j with
       | zero=>simpa using h
       | succ j=>
         have:=h2 j (by simpa using hj)
         rw [show i+1+j=i+(j+1) by omega] at this
         simpa using this
   · right
     refine ⟨j+1,by simpa using h1,?_,?_⟩
     · rw [h2];congr 1;omega
     · rw [show i+1+j=i+(j+1) by omega] at h3
       simpa using h3
def z26 (l:List Res):Int:=l.foldl (fun b w=>min b w.room) (2 ^ 40)
theorem z3o:∀ (l:List Res) (b:Int),l.foldl (fun b w=>min b w.room) b≤b∧(∀ w ∈ l,l.foldl (fun b w=>min b w.room) b≤w.room)∧(0 < b→(∀ w ∈ l,0 < w.room)→0 < l.foldl (fun b w=>min b w.room) b)
 | [],b=>⟨Int.le_refl _,by simp,fun h _=>h⟩
 | w :: l,b=>by
   simp only [List.foldl_cons]
   obtain ⟨h1,h2,h3⟩:=z3o l (min b w.room)
   refine ⟨by omega,fun x hx=>?_,fun hb hp=>h3 ?_ fun x hx=>hp x (by simp [hx])⟩
   · rcases List.mem_cons.1 hx with rfl | hx
     · omega
     · exact h2 x hx
   · have:=hp w (by simp)
     omega
inductive Brought where
 | ok (f:Nat→Int)
 | cut (met:List Bool)
def z2e:Nat→Int:=fun _=>0
def bring (G:Net):Nat→(Nat→Int)→List Int→Option Brought
 | 0,_,_=>none
 | n+1,f,s=>
   let a:=z6k (fun _ x=>decide (0 < x)) 0 s (-1)
   if a < 0 then some (.ok f) else
   match bfs (G.ways f z2e G.n) (G.N+1) (bf0 G.N a.toNat) with
   | none=>none
   | some b=>
     let c:=z6k (fun i x=>decide (x < 0) && b.met.getD i false) 0 s (-1)
     if c < 0 then some (.cut b.met) else
     match z3B b.last a.toNat (G.N+1) c.toNat [] with
     | none=>none
     | some l=>
       let d:=min (min (s.getD a.toNat 0) (-(s.getD c.toNat 0))) (z26 l)
       let s1:=s.set a.toNat (s.getD a.toNat 0 - d)
       bring G n (push f d l) (s1.set c.toNat (s1.getD c.toNat 0+d))
structure BInv (G:Net) (B:Int) (f:Nat→Int) (s:List Int):Prop where
 in_:G.In f
 len:s.length=G.N
 div:∀ P,G.div f P=vsum s P
 bd:∀ v,-B≤s.getD v 0∧s.getD v 0≤B
def much (s:List Int):Int:=sumN s.length fun v=>if 0 < s.getD v 0 then s.getD v 0 else 0
theorem zGu (s:List Int) {i:Nat} (hi:i < s.length) (x:Int):much (s.set i x)=much s+((if 0 < x then x else 0) - if 0 < s.getD i 0 then s.getD i 0 else 0):=by
 unfold much
 rw [List.length_set]
 have:sumN s.length (fun v=>if 0 < (s.set i x).getD v 0 then (s.set i x).getD v 0 else 0)=sumN s.length (updF (fun v=>if 0 < s.getD v 0 then s.getD v 0 else 0) i (if 0 < x then x else 0)):=z02 fun v _=>by
  rw [zCU s hi]
  unfold updF
  by_cases h:v=i
  · rw [if_pos h,if_pos h]
  · rw [if_neg h,if_neg h]
 rw [this,z9B hi]
theorem zFR (s:List Int):0≤much s:=zFr fun v _=>by split <;> omega
theorem Net.ways_to {G:Net} (hG:G.Ok) {f g:Nat→Int} {w:Res} (hw:w ∈ G.ways f g G.n):w.to < G.N∧w.start < G.N∧0 < w.room:=by
 obtain ⟨j,hj,⟨h,rfl⟩ | ⟨h,rfl⟩⟩:=mem_ways.1 hw
 · exact ⟨hG.to j hj,hG.fr j hj,by simp only [Net.fwd];omega⟩
 · exact ⟨hG.fr j hj,hG.to j hj,by simp only [Net.bwd];omega⟩
theorem zBV {s:List Int} {v:Nat} (h:s.getD v 0 ≠ 0):v < s.length:=by
 by_cases hv:v < s.length
 · exact hv
 · rw [List.getD_eq_getElem?_getD,List.getElem?_eq_none (by omega)] at h
   simp at h
theorem BInv.round {G:Net} (hG:G.Ok) {B:Int} {f:Nat→Int} {s:List Int} (h:BInv G B f s) {a c:Nat} (ha:0 < s.getD a 0) (hc:s.getD c 0 < 0) {Q:List Nat} {b:Bf} (hb:BfEnd (G.ways f z2e G.n) G.N a Q b) (hm:b.met.getD c false=true):
    ∃ l,z3B b.last a (G.N+1) c []=some l∧(∀ w ∈ l,w ∈ G.ways f z2e G.n)∧(let d:=min (min (s.getD a 0) (-(s.getD c 0))) (z26 l)
     let s1:=s.set a (s.getD a 0 - d)
     0 < d∧(∀ w ∈ l,d≤w.room)∧BInv G B (push f d l) (s1.set c (s1.getD c 0+d))∧much (s1.set c (s1.getD c 0+d))=much s - d):=by
 have hcQ:=(hb.met c).1 hm
 obtain ⟨A,C,hQ⟩:=List.append_of_mem hcQ
 have hAl:A.length < G.N+1:=by
  have:=z7X hb.nodup hb.lt
  rw [hQ] at this
  simp at this;omega
 obtain ⟨l,h1,h2,h3,h4,h5⟩:=zC1 hb (G.N+1) A c C [] hQ hAl
 simp only [List.nil_append] at h1
 refine ⟨l,h1,h3,?_⟩
 intro d s1
 obtain ⟨m1,m2,m3⟩:=z3o l (2 ^ 40)
 have hd:0 < d:=by
  have:=m3 (by decide) fun w hw=>(G.ways_to hG (h3 w hw)).2.2
  show 0 < min (min (s.getD a 0) (-(s.getD c 0))) (z26 l)
  unfold z26
  omega
 have hd1:d≤s.getD a 0:=by
  show min (min (s.getD a 0) (-(s.getD c 0))) (z26 l)≤_
  omega
 have hd2:d≤-(s.getD c 0):=by
  show min (min (s.getD a 0) (-(s.getD c 0))) (z26 l)≤_
  omega
 have hdr:∀ w ∈ l,d≤w.room:=fun w hw=>by
  have:=m2 w hw
  have h6:d≤z26 l:=by
   show min (min (s.getD a 0) (-(s.getD c 0))) (z26 l)≤_
   omega
  unfold z26 at h6;omega
 have hal:a < s.length:=zBV (by omega)
 have hcl:c < s.length:=zBV (by omega)
 have hac:a ≠ c:=by rintro rfl;omega
 have hs1c:s1.getD c 0=s.getD c 0:=by
  show (s.set a (s.getD a 0 - d)).getD c 0=_
  rw [getD_set_ne hac]
 have hl1:c < s1.length:=by show c < (s.set a (s.getD a 0 - d)).length;simpa using hcl
 refine ⟨hd,hdr,⟨Net.push_within h.in_ (by omega) h3 hdr h5,by simp [s1,h.len],fun P=>?_,fun v=>?_⟩,?_⟩
 · rw [Net.push_rdiv P d l f a c (fun w hw=>Net.own_ways (h3 w hw)) h2,h.div P,z9D _ hl1,hs1c]
   rw [z9D _ hal]
   simp only [Int.mul_sub,Int.sub_mul,Int.add_mul];omega
 · rw [z8C _ hl1,hs1c]
   have hv:=h.bd v
   by_cases e:v=c
   · rw [if_pos e]
     have:=h.bd c
     have:=h.bd a
     omega
   · rw [if_neg e,z8C _ hal]
     by_cases e2:v=a
     · rw [if_pos e2]
       have:=h.bd a
       omega
     · rw [if_neg e2];exact hv
 · rw [zGu _ hl1,hs1c,zGu _ hal]
   rw [if_neg (show ¬ 0 < s.getD c 0 by omega),if_neg (show ¬ 0 < s.getD c 0+d by omega),if_pos ha]
   by_cases e:0 < s.getD a 0 - d
   · rw [if_pos e];omega
   · rw [if_neg e];omega
def zRZ (G:Net):Brought→Prop
 | .ok f=>G.In f∧G.Circ f
 | .cut met=>met.length=G.N∧0 < G.over fun v=>met.getD v false
theorem z83 {G:Net} (hG:G.Ok) {B:Int}:∀ (m:Nat) (f:Nat→Int) (s:List Int),(much s).toNat < m→BInv G B f s→∃ r,bring G m f s=some r∧zRZ G r
 | 0,_,_,h,_=>by omega
 | m+1,f,s,hm,h=>by
   unfold bring
   simp only
   rcases z3s (fun _ x=>decide (0 < x)) s 0 (-1) with ⟨h1,h2⟩ | ⟨a,h1,h2,h3⟩
   · rw [h1]
     refine ⟨.ok f,by simp,h.in_,fun P=>?_⟩
     have hz:∀ v,v < s.length→s.getD v 0=0:=by
      have h0:=h.div (fun _=>1)
      have e0:G.div f (fun _=>1)=0:=z0q fun j _=>by simp
      rw [e0] at h0
      have hn:∀ v,v < s.length→s.getD v 0≤0:=fun v hv=>by
       have:=h2 v hv
       simp only [decide_eq_false_iff_not] at this;omega
      have key:∀ n,n≤s.length→sumN n (fun v=>s.getD v 0 * 1)≤0∧(sumN n (fun v=>s.getD v 0 * 1)=0→∀ v,v < n→s.getD v 0=0):=by
       intro n
       induction n with
       | zero=>intro _;exact ⟨by simp [sumN],fun _ v hv=>by omega⟩
       | succ n ih=>
         intro hn'
         obtain ⟨i1,i2⟩:=ih (by omega)
         have:=hn n (by omega)
         simp only [sumN]
         refine ⟨by omega,fun he v hv=>?_⟩
         by_cases e:v=n
         · subst e;omega
         · exact i2 (by omega) v (by omega)
      exact (key s.length (Nat.le_refl _)).2 h0.symm
     rw [h.div P]
     exact z0q fun v hv=>by rw [hz v hv];simp
   · rw [h2]
     simp only [Nat.zero_add,decide_eq_true_eq] at h2 h3 ⊢
     rw [if_neg (by omega)]
     have haN:a < G.N:=by rw [← h.len];exact h1
     obtain ⟨Q,b,hb,hbe⟩:=zNp (ws:=G.ways f z2e G.n) (N:=G.N) (fun w hw=>(G.ways_to hG hw).1) haN
     rw [Int.toNat_natCast,hb]
     simp only
     rcases z3s (fun i x=>decide (x < 0) && b.met.getD i false) s 0 (-1) with ⟨k1,k2⟩ | ⟨c,k1,k2,k3⟩
     · rw [k1]
       refine ⟨.cut b.met,by simp,hbe.lm,?_⟩
       rw [Net.over_eq h.in_ fun j hj=>⟨fun hx hs=>?_,fun hx hs=>?_⟩,h.div]
       · have hpos:s.getD a 0 * ind (fun v=>b.met.getD v false) a=s.getD a 0:=by
           have hma:(b.met.getD a false)=true:=(hbe.met a).2 hbe.from_
           simp only [ind,hma,if_true,Int.mul_one]
         have:s.getD a 0≤vsum s (ind fun v=>b.met.getD v false):=by
          unfold vsum
          rw [← hpos,← z31 h1 (s.getD a 0 * ind (fun v=>b.met.getD v false) a)]
          refine zAZ fun v hv=>?_
          by_cases e:v=a
          · rw [if_pos e,e];exact Int.le_refl _
          · rw [if_neg e]
            have:=k2 v hv
            simp only [Nat.zero_add] at this
            cases hmv:b.met.getD v false
            · simp only [ind,hmv,Bool.false_eq_true,if_false];omega
            · rw [hmv] at this
              simp only [Bool.and_true,decide_eq_false_iff_not] at this
              simp only [ind,hmv,if_true];omega
         exact Int.lt_of_lt_of_le h3 this
       · have:=hbe.closed (G.fwd f z2e j) (Net.mem_ways.2 ⟨j,hj,.inl ⟨hx,rfl⟩⟩) ((hbe.met _).1 hs)
         exact (hbe.met _).2 this
       · have:=hbe.closed (G.bwd f z2e j) (Net.mem_ways.2 ⟨j,hj,.inr ⟨hx,rfl⟩⟩) ((hbe.met _).1 hs)
         exact (hbe.met _).2 this
     · rw [k2]
       simp only [Nat.zero_add,Bool.and_eq_true,decide_eq_true_eq] at k3 ⊢
       rw [if_neg (by omega),Int.toNat_natCast]
       obtain ⟨l,l1,_,l2⟩:=h.round hG h3 k3.1 hbe k3.2
       obtain ⟨l3,_,l4,l5⟩:=l2
       rw [l1]
       simp only
       exact z83 hG m _ _ (by
        have h6:=zFR (((s.set a (s.getD a 0 - min (min (s.getD a 0) (-s.getD c 0)) (z26 l))).set c ((s.set a (s.getD a 0 - min (min (s.getD a 0) (-s.getD c 0)) (z26 l))).getD c 0+min (min (s.getD a 0) (-s.getD c 0)) (z26 l))))
        rw [l5] at h6 ⊢
        omega) l4
theorem zFl {G:Net} (hG:G.Ok) {B:Int} (hB:0≤B) (hl:∀ j,j < G.n→-B≤G.lo j∧G.lo j≤G.hi j∧G.hi j≤B):BInv G (2 * G.n * B) G.lo (z0m G G.lo G.n):=by
 obtain ⟨h1,h2,h3⟩:=z6G hG G.lo B hB (fun j hj=>by have:=hl j hj;omega) G.n (Nat.le_refl _)
 exact ⟨fun j hj=>⟨Int.le_refl _,(hl j hj).2.1⟩,h1,fun P=>(h2 P).symm,h3⟩
theorem zBu {G:Net} (hG:G.Ok) (hl:∀ j,j < G.n→0≤G.lo j∧G.lo j≤G.hi j∧G.hi j≤2 ^ 30):BInv G (2 * G.n * 2 ^ 30) G.lo (z0m G G.lo G.n):=by
 obtain ⟨h1,h2,h3⟩:=z6G hG G.lo (2 ^ 30) (by decide) (fun j hj=>by have:=hl j hj;omega) G.n (Nat.le_refl _)
 exact ⟨fun j hj=>⟨Int.le_refl _,(hl j hj).2.1⟩,h1,fun P=>(h2 P).symm,h3⟩
structure Wo where
 there:Bool
 gain:Int
 last:Res
 deriving Inhabited
def wo0:Wo:=⟨false,0,default⟩
def z2E (prev cur:List Wo) (w:Res):List Wo:=
 if (prev.getD w.start wo0).there && (!(cur.getD w.to wo0).there || decide ((cur.getD w.to wo0).gain < (prev.getD w.start wo0).gain+w.gain)) then
  cur.set w.to ⟨true,(prev.getD w.start wo0).gain+w.gain,w⟩ else cur
def kRow (ws:List Res) (N:Nat):Nat→List Wo
 | 0=>List.replicate N ⟨true,0,default⟩
 | k+1=>ws.foldl (z2E (kRow ws N k)) (List.replicate N wo0)
def zLZ (ws:List Res) (prev cur:List Wo):Prop:=∀ v,(cur.getD v wo0).there=true→(cur.getD v wo0).last ∈ ws∧(cur.getD v wo0).last.to=v∧(prev.getD (cur.getD v wo0).last.start wo0).there=true ∧
 (cur.getD v wo0).gain=(prev.getD (cur.getD v wo0).last.start wo0).gain+(cur.getD v wo0).last.gain
theorem zSU {ws:List Res} {N:Nat} {prev:List Wo} (hto:∀ w ∈ ws,w.to < N):∀ (us:List Res) (cur:List Wo),(∀ w ∈ us,w ∈ ws)→cur.length=N→zLZ ws prev cur →
    (us.foldl (z2E prev) cur).length=N∧zLZ ws prev (us.foldl (z2E prev) cur) ∧
    (∀ v,(cur.getD v wo0).there=true→((us.foldl (z2E prev) cur).getD v wo0).there=true∧(cur.getD v wo0).gain≤((us.foldl (z2E prev) cur).getD v wo0).gain) ∧
    (∀ w ∈ us,(prev.getD w.start wo0).there=true→((us.foldl (z2E prev) cur).getD w.to wo0).there=true∧(prev.getD w.start wo0).gain+w.gain≤((us.foldl (z2E prev) cur).getD w.to wo0).gain)
 | [],cur,_,hl,hf=>⟨hl,hf,fun v h=>⟨h,Int.le_refl _⟩,by simp⟩
 | w :: us,cur,hu,hl,hf=>by
   have hw:=hto w (hu w (by simp))
   have hl1:(z2E prev cur w).length=N:=by unfold z2E;split <;> simp [hl]
   have hf1:zLZ ws prev (z2E prev cur w):=by
    unfold z2E
    split
    · rename_i hc
      simp only [Bool.and_eq_true] at hc
      intro v hv
      by_cases e:w.to=v
      · subst e
        rw [z17 (by rw [hl];exact hw)]
        exact ⟨hu w (by simp),rfl,hc.1,rfl⟩
      · rw [getD_set_ne e] at hv ⊢
        exact hf v hv
    · exact hf
   have hm1:∀ v,(cur.getD v wo0).there=true→((z2E prev cur w).getD v wo0).there=true∧(cur.getD v wo0).gain≤((z2E prev cur w).getD v wo0).gain:=by
    intro v hv
    unfold z2E
    split
    · rename_i hc
      by_cases e:w.to=v
      · subst e
        rw [z17 (by rw [hl];exact hw)]
        refine ⟨rfl,?_⟩
        simp only [hv,Bool.not_true,Bool.false_or,Bool.and_eq_true,decide_eq_true_eq] at hc
        have:=hc.2
        simp only
        omega
      · rw [getD_set_ne e];exact ⟨hv,Int.le_refl _⟩
    · exact ⟨hv,Int.le_refl _⟩
   have hr1:(prev.getD w.start wo0).there=true→((z2E prev cur w).getD w.to wo0).there=true∧(prev.getD w.start wo0).gain+w.gain≤((z2E prev cur w).getD w.to wo0).gain:=by
    intro hp
    unfold z2E
    split
    · rw [z17 (by rw [hl];exact hw)]
      exact ⟨rfl,Int.le_refl _⟩
    · rename_i hc
      simp only [hp,Bool.true_and,Bool.or_eq_true,Bool.not_eq_true',decide_eq_true_eq,not_or,Bool.not_eq_false] at hc
      exact ⟨hc.1,by omega⟩
   obtain ⟨k1,k2,k3,k4⟩:=zSU hto us (z2E prev cur w) (fun x hx=>hu x (by simp [hx])) hl1 hf1
   refine ⟨k1,k2,fun v hv=>?_,fun x hx hp=>?_⟩
   · obtain ⟨a1,a2⟩:=hm1 v hv
     obtain ⟨b1,b2⟩:=k3 v a1
     exact ⟨b1,Int.le_trans a2 b2⟩
   · rcases List.mem_cons.1 hx with rfl | hx
     · obtain ⟨a1,a2⟩:=hr1 hp
       obtain ⟨b1,b2⟩:=k3 _ a1
       exact ⟨b1,Int.le_trans a2 b2⟩
     · exact k4 x hx hp
theorem zKB (N v:Nat):∀ ws,((kRow ws N 0).getD v wo0).there=true ↔ v < N:=by
 intro ws
 simp only [kRow]
 rw [List.getD_eq_getElem?_getD,List.getElem?_replicate]
 split
 · simpa using by assumption
 · simp [wo0];omega
theorem z9v {ws:List Res} {N:Nat} (hto:∀ w ∈ ws,w.to < N) (k:Nat):(kRow ws N (k+1)).length=N∧zLZ ws (kRow ws N k) (kRow ws N (k+1))∧∀ w ∈ ws,((kRow ws N k).getD w.start wo0).there=true→((kRow ws N (k+1)).getD w.to wo0).there=true∧((kRow ws N k).getD w.start wo0).gain+w.gain≤((kRow ws N (k+1)).getD w.to wo0).gain:=by
 obtain ⟨h1,h2,_,h4⟩:=zSU (prev:=kRow ws N k) hto ws (List.replicate N wo0) (fun _ h=>h) (by simp) (fun v hv=>by
  rw [List.getD_eq_getElem?_getD,List.getElem?_replicate] at hv
  split at hv <;> simp [wo0] at hv)
 exact ⟨h1,h2,h4⟩
theorem z63 {ws:List Res} {N:Nat} (hto:∀ w ∈ ws,w.to < N):∀ k,(kRow ws N k).length=N
 | 0=>by simp [kRow]
 | k+1=>(z9v hto k).1
theorem z8H {ws:List Res} {N:Nat} (hto:∀ w ∈ ws,w.to < N) (hg:∀ w ∈ ws,-1≤w.gain∧w.gain≤1):∀ (k v:Nat),-(k:Int)≤((kRow ws N k).getD v wo0).gain∧((kRow ws N k).getD v wo0).gain≤k
 | 0,v=>by
   simp only [kRow]
   rw [List.getD_eq_getElem?_getD,List.getElem?_replicate]
   split <;> simp [wo0]
 | k+1,v=>by
   cases h:((kRow ws N (k+1)).getD v wo0).there with
   | true=>
     obtain ⟨h1,h2,h3,h4⟩:=(z9v hto k).2.1 v h
     have:=z8H hto hg k ((kRow ws N (k+1)).getD v wo0).last.start
     have:=hg _ h1
     rw [h4]
     omega
   | false=>
     have:∀ (us:List Res) (cur:List Wo),(∀ v,(cur.getD v wo0).there=false→cur.getD v wo0=wo0)→(∀ w ∈ us,w.to < N)→cur.length=N→∀ v,((us.foldl (z2E (kRow ws N k)) cur).getD v wo0).there=false→(us.foldl (z2E (kRow ws N k)) cur).getD v wo0=wo0:=by
      intro us
      induction us with
      | nil=>intro cur hc _ _ v hv;exact hc v hv
      | cons w us ih=>
        intro cur hc hu hl v hv
        refine ih (z2E (kRow ws N k) cur w) (fun v hv=>?_) (fun x hx=>hu x (by simp [hx])) (by unfold z2E;split <;> simp [hl]) v hv
        unfold z2E at hv ⊢
        split at hv
        · rename_i hcc
          rw [if_pos hcc]
          by_cases e:w.to=v
          · subst e
            rw [z17 (by rw [hl];exact hu w (by simp))] at hv
            cases hv
          · rw [getD_set_ne e] at hv ⊢
            exact hc v hv
        · rename_i hcc
          rw [if_neg hcc]
          exact hc v hv
     have e0:=this ws (List.replicate N wo0) (fun v _=>by
      rw [List.getD_eq_getElem?_getD,List.getElem?_replicate];split <;> rfl) hto (by simp) v h
     have e1:(kRow ws N (k+1)).getD v wo0=wo0:=e0
     rw [e1]
     simp only [wo0]
     omega
def zA3 (T:Nat→List Wo) (N v:Nat) (x:Int × Int) (k:Nat):Int × Int:=
 if ((T k).getD v wo0).there then
  if x.2=0 ∨ (((T N).getD v wo0).gain - ((T k).getD v wo0).gain) * x.2 < x.1 * ((N:Int) - k) then (((T N).getD v wo0).gain - ((T k).getD v wo0).gain,(N:Int) - k) else x
 else x
def kMin (T:Nat→List Wo) (N v n:Nat):Int × Int:=(List.range n).foldl (zA3 T N v) (0,0)
theorem z9u (T:Nat→List Wo) (N v n:Nat):kMin T N v (n+1)=zA3 T N v (kMin T N v n) n:=by
 unfold kMin;rw [List.range_succ,List.foldl_append];rfl
theorem zCY (T:Nat→List Wo) (N v:Nat):∀ n,n≤N→(kMin T N v n=(0,0)∧∀ k,k < n→((T k).getD v wo0).there=false) ∨
    (0 < (kMin T N v n).2∧(kMin T N v n).2≤N∧(∃ k,k < n∧((T k).getD v wo0).there=true∧(kMin T N v n).1=((T N).getD v wo0).gain - ((T k).getD v wo0).gain) ∧
      (0 < (kMin T N v n).1→∀ k,k < n→((T k).getD v wo0).there=true→0 < ((T N).getD v wo0).gain - ((T k).getD v wo0).gain))
 | 0,_=>.inl ⟨rfl,fun k hk=>by omega⟩
 | n+1,hn=>by
   have ih:=zCY T N v n (by omega)
   rw [z9u]
   generalize kMin T N v n=x at ih
   unfold zA3
   cases ht:((T n).getD v wo0).there with
   | false=>
     simp only [Bool.false_eq_true,if_false]
     rcases ih with ⟨h1,h2⟩ | ⟨h1,h1',⟨k,hk,h2⟩,h3⟩
     · refine .inl ⟨h1,fun k hk=>?_⟩
       by_cases e:k=n
       · subst e;exact ht
       · exact h2 k (by omega)
     · refine .inr ⟨h1,h1',⟨k,by omega,h2⟩,fun hp k hk hk2=>?_⟩
       by_cases e:k=n
       · subst e;rw [ht] at hk2;cases hk2
       · exact h3 hp k (by omega) hk2
   | true=>
     simp only [if_true]
     right
     rcases ih with ⟨h1,h2⟩ | ⟨h1,h1',⟨k,hk,h2⟩,h3⟩
     · rw [h1]
       simp only [true_or,if_true]
       refine ⟨by omega,by omega,⟨n,by omega,ht,rfl⟩,fun hp k hk hk2=>?_⟩
       by_cases e:k=n
       · subst e;exact hp
       · rw [h2 k (by omega)] at hk2;cases hk2
     · have hm:(0:Int) < (N:Int) - n:=by omega
       by_cases hc:x.2=0 ∨ (((T N).getD v wo0).gain - ((T n).getD v wo0).gain) * x.2 < x.1 * ((N:Int) - n)
       · rw [if_pos hc]
         simp only
         have hc':(((T N).getD v wo0).gain - ((T n).getD v wo0).gain) * x.2 < x.1 * ((N:Int) - n):=by
          rcases hc with hc | hc
          · omega
          · exact hc
         refine ⟨hm,by omega,⟨n,by omega,ht,rfl⟩,fun hp k hk hk2=>?_⟩
         by_cases e:k=n
         · subst e;exact hp
         · refine h3 ?_ k (by omega) hk2
           have h5:0 < x.1 * ((N:Int) - n):=Int.lt_trans (Int.mul_pos hp h1) hc'
           exact Int.pos_of_mul_pos_left h5 (by omega) |> fun h=>h
       · rw [if_neg hc]
         refine ⟨h1,h1',⟨k,by omega,h2⟩,fun hp k hk hk2=>?_⟩
         by_cases e:k=n
         · subst e
           have hc':x.1 * ((N:Int) - k)≤(((T N).getD v wo0).gain - ((T k).getD v wo0).gain) * x.2:=by
            have:=fun h=>hc (.inr h)
            omega
           have h5:0 < (((T N).getD v wo0).gain - ((T k).getD v wo0).gain) * x.2:=Int.lt_of_lt_of_le (Int.mul_pos hp hm) hc'
           exact Int.pos_of_mul_pos_left h5 (by omega) |> fun h=>h
         · exact h3 hp k (by omega) hk2
def z71 (T:Nat→List Wo) (N:Nat) (x:Int × Int × Int) (v:Nat):Int × Int × Int:=
 if ((T N).getD v wo0).there then
  if x.1 < 0 ∨ x.2.1 * (kMin T N v N).2 < (kMin T N v N).1 * x.2.2 then ((v:Int),(kMin T N v N).1,(kMin T N v N).2) else x
 else x
def z3K (T:Nat→List Wo) (N n:Nat):Int × Int × Int:=(List.range n).foldl (z71 T N) (-1,0,1)
theorem z8G (T:Nat→List Wo) (N n:Nat):z3K T N (n+1)=z71 T N (z3K T N n) n:=by
 unfold z3K;rw [List.range_succ,List.foldl_append];rfl
theorem z95 (T:Nat→List Wo) (N:Nat) (h0:∀ v,v < N→((T 0).getD v wo0).there=true):∀ n,n≤N→0 < (z3K T N n).2.2∧(z3K T N n).2.2≤(if N=0 then 1 else (N:Int)) ∧
    ((z3K T N n=(-1,0,1)∧∀ v,v < n→((T N).getD v wo0).there=false) ∨
    ((∃ v,v < n∧(z3K T N n).1=(v:Int)∧((T N).getD v wo0).there=true∧(z3K T N n).2=kMin T N v N)∧((z3K T N n).2.1≤0→∀ v,v < n→((T N).getD v wo0).there=true→(kMin T N v N).1≤0)))
 | 0,_=>by
   refine ⟨show (0:Int) < 1 by decide,?_,.inl ⟨rfl,fun k hk=>by omega⟩⟩
   show (1:Int)≤_
   split <;> omega
 | n+1,hn=>by
   have ih:=z95 T N h0 n (by omega)
   rw [z8G]
   generalize z3K T N n=x at ih
   obtain ⟨h1,h1',ih⟩:=ih
   unfold z71
   cases ht:((T N).getD n wo0).there with
   | false=>
     simp only [Bool.false_eq_true,if_false]
     refine ⟨h1,h1',?_⟩
     rcases ih with ⟨h2,h3⟩ | ⟨⟨v,hv,h2,h2',h2''⟩,h3⟩
     · refine .inl ⟨h2,fun k hk=>?_⟩
       by_cases e:k=n
       · subst e;exact ht
       · exact h3 k (by omega)
     · refine .inr ⟨⟨v,by omega,h2,h2',h2''⟩,fun hp k hk hk2=>?_⟩
       by_cases e:k=n
       · subst e;rw [ht] at hk2;cases hk2
       · exact h3 hp k (by omega) hk2
   | true=>
     simp only [if_true]
     have hm:0 < (kMin T N n N).2∧(kMin T N n N).2≤N:=by
      rcases zCY T N n N (Nat.le_refl _) with ⟨_,h⟩ | ⟨h,h',_⟩
      · have:=h 0 (by omega)
        rw [h0 n (by omega)] at this;cases this
      · exact ⟨h,h'⟩
     by_cases hc:x.1 < 0 ∨ x.2.1 * (kMin T N n N).2 < (kMin T N n N).1 * x.2.2
     · rw [if_pos hc]
       refine ⟨hm.1,by rw [if_neg (by omega)];exact hm.2,.inr ⟨⟨n,by omega,rfl,ht,rfl⟩,fun hp k hk hk2=>?_⟩⟩
       simp only at hp
       by_cases e:k=n
       · subst e;exact hp
       · rcases ih with ⟨h2,h3⟩ | ⟨⟨v,hv,h2,_⟩,h3⟩
         · rw [h3 k (by omega)] at hk2;cases hk2
         · refine h3 ?_ k (by omega) hk2
           have hc':x.2.1 * (kMin T N n N).2 < (kMin T N n N).1 * x.2.2:=by
            rcases hc with hc | hc
            · rw [h2] at hc;omega
            · exact hc
           have h5:(kMin T N n N).1 * x.2.2≤0:=Int.mul_nonpos_of_nonpos_of_nonneg hp (by omega)
           have h6:x.2.1 * (kMin T N n N).2 < 0:=Int.lt_of_lt_of_le hc' h5
           apply Int.not_lt.1
           intro h7
           have:=Int.mul_pos h7 hm.1
           omega
     · rw [if_neg hc]
       refine ⟨h1,h1',?_⟩
       rcases ih with ⟨h2,h3⟩ | ⟨⟨v,hv,h2,h2',h2''⟩,h3⟩
       · exact absurd (.inl (by rw [h2];decide)) hc
       · refine .inr ⟨⟨v,by omega,h2,h2',h2''⟩,fun hp k hk hk2=>?_⟩
         by_cases e:k=n
         · subst e
           have hc':(kMin T N k N).1 * x.2.2≤x.2.1 * (kMin T N k N).2:=by
            have:=fun h=>hc (.inr h)
            omega
           have h5:x.2.1 * (kMin T N k N).2≤0:=Int.mul_nonpos_of_nonpos_of_nonneg hp (by omega)
           apply Int.not_lt.1
           intro h7
           have:=Int.mul_pos h7 h1
           omega
         · exact h3 hp k (by omega) hk2
def walkS (T:Nat→List Wo):Nat→Nat→List Res
 | 0,_=>[]
 | k+1,v=>((T (k+1)).getD v wo0).last :: walkS T k ((T (k+1)).getD v wo0).last.start
theorem z1Y (T:Nat→List Wo):∀ k v,(walkS T k v).length=k
 | 0,_=>rfl
 | k+1,v=>by simp [walkS,z1Y T k]
def scan (a:Nat):List Res→Int→Nat→List Nat→Option (Int × Nat)
 | [],_,_,_=>none
 | w :: l,s,n,seen=>if w.start=a then some (s+w.gain,n+1) else if seen.contains w.start then none else scan a l (s+w.gain) (n+1) (w.start :: seen)
def gsum (l:List Res):Int:=(l.map (·.gain)).foldr (·+·) 0
theorem z4X (w:Res) (l:List Res):gsum (w :: l)=w.gain+gsum l:=rfl
def z7O (walk:List Res) (x:List Res × Int) (i:Nat):List Res × Int:=
 match scan (walk.getD i default).to (walk.drop i) 0 0 [] with
 | none=>x
 | some (s,n)=>if x.1=[] ∨ x.2 * n < s * x.1.length then ((walk.drop i).take n,s) else x
def z2o (walk:List Res) (n:Nat):List Res × Int:=(List.range n).foldl (z7O walk) ([],0)
theorem z64 (walk:List Res) (n:Nat):z2o walk (n+1)=z7O walk (z2o walk n) n:=by
 unfold z2o;rw [List.range_succ,List.foldl_append];rfl
theorem zFj (a:Nat):∀ (l:List Res) (s:Int) (n:Nat) (seen:List Nat) (s':Int) (n':Nat),scan a l s n seen=some (s',n')→a ∉ seen →
    ∃ m,0 < m∧m≤l.length∧n'=n+m∧s'=s+gsum (l.take m)∧((l.take m).map (·.start)).Nodup∧(∀ w ∈ l.take m,w.start ∉ seen)∧∀ b c,RChain b l c→RChain b (l.take m) a
 | [],s,n,seen,s',n',h,_=>by simp [scan] at h
 | w :: l,s,n,seen,s',n',h,ha=>by
   unfold scan at h
   split at h
   · rename_i e
     cases h
     refine ⟨1,by omega,by simp,rfl,by simp [gsum],by simp,fun x hx=>?_,fun b c hc=>?_⟩
     · simp at hx;subst hx;rw [e];exact ha
     · simp only [RChain] at hc
       simp only [List.take_succ_cons,List.take_zero,RChain]
       exact ⟨hc.1,e⟩
   · rename_i e
     split at h
     · cases h
     · rename_i hs
       obtain ⟨m,h1,h2,h3,h4,h5,h6,h7⟩:=zFj a l _ _ _ _ _ h (by simp;exact ⟨fun h=>e h.symm,ha⟩)
       refine ⟨m+1,by omega,by simp;omega,by omega,?_,?_,fun x hx=>?_,fun b c hc=>?_⟩
       · rw [List.take_succ_cons,z4X,h4];omega
       · rw [List.take_succ_cons,List.map_cons,List.nodup_cons]
         refine ⟨fun hm=>?_,h5⟩
         obtain ⟨x,hx,hxe⟩:=List.mem_map.1 hm
         have:=h6 x hx
         simp at this
         exact this.1 hxe
       · rw [List.take_succ_cons] at hx
         rcases List.mem_cons.1 hx with rfl | hx
         · simpa using hs
         · have:=h6 x hx
           simp at this
           exact this.2
       · simp only [RChain] at hc
         rw [List.take_succ_cons]
         exact ⟨hc.1,h7 _ _ hc.2⟩
theorem zBs (a:Nat):∀ (l:List Res) (s:Int) (n:Nat) (seen:List Nat),(l.map (·.start)).Nodup→(∀ w ∈ l,w.start ∉ seen)→a ∈ l.map (·.start)→∃ x,scan a l s n seen=some x
 | [],_,_,_,_,_,h=>by simp at h
 | w :: l,s,n,seen,hn,hs,h=>by
   unfold scan
   simp only [List.map_cons,List.nodup_cons,List.mem_cons] at hn h
   by_cases e:w.start=a
   · rw [if_pos e];exact ⟨_,rfl⟩
   · rw [if_neg e,if_neg (by simpa using hs w (by simp))]
     refine zBs a l _ _ _ hn.2 (fun x hx=>?_) (h.resolve_left fun h=>e h.symm)
     simp only [List.mem_cons,not_or]
     exact ⟨fun he=>hn.1 (List.mem_map.2 ⟨x,hx,he⟩),hs x (by simp [hx])⟩
theorem zEN:∀ (l:List Res) (v u:Nat),RChain v l u→¬ (v :: l.map (·.start)).Nodup→∃ i,i < l.length∧∃ x,scan (l.getD i default).to (l.drop i) 0 0 []=some x
 | [],v,u,_,h=>by simp at h
 | w :: l,v,u,hc,h=>by
   simp only [RChain] at hc
   by_cases hn:(w.start :: l.map (·.start)).Nodup
   · refine ⟨0,by simp,?_⟩
     simp only [List.getD_cons_zero,List.drop_zero]
     refine zBs _ _ _ _ _ hn (by simp) ?_
     rw [hc.1]
     by_cases hm:v ∈ (w :: l).map (·.start)
     · exact hm
     · exact absurd (List.nodup_cons.2 ⟨hm,hn⟩) h
   · obtain ⟨i,h1,h2⟩:=zEN l w.start u hc.2 hn
     exact ⟨i+1,by simp;omega,by simpa using h2⟩
theorem RChain.split:∀ {l:List Res} {b a:Nat} (i:Nat),RChain b l a→∃ c,RChain b (l.take i) c∧RChain c (l.drop i) a
 | l,b,a,0,h=>⟨b,by simp [RChain],by simpa using h⟩
 | [],b,a,i+1,h=>⟨b,by simp [RChain],by simpa using h⟩
 | w :: l,b,a,i+1,h=>by
   simp only [RChain] at h
   obtain ⟨c,h1,h2⟩:=RChain.split i h.2
   exact ⟨c,by rw [List.take_succ_cons];exact ⟨h.1,h1⟩,by simpa using h2⟩
theorem RChain.head {w:Res} {l:List Res} {b a:Nat} (h:RChain b (w :: l) a):w.to=b:=h.1
theorem zDX {α:Type} {l:List α} {i:Nat} (h:i < l.length) (d:α):l.drop i=l.getD i d :: l.drop (i+1):=by
 rw [List.drop_eq_getElem_cons h,List.getD_eq_getElem?_getD,List.getElem?_eq_getElem h];rfl
theorem z97 {walk:List Res} {v u:Nat} (hc:RChain v walk u):∀ n,n≤walk.length→((z2o walk n=([],0)∧∀ i,i < n→scan (walk.getD i default).to (walk.drop i) 0 0 []=none) ∨
    ((z2o walk n).1 ≠ []∧(z2o walk n).2=gsum (z2o walk n).1∧((z2o walk n).1.map (·.start)).Nodup∧(∀ w ∈ (z2o walk n).1,w ∈ walk)∧(∃ a,RChain a (z2o walk n).1 a)∧(z2o walk n).1.length≤walk.length ∧
      ((z2o walk n).2≤0→∀ i,i < n→∀ s m,scan (walk.getD i default).to (walk.drop i) 0 0 []=some (s,m)→s≤0)))
 | 0,_=>.inl ⟨rfl,fun i hi=>by omega⟩
 | n+1,hn=>by
   have ih:=z97 hc n (by omega)
   rw [z64]
   generalize z2o walk n=x at ih
   unfold z7O
   cases hs:scan (walk.getD n default).to (walk.drop n) 0 0 [] with
   | none=>
     simp only
     rcases ih with ⟨h1,h2⟩ | ⟨h1,h2,h3,h4,h5,h5',h6⟩
     · refine .inl ⟨h1,fun i hi=>?_⟩
       by_cases e:i=n
       · subst e;exact hs
       · exact h2 i (by omega)
     · refine .inr ⟨h1,h2,h3,h4,h5,h5',fun hp i hi s m he=>?_⟩
       by_cases e:i=n
       · subst e;rw [hs] at he;cases he
       · exact h6 hp i (by omega) s m he
   | some y=>
     obtain ⟨s,m⟩:=y
     simp only
     obtain ⟨m',k1,k2,k3,k4,k5,k6,k7⟩:=zFj _ _ _ _ _ _ _ hs (by simp)
     simp only [Nat.zero_add,Int.zero_add] at k3 k4
     subst k3
     by_cases hb:x.1=[] ∨ x.2 * m < s * x.1.length
     · rw [if_pos hb]
       right
       have hne:(walk.drop n).take m ≠ []:=by
        intro h
        have:=congrArg List.length h
        rw [List.length_take] at this
        simp only [List.length_nil] at this
        omega
       obtain ⟨v',hv'⟩:∃ v',RChain v' ((walk.drop n).take m) v':=by
        obtain ⟨c,_,h2⟩:=RChain.split n hc
        have h3:=k7 _ _ h2
        have h4:=h2
        rw [zDX (show n < walk.length by omega) default] at h4
        have h5:=h4.head
        rw [h5] at h3
        exact ⟨_,h3⟩
       refine ⟨hne,k4,k5,fun w hw=>List.mem_of_mem_drop (List.mem_of_mem_take hw),⟨v',?_⟩,by simp;omega,fun hp i hi s' m' he=>?_⟩
       · exact hv'
       · simp only at hp
         by_cases e:i=n
         · subst e
           rw [hs] at he;cases he;exact hp
         · rcases ih with ⟨h1,h2⟩ | ⟨h1,h2,h3,h4,h5,h5',h6⟩
           · rw [h2 i (by omega)] at he;cases he
           · refine h6 ?_ i (by omega) s' m' he
             have hb':=hb.resolve_left h1
             have hl:0 < x.1.length:=List.length_pos_iff.2 h1
             apply Int.not_lt.1
             intro h7
             have h8:0 < x.2 * (m:Int):=Int.mul_pos h7 (by omega)
             have h9:s * (x.1.length:Int)≤0:=Int.mul_nonpos_of_nonpos_of_nonneg hp (by omega)
             omega
     · rw [if_neg hb]
       simp only [not_or] at hb
       rcases ih with ⟨h1,h2⟩ | ⟨h1,h2,h3,h4,h5,h5',h6⟩
       · exact absurd (by rw [h1]) hb.1
       · refine .inr ⟨h1,h2,h3,h4,h5,h5',fun hp i hi s' m' he=>?_⟩
         by_cases e:i=n
         · subst e
           rw [hs] at he;cases he
           have hl:0 < x.1.length:=List.length_pos_iff.2 h1
           apply Int.not_lt.1
           intro h7
           have h8:0 < s * (x.1.length:Int):=Int.mul_pos h7 (by omega)
           have h9:x.2 * (m:Int)≤0:=Int.mul_nonpos_of_nonpos_of_nonneg hp (by omega)
           omega
         · exact h6 hp i (by omega) s' m' he
theorem z6J {ws:List Res} {N:Nat} (hto:∀ w ∈ ws,w.to < N):∀ (m k v:Nat),m≤k→((kRow ws N k).getD v wo0).there=true →
    ∃ x,RChain v ((walkS (kRow ws N) k v).take m) x∧(walkS (kRow ws N) k v).drop m=walkS (kRow ws N) (k - m) x∧((kRow ws N (k - m)).getD x wo0).there=true∧(∀ w ∈ (walkS (kRow ws N) k v).take m,w ∈ ws) ∧
     ((kRow ws N k).getD v wo0).gain=gsum ((walkS (kRow ws N) k v).take m)+((kRow ws N (k - m)).getD x wo0).gain
 | 0,k,v,_,h=>⟨v,by simp [RChain],by simp,by simpa using h,by simp,by simp [gsum]⟩
 | m+1,0,v,hm,_=>by omega
 | m+1,k+1,v,hm,h=>by
   obtain ⟨h1,h2,h3,h4⟩:=(z9v hto k).2.1 v h
   obtain ⟨x,k1,k2,k3,k4,k5⟩:=z6J hto m k _ (by omega) h3
   refine ⟨x,?_,?_,by rw [show k+1 - (m+1)=k - m by omega];exact k3,?_,?_⟩
   · simp only [walkS,List.take_succ_cons]
     exact ⟨h2,k1⟩
   · simp only [walkS,List.drop_succ_cons]
     rw [k2,show k+1 - (m+1)=k - m by omega]
   · intro w hw
     simp only [walkS,List.take_succ_cons] at hw
     rcases List.mem_cons.1 hw with rfl | hw
     · exact h1
     · exact k4 w hw
   · simp only [walkS,List.take_succ_cons]
     rw [z4X,h4,k5,show k+1 - (m+1)=k - m by omega];omega
theorem zLM {ws:List Res} {N:Nat} (hto:∀ w ∈ ws,w.to < N) {k x:Nat} (hx:((kRow ws N k).getD x wo0).there=true):∀ (l:List Res) (v:Nat),RChain v l x→(∀ w ∈ l,w ∈ ws) →
    ((kRow ws N (k+l.length)).getD v wo0).there=true∧((kRow ws N k).getD x wo0).gain+gsum l≤((kRow ws N (k+l.length)).getD v wo0).gain
 | [],v,h,_=>by
   simp only [RChain] at h
   subst h
   exact ⟨hx,by simp [gsum]⟩
 | w :: l,v,h,hw=>by
   simp only [RChain] at h
   obtain ⟨h1,h2⟩:=zLM hto hx l w.start h.2 fun y hy=>hw y (by simp [hy])
   obtain ⟨k1,k2⟩:=(z9v hto (k+l.length)).2.2 w (hw w (by simp)) h1
   rw [h.1] at k1 k2
   refine ⟨k1,?_⟩
   rw [z4X]
   show _≤((kRow ws N (k+l.length+1)).getD v wo0).gain
   omega
def cycleS (ws:List Res) (N:Nat):List Res:=
 if (z3K (kRow ws N) N N).1 < 0 ∨ (z3K (kRow ws N) N N).2.1≤0 then [] else
 if (z2o (walkS (kRow ws N) N (z3K (kRow ws N) N N).1.toNat) N).2≤0 then [] else (z2o (walkS (kRow ws N) N (z3K (kRow ws N) N N).1.toNat) N).1
theorem z6I {ws:List Res} {N:Nat} (hto:∀ w ∈ ws,w.to < N) {k v:Nat} (h:((kRow ws N k).getD v wo0).there=true):∃ u,RChain v (walkS (kRow ws N) k v) u∧∀ w ∈ walkS (kRow ws N) k v,w ∈ ws:=by
 obtain ⟨x,h1,_,_,h2,_⟩:=z6J hto k k v (Nat.le_refl _) h
 rw [List.take_of_length_le (by rw [z1Y];exact Nat.le_refl _)] at h1 h2
 exact ⟨x,h1,h2⟩
theorem zI7 {ws:List Res} {N:Nat} (hto:∀ w ∈ ws,w.to < N) (hst:∀ w ∈ ws,w.start < N) {v:Nat} (hv:v < N) (h:((kRow ws N N).getD v wo0).there=true)
    (hp:∀ k,k < N→((kRow ws N k).getD v wo0).there=true→0 < ((kRow ws N N).getD v wo0).gain - ((kRow ws N k).getD v wo0).gain):0 < (z2o (walkS (kRow ws N) N v) N).2:=by
 obtain ⟨u,hc,hw⟩:=z6I hto h
 have hlen:=z1Y (kRow ws N) N v
 apply Int.not_le.1
 intro hle
 have hnd:¬ (v :: (walkS (kRow ws N) N v).map (·.start)).Nodup:=fun hn=>by
  have:=z7X hn (N:=N) fun x hx=>by
   rcases List.mem_cons.1 hx with rfl | hx
   · exact hv
   · obtain ⟨w,hwm,rfl⟩:=List.mem_map.1 hx
     exact hst w (hw w hwm)
  simp [hlen] at this
  omega
 obtain ⟨i,hi,⟨s,m⟩,hs⟩:=zEN _ _ _ hc hnd
 have hsn:s≤0:=by
  rcases z97 hc N (by omega) with ⟨_,h2⟩ | ⟨_,_,_,_,_,_,h6⟩
  · rw [h2 i (by omega)] at hs;cases hs
  · exact h6 hle i (by omega) s m hs
 obtain ⟨m',k1,k2,k3,k4,k5,k6,k7⟩:=zFj _ _ _ _ _ _ _ hs (by simp)
 simp only [Nat.zero_add,Int.zero_add] at k3 k4
 subst k3
 obtain ⟨x,a1,a2,a3,a4,a5⟩:=z6J hto i N v (by omega) h
 rw [a2] at k2 k4
 rw [z1Y] at k2
 obtain ⟨y,b1,b2,b3,b4,b5⟩:=z6J hto m (N - i) x (by omega) a3
 -- the cycle ends where it began
 have hxy:x=y:=by
  have hd:RChain x ((walkS (kRow ws N) N v).drop i) u:=by
   obtain ⟨c,h1,h2⟩:=RChain.split i hc
   have:c=x:=by
    have aux:∀ (l:List Res) (b c x:Nat),RChain b l c→RChain b l x→c=x:=by
     intro l
     induction l with
     | nil=>intro b c x h1 h2;exact h1.symm.trans h2
     | cons w l ih=>intro b c x h1 h2;exact ih _ _ _ h1.2 h2.2
    exact aux _ _ _ _ h1 a1
   rw [← this];exact h2
  have h3:=k7 _ _ hd
  rw [zDX (show i < (walkS (kRow ws N) N v).length by omega) default] at hd
  rw [hd.head,a2] at h3
  have aux:∀ (l:List Res) (b c x:Nat),RChain b l c→RChain b l x→c=x:=by
   intro l
   induction l with
   | nil=>intro b c x h1 h2;exact h1.symm.trans h2
   | cons w l ih=>intro b c x h1 h2;exact ih _ _ _ h1.2 h2.2
  exact aux _ _ _ _ h3 b1
 subst hxy
 obtain ⟨c1,c2⟩:=zLM hto b3 _ _ a1 a4
 have hl:((walkS (kRow ws N) N v).take i).length=i:=by rw [List.length_take];omega
 rw [hl] at c1 c2
 have:=hp (N - i - m+i) (by omega) c1
 omega
theorem z9b {ws:List Res} {N:Nat} (hto:∀ w ∈ ws,w.to < N) (h:cycleS ws N ≠ []):(∃ a,RChain a (cycleS ws N) a)∧((cycleS ws N).map (·.start)).Nodup∧(∀ w ∈ cycleS ws N,w ∈ ws)∧0 < gsum (cycleS ws N)∧(cycleS ws N).length≤N:=by
 unfold cycleS at h ⊢
 split at h
 · exact absurd rfl h
 · rename_i h1
   rw [if_neg h1]
   split at h
   · exact absurd rfl h
   · rename_i h2
     rw [if_neg h2]
     have h0:=(z95 (kRow ws N) N (fun v hv=>(zKB N v ws).2 hv) N (Nat.le_refl _)).2.2
     rcases h0 with ⟨h3,_⟩ | ⟨⟨v,hv,h3,h4,h5⟩,_⟩
     · exact absurd (.inl (by rw [h3];decide)) h1
     · rw [h3,Int.toNat_natCast] at h2 h ⊢
       obtain ⟨u,hc,hw⟩:=z6I hto h4
       rcases z97 hc N (by rw [z1Y];exact Nat.le_refl _) with ⟨h6,_⟩ | ⟨_,h6,h7,h8,h9,h10,_⟩
       · rw [h6] at h;exact absurd rfl h
       · exact ⟨h9,h7,fun w hx=>hw w (h8 w hx),by rw [← h6];omega,by rw [z1Y] at h10;exact h10⟩
def z5T (T:Nat→List Wo) (v:Nat):Nat→Int
 | 0=>0
 | n+1=>if ((T (n+1)).getD v wo0).there then max (z5T T v n) ((T (n+1)).getD v wo0).gain else z5T T v n
theorem z9p (T:Nat→List Wo) (v:Nat) (h0:((T 0).getD v wo0).gain=0):∀ n k,k≤n→((T k).getD v wo0).there=true→((T k).getD v wo0).gain≤z5T T v n
 | 0,k,hk,h=>by
   have:k=0:=by omega
   subst this
   rw [h0];simp [z5T]
 | n+1,k,hk,h=>by
   simp only [z5T]
   by_cases e:k=n+1
   · subst e
     rw [if_pos h];omega
   · have:=z9p T v h0 n k (by omega) h
     split <;> omega
theorem zDl (T:Nat→List Wo) (v:Nat) (h0:((T 0).getD v wo0).gain=0) (h1:((T 0).getD v wo0).there=true):∀ n,∃ k,k≤n∧((T k).getD v wo0).there=true∧z5T T v n=((T k).getD v wo0).gain
 | 0=>⟨0,by omega,h1,by rw [h0];rfl⟩
 | n+1=>by
   obtain ⟨k,h2,h3,h4⟩:=zDl T v h0 h1 n
   simp only [z5T]
   split
   · rename_i h
     by_cases e:z5T T v n≤((T (n+1)).getD v wo0).gain
     · exact ⟨n+1,by omega,h,by omega⟩
     · exact ⟨k,by omega,h3,by omega⟩
   · exact ⟨k,by omega,h3,h4⟩
theorem zF9 {ws:List Res} {N:Nat} (hto:∀ w ∈ ws,w.to < N) (hst:∀ w ∈ ws,w.start < N) (h:cycleS ws N=[]):∃ P:Nat→Int,∀ w ∈ ws,P w.start+w.gain≤P w.to:=by
 have g0:∀ v,((kRow ws N 0).getD v wo0).gain=0:=fun v=>by
  simp only [kRow]
  rw [List.getD_eq_getElem?_getD,List.getElem?_replicate];split <;> rfl
 have hall:∀ v,v < N→((kRow ws N N).getD v wo0).there=true→∃ k,k < N∧((kRow ws N k).getD v wo0).there=true∧((kRow ws N N).getD v wo0).gain≤((kRow ws N k).getD v wo0).gain:=by
  intro v hv hvt
  have hb:=(z95 (kRow ws N) N (fun v hv=>(zKB N v ws).2 hv) N (Nat.le_refl _)).2.2
  have hle:(kMin (kRow ws N) N v N).1≤0:=by
   unfold cycleS at h
   split at h
   · rename_i h1
     rcases hb with ⟨_,h2⟩ | ⟨⟨u,hu,h2,_⟩,h3⟩
     · rw [h2 v hv] at hvt;cases hvt
     · rcases h1 with h1 | h1
       · rw [h2] at h1;omega
       · exact h3 h1 v hv hvt
   · rename_i h1
     simp only [not_or] at h1
     rcases hb with ⟨h2,_⟩ | ⟨⟨u,hu,h2,h3,h4⟩,_⟩
     · exact absurd (by rw [h2];decide) h1.1
     · rw [h2,Int.toNat_natCast] at h
       have hpos:0 < (z2o (walkS (kRow ws N) N u) N).2:=by
        refine zI7 hto hst hu h3 ?_
        rcases zCY (kRow ws N) N u N (Nat.le_refl _) with ⟨h5,_⟩ | ⟨_,_,_,h5⟩
        · rw [← h4] at h5
          rw [h5] at h1
          exact absurd (Int.le_refl 0) h1.2
        · refine h5 ?_
          rw [← h4]
          omega
       rw [if_neg (by omega)] at h
       obtain ⟨u',hc,_⟩:=z6I hto h3
       rcases z97 hc N (by rw [z1Y];exact Nat.le_refl _) with ⟨h6,_⟩ | ⟨h6,_⟩
       · rw [h6] at hpos;exact absurd hpos (by decide)
       · exact absurd h h6
  rcases zCY (kRow ws N) N v N (Nat.le_refl _) with ⟨_,h5⟩ | ⟨_,_,⟨k,h5,h6,h7⟩,_⟩
  · have:=h5 0 (by omega)
    rw [(zKB N v ws).2 hv] at this;cases this
  · exact ⟨k,h5,h6,by omega⟩
 refine ⟨fun v=>z5T (kRow ws N) v (N - 1),fun w hw=>?_⟩
 have hs:=hst w hw
 have ht:=hto w hw
 obtain ⟨k,h1,h2,h3⟩:=zDl (kRow ws N) w.start (g0 _) ((zKB N _ ws).2 hs) (N - 1)
 show z5T (kRow ws N) w.start (N - 1)+w.gain≤z5T (kRow ws N) w.to (N - 1)
 rw [h3]
 obtain ⟨h4,h5⟩:=(z9v hto k).2.2 w hw h2
 by_cases e:k+1 < N
 · have:=z9p (kRow ws N) w.to (g0 _) (N - 1) (k+1) (by omega) h4
   omega
 · have e2:k+1=N:=by omega
   rw [e2] at h4 h5
   obtain ⟨j,j1,j2,j3⟩:=hall w.to ht h4
   have:=z9p (kRow ws N) w.to (g0 _) (N - 1) j (by omega) j2
   omega
end Go.Proofs.Ytgfejpngfikjiaa.Tidy
