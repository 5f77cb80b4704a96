/-
 What the functions that SharesBlockSpec reaches compute;the law,run.
-/
import Derived.Test.YtgfejpngfikjiaaWc
import Derived.Test.YtgfejpngfikjiaaWa
import Derived.Test.YtgfejpngfikjiaaCd
import Derived.Test.YtgfejpngfikjiaaCb
import Derived.Test.YtgfejpngfikjiaaCe
import Derived.Test.YtgfejpngfikjiaaWb
set_option linter.all false
namespace Go.Proofs.Ytgfejpngfikjiaa.Tidy
open Go Go.IntWalk
set_option maxRecDepth 10000
set_option linter.unusedSimpArgs false
set_option maxHeartbeats 4000000
theorem zMI (C' B n:Nat):flA C' B (n+1)=flA C' B n++[.ref (B+2+n) C' 0 (C'+1) false]:=by simp [flA,vecA,List.range_succ]
theorem z5x (C' B n:Nat):(flA C' B n).length=n:=z0E _ _
theorem zEq {l:List AVal} {n:Nat} (h:l.length=n+1):accF l=.cells (n+1) 1 false l:=by
 unfold accF
 rw [if_neg (fun e=>by rw [e] at h;cases h),h]
theorem zMK {T:TabV} (hT:T.Wf) (hO:T.tab.Mild) {B C' g:Nat} {ps:Nat→Nat} (hC':T.tab.C=C'+1) (hB:5 < B):∀ (n i:Nat) (H:Heap) (t:Tab) (j0 j2 j6 j7 j8 j9 j10 j11 j12 j13 j14 j15 j16 j17 j18 j19 j20 j21 j22 j23 j24 j25 j26 j27 j28 j29 j30 j31 j32 j33 j34 j35 j36 j37 j38 j39 j40 j41 j42 j43 j44 j45 j46 j47 j48 j49 j50 j51:AVal),i+n=T.tab.R→FlAt T H B C' g ps t i→H[B+1]?=some (accF (flA C' B i))→H.length=B+2+i→FillT T.tab t i 0 →
    Goes (execT env (Try.f140.at [1,1,1,0,1,0]) ⟨[j0,.ptr 0 0 0 0,j2,.ptr B 0 0 0,.ref (B+1) i 0 i false,.int .i64 i,j6,j7,j8,j9,j10,j11,j12,j13,j14,j15,j16,j17,j18,j19,j20,j21,j22,j23,j24,j25,j26,j27,j28,j29,j30,j31,j32,j33,j34,j35,j36,j37,j38,j39,j40,j41,j42,j43,j44,j45,j46,j47,j48,j49,j50,j51],H,[],0,[4]⟩) fun ex st=>
     ex=.exit 0∧∃ (H:Heap) (t:Tab),(FlAt T H B C' g ps t T.tab.R∧H[B+1]?=some (accF (flA C' B T.tab.R))∧H.length=B+2+T.tab.R∧FillT T.tab t T.tab.R 0)∧FrP 52 [(4,.ref (B+1) T.tab.R 0 T.tab.R false)] H [] 0 [4] st:=by
 have hR8:=hO.R8
 have hC8:=hO.C8
 have lr:(T.rows.l.map spV).length=T.tab.R:=by rw [List.length_map];rfl
 intro n
 induction n with
 | zero=>
   intro i H t;intros;rename_i hi hA hq hlen hF
   have hd:decide ((i:Int) < (T.tab.R:Int))=false:=by simp;omega
   have h0:=hA.own
   have hi':i=T.tab.R:=by omega
   subst hi'
   simp only [go_sem,simprocAttr,Try.f140]
   rw [exec_loop]
   simp only [go_sem,simprocAttr,h0,lr,hd]
   exact ⟨H,t,⟨hA,hq,hlen,hF⟩,frP (by kernel_rfl)⟩
 | succ n ih=>
   intro i H t;intros;rename_i hi hA hq hlen hF
   have hiR:i < T.tab.R:=by omega
   have hd:decide ((i:Int) < (T.tab.R:Int))=true:=by simp;omega
   have h0:=hA.own
   have wi:IntKind.i64.wrap ((i:Int)+1)=((i+1:Nat):Int):=z00 (by omega)
   have ap:=z9M (H:=H) (q:=B+1) (n:=i) (es:=flA C' B i) (x:=.lit true 1 [.lit true 0 []]) (r:=.lit true 0 []) rfl hq (z5x _ _ _) rfl rfl (by omega) (B+2+i)
   rw [zEq (l:=flA C' B i++[AVal.lit true 0 []]) (n:=i) (by rw [List.length_append,z5x];rfl)] at ap
   obtain ⟨H1,hH1⟩:∃ H1:Heap,H1=H.set (B+1) (Blk.cells (i+1) 1 false (flA C' B i++[.lit true 0 []])):=⟨_,rfl⟩
   have e1:∀ j,j ≠ B+1→H1[j]?=H[j]?:=fun j hj=>by rw [hH1,List.getElem?_set_ne (Ne.symm hj)]
   have hl1:H1.length=B+2+i:=by rw [hH1,List.length_set,hlen]
   have hA1:FlAt T H1 B C' g ps t i:=by
    refine ⟨by rw [e1 0 (by omega)];exact hA.own,hA.tab.mono fun j hj=>e1 j ?_,by rw [e1 B (by omega)];exact hA.box,fun j hj=>by rw [e1 _ (by omega)];exact hA.row j hj,hA.ps⟩
    rcases hj with rfl | rfl | rfl | ⟨m,hm,rfl⟩
    · omega
    · omega
    · omega
    · have:=hA.ps m (by rw [hF.R] at hm;exact hm)
      omega
   have hU1:zIl H1 B C' t i 0:=⟨by rw [hH1,List.getElem?_set_self (by omega)],hl1⟩
   obtain ⟨ex,st,hx,hp⟩:=zMJ hT hO hC' hB hiR T.tab.C 0 H1 t _ _ _ _ _ _ _ _ _ _ _ _ _ _ _ _ _ _ _ _ _ _ _ _ _ _ _ _ _ _ _ _ _ _ _ _ _ _ _ _ _ _ _ _ _ _ _ (by omega) hA1 hU1 hF
   obtain ⟨rfl,H2,t2,⟨hA2,hU2,hF2⟩,jp,rfl⟩:=hp
   rw [hC'] at hU2
   obtain ⟨⟨q2,l2⟩,r2⟩:=hU2
   have hA3:FlAt T H2 B C' g ps t2 (i+1):=⟨hA2.own,hA2.tab,hA2.box,fun j hj=>by
    by_cases e:j=i
    · rw [e];exact r2
    · exact hA2.row j (by omega),hA2.ps⟩
   have hq3:H2[B+1]?=some (accF (flA C' B (i+1))):=by
    rw [zEq (z5x _ _ _),zMI];exact q2
   have hF3:FillT T.tab t2 (i+1) 0:=⟨hF2.R,hF2.C,hF2.mild,hF2.can,hF2.sub,fun j m hj hm h=>hF2.fix j m hj hm (by omega)⟩
   have htr:∀ Tm V,trunc (B+2+i) ⟨Tm,H2,[],0,V⟩=⟨Tm,H2,[],0,V⟩:=fun _ _=>z2k (i:=B+1) (by omega) q2 (List.mem_append_right _ (List.mem_singleton.2 rfl)) (Nat.le_refl _)
   have zB:(B+1 < B+2+i)=True:=eq_true (by omega)
   have ih':=ih (i+1)
   simp only [go_sem,simprocAttr,Try.f140,Int.ofNat_zero,Int.natCast_zero] at hx
   simp only [go_sem,simprocAttr,Try.f140] at ih' ⊢
   rw [exec_loop]
   simp only [go_sem,simprocAttr,h0,lr,hd,hlen,ap,zB]
   rw [← hH1,hx]
   simp only [go_sem,simprocAttr,htr,wi]
   exact ih' _ _ _ _ _ _ _ _ _ _ _ _ _ _ _ _ _ _ _ _ _ _ _ _ _ _ _ _ _ _ _ _ _ _ _ _ _ _ _ _ _ _ _ _ _ _ _ _ _ _ (by omega) hA3 hq3 (by omega) hF3
structure MatAt (H:Heap) (P R C':Nat) (x:Nat→Nat→Int):Prop where
 acc:H[P]?=some (.cells R 1 false (vecA R fun j=>.ref (P+1+j) C' 0 (C'+1) false))
 row:∀ j,j < R→H[P+1+j]?=some (.cells C' 1 true (intsV (C'+1) (x j)))
theorem zHO {T:TabV} (hT:T.Wf) (hO:T.tab.Mild) (hcan:canB T.tab=true) {C':Nat} (hC':T.tab.C=C'+1):∃ (H':Heap) (P:Nat) (x:Nat→Nat→Int),runT env 140 [T.v] [] 0=some (.ret (.ref P T.tab.R 0 T.tab.R false),H')∧MatAt H' P T.tab.R C' x∧Fits T.tab x∧P+1+T.tab.R=H'.length:=by
 have hR1:=hO.R1
 obtain ⟨g,cl⟩:=z2A hT hO
 have cl:=cl 0 [boxT T] 1
 have at0:=z3G hO [boxT T] g
 have H1:([boxT T]:Heap).length=1:=rfl
 rw [H1] at at0
 have hpu:=z0e (cpX T 1 g) [boxT T]
 rw [H1] at hpu
 have hXl:=z9a T 1 g
 have at1:=(at0.more [.cells 0 3 false [memT T.tab 3 4 5 1 1 g]]).more [.cells 0 0 false []]
 generalize hX:cpX T 1 g=X at cl at0 at1 hpu hXl
 obtain ⟨B,hBd⟩:∃ B,B=X.length+1:=⟨_,rfl⟩
 have hA:FlAt T ((([boxT T]++X)++[.cells 0 3 false [memT T.tab 3 4 5 1 1 g]])++[.cells 0 0 false []]) B C' g (cpP 1) T.tab 0:=by
  refine ⟨rfl,at1,?_,fun j hj=>absurd hj (Nat.not_lt_zero _),fun j hj=>?_⟩
  · rw [List.getElem?_append_left (by simp only [List.length_append,List.length_cons,List.length_nil];omega)]
    exact z07 (by rw [List.length_append,H1];omega) _
  · unfold cpP
    omega
 have hq:((([boxT T]++X)++[Blk.cells 0 3 false [memT T.tab 3 4 5 1 1 g]])++[Blk.cells 0 0 false []])[B+1]?=some (accF (flA C' B 0)):=z07 (by simp only [List.length_append,List.length_cons,List.length_nil];omega) _
 have hl:((([boxT T]++X)++[Blk.cells 0 3 false [memT T.tab 3 4 5 1 1 g]])++[Blk.cells 0 0 false []]).length=B+2+0:=by simp only [List.length_append,List.length_cons,List.length_nil];omega
 obtain ⟨ex,st,hx,hp⟩:=zMK hT hO hC' (B:=B) (by omega) T.tab.R 0 _ _ _ _ _ _ _ _ _ _ _ _ _ _ _ _ _ _ _ _ _ _ _ _ _ _ _ _ _ _ _ _ _ _ _ _ _ _ _ _ _ _ _ _ _ _ _ _ _ _ (by omega) hA hq hl ⟨rfl,rfl,hO,hcan,fun s hs=>hs,fun j m _ _ h=>by omega⟩
 obtain ⟨rfl,H2,t2,⟨hA2,hq2,hl2,hF2⟩,jp,rfl⟩:=hp
 have gs:=fun b:Blk=>z07 (X:=X) rfl b
 have ss:=fun b b':Blk=>z0W (X:=X) rfl b b'
 have ls:=fun b:Blk=>z06 (X:=X) rfl b
 obtain ⟨s,hs⟩:=z0S.1 hF2.can
 have hlow:∀ i k,i < T.tab.R→k < T.tab.C→lowN t2 i k=s i k:=fun i k hi hk=>by
  have h1:=hs.cell i k (by rw [hF2.R];exact hi) (by rw [hF2.C];exact hk)
  have h2:=hF2.fix i k hi hk (.inl hi)
  unfold lowN
  omega
 refine ⟨H2,B+1,s,?_,⟨?_,fun j hj=>?_⟩,hF2.sub s hs,by omega⟩
 · subst hBd
   simp only [boxT,memT,List.cons_append,List.nil_append,List.append_assoc] at cl hpu
   simp only [go_sem,simprocAttr,Try.f140,boxT,memT,List.cons_append,List.nil_append,Int.ofNat_zero,Int.natCast_zero] at hx
   rw [run_unfold fn140 rfl]
   simp only [go_sem,simprocAttr,Try.f140,cl,hpu,gs,ss,ls,Nat.lt_add_one,Nat.zero_le]
   rw [hx]
   simp only [go_sem,simprocAttr,unwind,modeEx,resultsOf,one]
 · obtain ⟨R',hR'⟩:∃ R',T.tab.R=R'+1:=⟨T.tab.R - 1,by omega⟩
   rw [hq2,hR',zEq (z5x _ _ _)];rfl
 · rw [show B+1+1+j=B+2+j by omega,hA2.row j hj,z0k fun k hk=>hlow j k hj (by omega)]
set_option maxRecDepth 10000
set_option maxHeartbeats 4000000
theorem zO7 {l:List Nat} {p:Nat} (h:p ∈ l):∃ k,idx l p=some k∧k < l.length∧l[k]?=some p:=by
 unfold idx
 cases hf:l.findIdx? (· == p) with
 | none=>
   rw [List.findIdx?_eq_none_iff] at hf
   have:=hf p h
   simp at this
 | some k=>
   obtain ⟨hk,hp,_⟩:=List.findIdx?_eq_some_iff_getElem.1 hf
   refine ⟨k,rfl,hk,?_⟩
   rw [List.getElem?_eq_getElem hk]
   simpa using hp
theorem zCo {H:Heap}:∀ {us:List (Nat × Blk)},(∀ u ∈ us,H[u.1]?=some u.2)→putU H us=H
 | [],_=>rfl
 | (i,b) :: us,h=>by
   have h0:=h (i,b) (by simp)
   have hi:i < H.length:=(List.getElem?_eq_some_iff.1 h0).1
   have e:H.set i b=H:=by
    apply List.ext_getElem?
    intro j
    by_cases hj:i=j
    · subst hj;rw [List.getElem?_set_self hi,h0]
    · rw [List.getElem?_set_ne hj]
   simp only [putU,hi,if_true,e]
   exact zCo fun u hu=>h u (by simp [hu])
def CovF (f:Nat→Nat):List Foot→List Foot→Prop
 | [],[]=>True
 | a :: l,b :: l'=>(a.i=b.i∧(∀ x ∈ a.reads,f x ∈ b.reads)∧∀ x ∈ a.writes,f x ∈ b.writes)∧CovF f l l'
 | _,_=>False
theorem z8N {f:Nat→Nat} {a b a' b':List Nat} (ha:∀ x ∈ a,f x ∈ a') (hb:∀ x ∈ b,f x ∈ b') (h:meets a' b'=false):meets a b=false:=by
 simp only [meets,List.any_eq_false,List.contains_iff_mem] at h ⊢
 exact fun x hx hxb=>h _ (ha x hx) (hb x hxb)
theorem z1S {f:Nat→Nat} {bf:Array Nat}:∀ {l l':List Foot},CovF f l l'→apart bf l'=true→apart bf l=true
 | [],[],_,_=>rfl
 | a :: l,b :: l',⟨⟨e,h1,h2⟩,hc⟩,h=>by
   simp only [apart,Bool.and_eq_true] at h ⊢
   refine ⟨?_,z1S hc h.2⟩
   have key:∀ (l l':List Foot),CovF f l l'→(l'.all fun c=>!clash b c || (bf.getD c.i 0).testBit b.i)=true→(l.all fun c=>!clash a c || (bf.getD c.i 0).testBit a.i)=true:=by
    intro l
    induction l with
    | nil=>intro l' _ _;rfl
    | cons c l ih=>
      intro l' hc h
      cases l' with
      | nil=>exact hc.elim
      | cons c' l'=>
        obtain ⟨⟨e2,k1,k2⟩,hc⟩:=hc
        simp only [List.all_cons,Bool.and_eq_true,Bool.or_eq_true] at h ⊢
        refine ⟨?_,ih l' hc h.2⟩
        rcases h.1 with h | h
        · left
          simp only [clash,Bool.not_eq_true',Bool.or_eq_false_iff] at h ⊢
          refine ⟨?_,?_⟩ <;> first
           | exact z8N h2 (fun x hx=>by
               rw [List.mem_append] at hx ⊢
               exact hx.imp (k1 x) (k2 x)) (by first | exact h.1 | exact h.2)
           | exact z8N k2 h1 (by first | exact h.1 | exact h.2)
           | exact z8N h1 k2 (by first | exact h.1 | exact h.2)
        · right
          rw [e,e2];exact h
   exact key _ _ hc h.1
 | [],_ :: _,h,_=>h.elim
 | _ :: _,[],h,_=>h.elim
theorem z5v {m:Nat}:∀ {us:List (Nat × Blk)} {n:Nat},(∀ u ∈ us,u.1 < m)→consec m n us=true
 | [],_,_=>rfl
 | (i,b) :: us,n,h=>by
   have h0:i < m:=h (i,b) (by simp)
   simp only [consec,h0,if_true]
   exact z5v fun u hu=>h u (by simp [hu])
set_option maxRecDepth 10000
set_option maxHeartbeats 4000000
def arcA (a b r g:Int):AVal:=.agg [.int .i64 a,.int .i64 b,.int .i64 r,.int .i64 g]
def accQ (l:List AVal):Blk:=if l=[] then .cells 0 0 false [] else .cells l.length 4 true l
theorem zOl {l:List AVal} {n:Nat} (h:l.length=n+1):accQ l=.cells (n+1) 4 true l:=by
 unfold accQ
 rw [if_neg (fun e=>by rw [e] at h;cases h),h]
theorem z3c {H:Heap} {id n:Nat} {es:List AVal} {a b r g:Int} (hH:H[id]?=some (accQ es)) (hn:es.length=n) (hb:n < 2 ^ 20) (nx:Nat):
    z0H env 0 nx 145 (.ref id n 0 n false) (.lit true 4 [arcA a b r g]) H=some (.ref id (n+1) 0 (n+1) false,[(id,accQ (es++[arcA a b r g]))]):=by
 subst hn
 have hfl:z0r env 8 150=true:=rfl
 have hne:es++[arcA a b r g] ≠ []:=by simp
 have hln:(es++[arcA a b r g]).length=es.length+1:=by simp
 by_cases h:es=[]
 · subst h
   have hH':H[id]?=some (.cells 0 0 false []):=hH
   have hnr:noRef (arcA a b r g)=true:=rfl
   have hm:33≤z04:=by decide
   simp [z0H,ti145,ti150,z16,hH',hfl,z1Q,accQ,AVal.cellsOf,AVal.isTuple,hnr,hm]
 · have hgr:=append_ref (E:=env) (ro:=0) (nx:=nx) (H:=H) (id:=id) (g:=es.length) (len:=es.length) (x:=.lit true 4 [arcA a b r g]) (nsz:=4) (new:=[arcA a b r g]) (fl:=true) (bs:=es) ti145 ti150 rfl ⟨by decide,rfl,rfl⟩ rfl (by simp)
     (by rw [hH,accQ,if_neg h]) rfl (List.length_pos_iff.2 h) (Nat.zero_le _) (by show (es.length+1) * 33≤2 ^ 45;omega) (fun _=>rfl)
   rw [hgr,accQ,if_neg hne,hln]
   rfl
theorem z73 (a b r g:Int):build env ⟨.struct [(3,0),(3,1),(3,2),(3,3)],4,32,.agg [.int .i64 0,.int .i64 0,.int .i64 0,.int .i64 0]⟩ [(0,.int .i64 a),(1,.int .i64 b),(2,.int .i64 r),(3,.int .i64 g)]=some (.agg [.int .i64 a,.int .i64 b,.int .i64 r,.int .i64 g]):=rfl
def zM1 (t:Tab) (c:CutA) (x:Nat→Nat→Int) (i k:Nat):List AVal:=[arcA i ((t.R+k:Nat):Int) ((t.cell i k).hi - x i k) (inI c i k),arcA ((t.R+k:Nat):Int) i (x i k - (t.cell i k).lo) (- inI c i k)]
def z2Q (t:Tab) (c:CutA) (x:Nat→Nat→Int) (i k:Nat):List AVal:=(List.range k).flatMap (zM1 t c x i)
theorem z9U (t:Tab) (c:CutA) (x:Nat→Nat→Int) (i k:Nat):z2Q t c x i (k+1)=z2Q t c x i k++zM1 t c x i k:=by
 unfold z2Q
 rw [List.range_succ,List.flatMap_append];simp
theorem z3U (t:Tab) (c:CutA) (x:Nat→Nat→Int) (i:Nat):∀ k,(z2Q t c x i k).length=2 * k
 | 0=>rfl
 | k+1=>by rw [z9U,List.length_append,z3U t c x i k];show 2 * k+2=_;omega
structure AcEnv (T:TabV) (c:CutA) (Y:Heap) (q C':Nat) (x:Nat→Nat→Int):Prop where
 own:Y[q]?=some (.cells 0 3 false [T.v])
 cut:Y[q+1]?=some (.cells 0 2 false [c.v])
 acc:Y[0]?=some (.cells T.tab.R 1 false (vecA T.tab.R fun j=>.ref (1+j) C' 0 (C'+1) false))
 row:∀ j,j < T.tab.R→Y[1+j]?=some (.cells C' 1 true (intsV (C'+1) (x j)))
 len:Y.length=q+1+1
 big:T.tab.R < q
def fQ (q x:Nat):Nat:=if x < q+1+1 then 0 else 1
theorem zGe {q x:Nat} (h:x < q+1+1):fQ q x=0:=if_pos h
theorem zSO (q:Nat):fQ q (q+1+1)=1:=if_neg (Nat.lt_irrefl _)
def zRl:List Foot:=[⟨0,[],[]⟩,⟨1,[],[]⟩,⟨2,[],[]⟩,⟨3,[],[]⟩,⟨4,[],[]⟩,⟨5,[],[]⟩,⟨6,[0],[]⟩,⟨7,[],[]⟩,⟨8,[],[]⟩,⟨9,[],[]⟩,⟨10,[],[]⟩,⟨11,[],[]⟩,⟨12,[],[]⟩,⟨13,[],[]⟩,⟨14,[],[]⟩,⟨15,[],[]⟩,⟨16,[0],[]⟩,⟨17,[0],[]⟩,⟨18,[],[]⟩,⟨19,[0],[]⟩,⟨20,[0],[]⟩,⟨21,[],[]⟩,⟨22,[0],[]⟩,⟨23,[],[]⟩,⟨24,[],[]⟩,⟨25,[],[]⟩,⟨26,[],[]⟩,⟨27,[],[]⟩,⟨28,[1],[1]⟩,⟨29,[],[]⟩]
def zRm:List Foot:=[⟨0,[],[]⟩,⟨1,[],[]⟩,⟨2,[],[]⟩,⟨3,[],[]⟩,⟨4,[],[]⟩,⟨5,[],[]⟩,⟨6,[],[]⟩,⟨7,[0],[]⟩,⟨8,[0],[]⟩,⟨9,[],[]⟩,⟨10,[0],[]⟩,⟨11,[0],[]⟩,⟨12,[],[]⟩,⟨13,[0],[]⟩,⟨14,[],[]⟩,⟨15,[],[]⟩,⟨16,[],[]⟩,⟨17,[],[]⟩,⟨18,[],[]⟩,⟨19,[],[]⟩,⟨20,[],[]⟩,⟨21,[],[]⟩,⟨22,[0],[]⟩,⟨23,[],[]⟩,⟨24,[],[]⟩,⟨25,[],[]⟩,⟨26,[],[]⟩,⟨27,[],[]⟩,⟨28,[],[]⟩,⟨29,[1],[1]⟩,⟨30,[],[]⟩]
theorem zCh {t:Tab} (hO:t.Mild) {x:Nat→Nat→Int} (hf:Fits t x) {i:Nat} (hi:i < t.R):∀ {k:Nat},k≤t.C→-(k * 2 ^ 34:Int)≤sumN k (x i)∧sumN k (x i)≤k * 2 ^ 34
 | 0,_=>by simp [sumN]
 | k+1,hk=>by
   have ih:=zCh hO hf hi (k:=k) (by omega)
   have h1:=hf.cell i k hi (by omega)
   have h2:=hO.cell_ok hi (show k < t.C by omega)
   have e:sumN (k+1) (x i)=sumN k (x i)+x i k:=rfl
   rw [e]
   omega
theorem zLb {T:TabV} (hT:T.Wf) (hO:T.tab.Mild) {c:CutA} (hc:c.Wf) (h1:c.l1.length=T.tab.R) (h2:c.l2.length=T.tab.C) {Y:Heap} {q C':Nat} {x:Nat→Nat→Int} (hE:AcEnv T c Y q C' x) (hC':T.tab.C=C'+1) (hf:Fits T.tab x) {i:Nat} (hi:i < T.tab.R) {l0:List AVal} {N0:Nat} (hN:l0.length=N0) (hb:N0 < 1000):∀ (n k:Nat) (j0 j2 j4 j6 j14 j15 j16 j17 j18 j19 j20 j21 j22 j23 j24 j25 j26 j27 j28 j29 j30 j31 j32 j33 j34 j35 j36 j37 j38 j39 j40 j41 j42 j43 j44 j45 j46 j47 j48 j49 j50 j51 j52 j53 j54 j55 j56 j57 j58 j59 j60 j61 j62 j63 j64 j65 j66 j67 j68 j69 j70 j71 j72 j73 j74 j75 j76 j77 j78 j79 j80 j81 j82 j83 j84 j85 j86 j87 j88 j89 j90 j91 j92 j93 j94 j95 j96 j97 j98 j99 j100 j101 j102 j103 j104 j105 j106 j107 j108 j109 j110 j111 j112 j113 j114 j115 j116 j117 j118 j119 j120 j121 j122 j123 j124 j125 j126 j127 j128 j129 j130 j131 j132 j133 j134 j135 j136 j137 j138 j139 j140 j141 j142 j143 j144 j145 j146 j147 j148 j149 j150 j151 j152 j153 j154 j155 j156 j157 j158 j159 j160 j161 j162 j163 j164 j165 j166 j167 j168 j169 j170 j171 j172 j173 j174 j175 j176 j177 j178 j179 j180 j181 j182 j183:AVal),k+n=T.tab.C →
    Goes (execT env (Try.f141.at [1,1,1,1,0,1,0,0,1,0,0,1,0,1,0]) ⟨[j0,.ref 0 T.tab.R 0 T.tab.R false,j2,.ptr q 0 0 0,j4,.ptr (q+1) 0 0 0,j6,.int .i64 T.tab.R,.int .i64 T.tab.C,.int .i64 ((T.tab.R+T.tab.C:Nat):Int),.ref (q+1+1) (N0+2 * k) 0 (N0+2 * k) false,.int .i64 i,.int .i64 (sumN k (x i)),.int .i64 k,j14,j15,j16,j17,j18,j19,j20,j21,j22,j23,j24,j25,j26,j27,j28,j29,j30,j31,j32,j33,j34,j35,j36,j37,j38,j39,j40,j41,j42,j43,j44,j45,j46,j47,j48,j49,j50,j51,j52,j53,j54,j55,j56,j57,j58,j59,j60,j61,j62,j63,j64,j65,j66,j67,j68,j69,j70,j71,j72,j73,j74,j75,j76,j77,j78,j79,j80,j81,j82,j83,j84,j85,j86,j87,j88,j89,j90,j91,j92,j93,j94,j95,j96,j97,j98,j99,j100,j101,j102,j103,j104,j105,j106,j107,j108,j109,j110,j111,j112,j113,j114,j115,j116,j117,j118,j119,j120,j121,j122,j123,j124,j125,j126,j127,j128,j129,j130,j131,j132,j133,j134,j135,j136,j137,j138,j139,j140,j141,j142,j143,j144,j145,j146,j147,j148,j149,j150,j151,j152,j153,j154,j155,j156,j157,j158,j159,j160,j161,j162,j163,j164,j165,j166,j167,j168,j169,j170,j171,j172,j173,j174,j175,j176,j177,j178,j179,j180,j181,j182,j183],Y++[accQ (l0++z2Q T.tab c x i k)],[],0,[10]⟩) fun ex st=>
     ex=.exit 2∧FrP 184 [(1,.ref 0 T.tab.R 0 T.tab.R false),(3,.ptr q 0 0 0),(5,.ptr (q+1) 0 0 0),(7,.int .i64 T.tab.R),(8,.int .i64 T.tab.C),(9,.int .i64 ((T.tab.R+T.tab.C:Nat):Int)),(10,.ref (q+1+1) (N0+2 * T.tab.C) 0 (N0+2 * T.tab.C) false),(11,.int .i64 i),(12,.int .i64 (sumN T.tab.C (x i)))] (Y++[accQ (l0++z2Q T.tab c x i T.tab.C)]) [] 0 [10] st:=by
 have hR8:=hO.R8
 have hC8:=hO.C8
 have ll:T.cells.length=T.tab.R:=by have:=hO.len;simpa [TabV.tab] using this
 have hYl:=hE.len
 have hbig:=hE.big
 intro n
 induction n with
 | zero=>
   intro k;intros;rename_i hk
   have hd:decide ((k:Int) < (T.tab.C:Int))=false:=by simp;omega
   have hk':k=T.tab.C:=by omega
   subst hk'
   simp only [go_sem,simprocAttr,Try.f141]
   rw [exec_loop]
   simp only [go_sem,simprocAttr,hd]
   exact frP (by kernel_rfl)
 | succ n ih=>
   intro k;intros;rename_i hk
   have hkC:k < T.tab.C:=by omega
   have hd:decide ((k:Int) < (T.tab.C:Int))=true:=by simp;omega
   have k0:(0:Int)≤(k:Int):=by omega
   have i0:(0:Int)≤(i:Int):=by omega
   have dR:decide ((i:Int) < (T.tab.R:Int))=true:=by simp;omega
   have dK:decide ((k:Int) < ((C'+1:Nat):Int))=true:=by simp;omega
   obtain ⟨s,_,q1,q2,q3,q4,_⟩:=TabV.at hT hO hi hkC
   have q3:=eq_true q3
   have bc:=hO.cell_ok hi hkC
   have bx:=hf.cell i k hi hkC
   have bs:=zCh hO hf hi (k:=k) (by omega)
   have lo:∀ z j,j < q+1+1→(Y++[z])[j]?=Y[j]?:=fun z j hj=>List.getElem?_append_left (by omega)
   have e0:=fun z=>(lo z q (by omega)).trans hE.own
   have e1:=fun z=>(lo z (q+1) (by omega)).trans hE.cut
   have e2:=fun z=>(lo z 0 (by omega)).trans hE.acc
   have e3:=fun z=>(lo z (1+i) (by omega)).trans (hE.row i hi)
   have hva:(vecA T.tab.R fun j=>AVal.ref (1+j) C' 0 (C'+1) false)[i]?=some (.ref (1+i) C' 0 (C'+1) false):=vecA_get _ hi
   have hgx:(intsV (C'+1) (x i))[k]?=some (.int .i64 (x i k)):=z0b (by omega)
   have icl:=z8F hc (i:=i) (k:=k) (by omega) (by omega)
   have w1:IntKind.i64.wrap (sumN k (x i)+x i k)=sumN (k+1) (x i):=i64_in _ (by omega)
   have w2:IntKind.i64.wrap ((T.tab.R:Int)+(k:Int))=((T.tab.R+k:Nat):Int):=by rw [i64_in _ (by omega)];omega
   have w3:IntKind.i64.wrap ((T.tab.cell i k).hi - x i k)=(T.tab.cell i k).hi - x i k:=i64_in _ (by omega)
   have w4:IntKind.i64.wrap (x i k - (T.tab.cell i k).lo)=x i k - (T.tab.cell i k).lo:=i64_in _ (by omega)
   have wI:IntKind.i64.wrap (0 - inI c i k)=- inI c i k:=by rw [i64_in _ (by unfold inI;split <;> omega)];omega
   have hL0:(l0++z2Q T.tab c x i k).length=N0+2 * k:=by rw [List.length_append,z3U,hN]
   have ap1:=z3c (H:=Y++[accQ (l0++z2Q T.tab c x i k)]) (id:=q+1+1) (n:=N0+2 * k) (es:=l0++z2Q T.tab c x i k) (a:=i) (b:=((T.tab.R+k:Nat):Int)) (r:=(T.tab.cell i k).hi - x i k) (g:=inI c i k) (z07 hYl _) hL0 (by omega) (q+1+1+1)
   have ap2:=z3c (H:=Y++[accQ (l0++z2Q T.tab c x i k++[arcA i ((T.tab.R+k:Nat):Int) ((T.tab.cell i k).hi - x i k) (inI c i k)])]) (id:=q+1+1) (n:=N0+2 * k+1) (es:=l0++z2Q T.tab c x i k++[arcA i ((T.tab.R+k:Nat):Int) ((T.tab.cell i k).hi - x i k) (inI c i k)]) (a:=((T.tab.R+k:Nat):Int)) (b:=i) (r:=x i k - (T.tab.cell i k).lo) (g:=- inI c i k) (z07 hYl _) (by rw [List.length_append,hL0];rfl) (by omega) (q+1+1+1)
   have eL:l0++z2Q T.tab c x i k++[arcA i ((T.tab.R+k:Nat):Int) ((T.tab.cell i k).hi - x i k) (inI c i k)]++[arcA ((T.tab.R+k:Nat):Int) i (x i k - (T.tab.cell i k).lo) (- inI c i k)]=l0++z2Q T.tab c x i (k+1):=by
    rw [z9U,List.append_assoc,List.append_assoc];rfl
   rw [eL] at ap2
   have eN:N0+2 * (k+1)=N0+2 * k+1+1:=by omega
   have hL:∀ z,(Y++[z]).length=q+1+1+1:=fun z=>z06 hYl z
   have hst:∀ z z',(Y++[z]).set (q+1+1) z'=Y++[z']:=fun z z'=>z0W hYl z z'
   have zD:(q+1+1 < q+1+1+1)=True:=eq_true (by omega)
   have y0:decide (0 < q+1+1+1)=true:=decide_eq_true (by omega)
   have y1:decide (1+i < q+1+1+1)=true:=decide_eq_true (by omega)
   have y2:decide (q < q+1+1+1)=true:=decide_eq_true (by omega)
   have y3:decide (q+1 < q+1+1+1)=true:=decide_eq_true (by omega)
   have y4:decide (q+1+1 < q+1+1+1)=true:=decide_eq_true (by omega)
   have htr:∀ Tm z,trunc (q+1+1+1) ⟨Tm,Y++[z],[],0,[10]⟩=⟨Tm,Y++[z],[],0,[10]⟩:=fun Tm z=>z3z (by rw [hL];exact Nat.le_refl _)
   have f0:fQ q 0=0:=zGe (by omega)
   have f1:fQ q (1+i)=0:=zGe (by omega)
   have f2:fQ q q=0:=zGe (by omega)
   have f3:fQ q (q+1)=0:=zGe (by omega)
   have f4:=zSO q
   have ih':=ih (k+1)
   rw [eN] at ih'
   simp only [arcA] at ap1 ap2
   simp only [go_sem,simprocAttr,Try.f141] at ih' ⊢
   rw [exec_loop]
   simp only [go_sem,simprocAttr,hd,e0,e1,e2,e3,hva,hgx,k0,i0,dR,dK,Int.toNat_natCast,List.length_map,ll,q1,q2,q3,q4,w1,w2,w3,icl,z73,ap1,hL,hst,zD,y0,y1,y2,y3,y4,hkC,Nat.zero_le]
   rw [apart_ok (z1S (f:=fQ q) (l':=zRl) (by simp [CovF,zRl,f0,f1,f2,f3,f4]) (z0C (by kernel_rfl)))]
   simp only [go_sem,simprocAttr,hd,e0,e1,e2,e3,hva,hgx,k0,i0,dR,dK,Int.toNat_natCast,List.length_map,ll,q1,q2,q3,q4,w1,w2,w4,wI,icl,z73,ap2,hL,hst,zD,y0,y1,y2,y3,y4,hkC,Nat.zero_le]
   rw [apart_ok (z1S (f:=fQ q) (l':=zRm) (by simp [CovF,zRm,f0,f1,f2,f3,f4]) (z0C (by kernel_rfl)))]
   simp only [go_sem,simprocAttr,hL,htr,z00 (show k < 2 ^ 63 - 1 by omega)]
   exact ih' _ _ _ _ _ _ _ _ _ _ _ _ _ _ _ _ _ _ _ _ _ _ _ _ _ _ _ _ _ _ _ _ _ _ _ _ _ _ _ _ _ _ _ _ _ _ _ _ _ _ _ _ _ _ _ _ _ _ _ _ _ _ _ _ _ _ _ _ _ _ _ _ _ _ _ _ _ _ _ _ _ _ _ _ _ _ _ _ _ _ _ _ _ _ _ _ _ _ _ _ _ _ _ _ _ _ _ _ _ _ _ _ _ _ _ _ _ _ _ _ _ _ _ _ _ _ _ _ _ _ _ _ _ _ _ _ _ _ _ _ _ _ _ _ _ _ _ _ _ _ _ _ _ _ _ _ _ _ _ _ _ _ _ _ _ _ _ _ _ _ _ _ _ _ (by omega)
set_option maxRecDepth 10000
set_option maxHeartbeats 4000000
structure Hd (ob cb:Blk) (H:Heap) (cnt:Nat) (rs cs:List Spn) (cells:List (List Spn)) (C:Nat):Prop where
 off:H[0]?=some ob
 cut:H[1]?=some cb
 at_:H[2]?=some (intB (2 * cnt))
 rows:H[3]?=some (accN (rs.map spV))
 cols:H[4]?=some (accN (cs.map spV))
 acc:H[5]?=some (accF (vecA cells.length fun i=>.ref (7+2 * i) C 0 C false))
 box:H[6]?=some (.cells 0 3 false [.agg [.ref 3 rs.length 0 rs.length false,.ref 4 cs.length 0 cs.length false,.ref 5 cells.length 0 cells.length false]])
 row:∀ i l,cells[i]?=some l→H[7+2 * i]?=some (.cells C 2 true (l.map spV))
theorem Hd.mono {ob cb:Blk} {H H':Heap} {cnt:Nat} {rs cs:List Spn} {cells:List (List Spn)} {C:Nat} (h:Hd ob cb H cnt rs cs cells C) (e:∀ j,j < 7+2 * cells.length→H'[j]?=H[j]?):Hd ob cb H' cnt rs cs cells C:=by
 refine ⟨?_,?_,?_,?_,?_,?_,?_,fun i l hi=>?_⟩
 · rw [e _ (by omega)];exact h.off
 · rw [e _ (by omega)];exact h.cut
 · rw [e _ (by omega)];exact h.at_
 · rw [e _ (by omega)];exact h.rows
 · rw [e _ (by omega)];exact h.cols
 · rw [e _ (by omega)];exact h.acc
 · rw [e _ (by omega)];exact h.box
 · have:i < cells.length:=(List.getElem?_eq_some_iff.1 hi).1
   rw [e _ (by omega)];exact h.row i l hi
def Arounds (l:List Int) (ys:List Spn):Prop:=ys.length=l.length∧∀ (i:Nat) (n:Int) (y:Spn),l[i]?=some n→ys[i]?=some y→zDD n y
theorem Arounds.push {l:List Int} {ys:List Spn} {k:Nat} {n:Int} {y:Spn} (h:Arounds (l.take k) ys) (hn:l[k]?=some n) (hy:zDD n y):Arounds (l.take (k+1)) (ys++[y]):=by
 have hk:k < l.length:=(List.getElem?_eq_some_iff.1 hn).1
 have hl:=h.1
 rw [List.length_take] at hl
 refine ⟨by rw [List.length_append,List.length_take,hl];simp;omega,fun i m z h1 h2=>?_⟩
 rw [List.getElem?_take] at h1
 split at h1
 · rename_i hi
   by_cases e:i=k
   · subst e
     rw [List.getElem?_append_right (by omega)] at h2
     rw [show i - ys.length=0 by omega] at h2
     rw [hn] at h1
     cases h1;cases h2
     exact hy
   · rw [List.getElem?_append_left (by omega)] at h2
     exact h.2 i m z (by rw [List.getElem?_take,if_pos (by omega)];exact h1) h2
 · cases h1
def Small (l:List Int):Prop:=∀ x ∈ l,0≤x∧x≤10 ^ 6
theorem Small.push {l:List Int} {k:Nat} {n:Int} (h:Small (l.take k)) (hn:l[k]?=some n) (h0:0≤n) (h1:n≤10 ^ 6):Small (l.take (k+1)):=fun x hx=>by
 rw [List.take_add_one,hn,List.mem_append] at hx
 rcases hx with hx | hx
 · exact h x hx
 · simp at hx;subst hx;exact ⟨h0,h1⟩
set_option maxRecDepth 10000
set_option maxHeartbeats 4000000
set_option maxRecDepth 10000
set_option maxHeartbeats 4000000
set_option maxRecDepth 10000
set_option maxHeartbeats 2000000
set_option maxRecDepth 10000
set_option maxHeartbeats 4000000
set_option maxRecDepth 10000
set_option maxHeartbeats 4000000
set_option maxRecDepth 10000
set_option maxHeartbeats 4000000
theorem TbG.mono {H H':Heap} {a b q ga gb g gr:Nat} {ps:Nat→Nat} {t:Tab} (h:TbG H a b q ga gb g ps gr t) (e:∀ j,j < H.length→H'[j]?=H[j]?):TbG H' a b q ga gb g ps gr t:=by
 have hl:∀ {j b},H[j]?=some b→j < H.length:=fun h=>(List.getElem?_eq_some_iff.1 h).1
 exact ⟨by rw [e _ (hl h.rows)];exact h.rows,by rw [e _ (hl h.cols)];exact h.cols,by rw [e _ (hl h.acc)];exact h.acc,fun i hi=>by rw [e _ (hl (h.row i hi))];exact h.row i hi,h.ab,h.aq,h.bq⟩
theorem Hd.tab {ob cb:Blk} {H:Heap} {cnt:Nat} {rs cs:List Spn} {cells:List (List Spn)} (h:Hd ob cb H cnt rs cs cells cs.length) (hR:cells.length=rs.length) (hR1:1≤rs.length) (hC1:1≤cs.length):TbG H 3 4 5 rs.length cs.length rs.length (fun i=>7+2 * i) cs.length ⟨rs,cs,cells⟩:=by
 have n1:rs.map spV ≠ []:=fun e=>by have:=congrArg List.length e;rw [List.length_map,List.length_nil] at this;omega
 have n2:cs.map spV ≠ []:=fun e=>by have:=congrArg List.length e;rw [List.length_map,List.length_nil] at this;omega
 have n3:(vecA cells.length fun i=>AVal.ref (7+2 * i) cs.length 0 cs.length false) ≠ []:=fun e=>by have:=congrArg List.length e;rw [z0E,List.length_nil] at this;omega
 have a1:=h.rows
 have a2:=h.cols
 have a3:=h.acc
 rw [z2p n1,List.length_map] at a1
 rw [z2p n2,List.length_map] at a2
 rw [accF,if_neg n3,z0E,hR] at a3
 refine ⟨a1,a2,a3,fun i hi=>?_,by decide,by decide,by decide⟩
 have hi:i < cells.length:=by rw [hR];exact hi
 have e:cells[i]?=some (cells.getD i []):=by rw [List.getD_eq_getElem?_getD,List.getElem?_eq_getElem hi];rfl
 exact h.row i _ e
set_option maxRecDepth 10000
set_option maxHeartbeats 4000000
def rowV (t:Tab) (x:Nat→Nat→Int) (i:Nat):List AVal:=[arcA ((t.R+t.C:Nat):Int) i ((t.row i).hi - sumN t.C (x i)) 0,arcA i ((t.R+t.C:Nat):Int) (sumN t.C (x i) - (t.row i).lo) 0]
def z5f (t:Tab) (c:CutA) (x:Nat→Nat→Int) (n:Nat):List AVal:=(List.range n).flatMap fun i=>z2Q t c x i t.C++rowV t x i
theorem zBn (t:Tab) (c:CutA) (x:Nat→Nat→Int) (n:Nat):z5f t c x (n+1)=z5f t c x n++(z2Q t c x n t.C++rowV t x n):=by
 unfold z5f
 rw [List.range_succ,List.flatMap_append];simp
def z50 (C n:Nat):Nat:=n * (2 * C+2)
theorem zBm (C n:Nat):z50 C (n+1)=z50 C n+2 * C+1+1:=by unfold z50;rw [Nat.succ_mul];omega
theorem z2h (t:Tab) (c:CutA) (x:Nat→Nat→Int):∀ n,(z5f t c x n).length=z50 t.C n
 | 0=>by simp [z5f,z50]
 | n+1=>by
   rw [zBn,List.length_append,List.length_append,z2h t c x n,z3U,zBm]
   show _+(_+2)=_
   omega
theorem zCu {C n:Nat} (hn:n≤8) (hC:C≤8):z50 C n≤144:=by
 unfold z50
 have:n * (2 * C+2)≤8 * 18:=Nat.mul_le_mul hn (by omega)
 omega
def colV (t:Tab) (x:Nat→Nat→Int) (k:Nat):List AVal:=[arcA ((t.R+k:Nat):Int) ((t.R+t.C:Nat):Int) ((t.col k).hi - sumN t.R fun i=>x i k) 0,arcA ((t.R+t.C:Nat):Int) ((t.R+k:Nat):Int) ((sumN t.R fun i=>x i k) - (t.col k).lo) 0]
def z5M (t:Tab) (x:Nat→Nat→Int) (n:Nat):List AVal:=(List.range n).flatMap (colV t x)
theorem zBM (t:Tab) (x:Nat→Nat→Int) (n:Nat):z5M t x (n+1)=z5M t x n++colV t x n:=by
 unfold z5M
 rw [List.range_succ,List.flatMap_append];simp
theorem z47 (t:Tab) (x:Nat→Nat→Int):∀ n,(z5M t x n).length=2 * n
 | 0=>rfl
 | n+1=>by rw [zBM,List.length_append,z47 t x n];show 2 * n+2=_;omega
theorem zOk {T:TabV} (hT:T.Wf) (hO:T.tab.Mild) {c:CutA} (hc:c.Wf) (h1:c.l1.length=T.tab.R) (h2:c.l2.length=T.tab.C) {Y:Heap} {q C':Nat} {x:Nat→Nat→Int} (hE:AcEnv T c Y q C' x) (hC':T.tab.C=C'+1) (hf:Fits T.tab x):∀ (n i:Nat) (j0 j2 j4 j6 j12 j13 j14 j15 j16 j17 j18 j19 j20 j21 j22 j23 j24 j25 j26 j27 j28 j29 j30 j31 j32 j33 j34 j35 j36 j37 j38 j39 j40 j41 j42 j43 j44 j45 j46 j47 j48 j49 j50 j51 j52 j53 j54 j55 j56 j57 j58 j59 j60 j61 j62 j63 j64 j65 j66 j67 j68 j69 j70 j71 j72 j73 j74 j75 j76 j77 j78 j79 j80 j81 j82 j83 j84 j85 j86 j87 j88 j89 j90 j91 j92 j93 j94 j95 j96 j97 j98 j99 j100 j101 j102 j103 j104 j105 j106 j107 j108 j109 j110 j111 j112 j113 j114 j115 j116 j117 j118 j119 j120 j121 j122 j123 j124 j125 j126 j127 j128 j129 j130 j131 j132 j133 j134 j135 j136 j137 j138 j139 j140 j141 j142 j143 j144 j145 j146 j147 j148 j149 j150 j151 j152 j153 j154 j155 j156 j157 j158 j159 j160 j161 j162 j163 j164 j165 j166 j167 j168 j169 j170 j171 j172 j173 j174 j175 j176 j177 j178 j179 j180 j181 j182 j183:AVal),i+n=T.tab.R →
    Goes (execT env (Try.f141.at [1,1,1,1,0,1,0]) ⟨[j0,.ref 0 T.tab.R 0 T.tab.R false,j2,.ptr q 0 0 0,j4,.ptr (q+1) 0 0 0,j6,.int .i64 T.tab.R,.int .i64 T.tab.C,.int .i64 ((T.tab.R+T.tab.C:Nat):Int),.ref (q+1+1) (z50 T.tab.C i) 0 (z50 T.tab.C i) false,.int .i64 i,j12,j13,j14,j15,j16,j17,j18,j19,j20,j21,j22,j23,j24,j25,j26,j27,j28,j29,j30,j31,j32,j33,j34,j35,j36,j37,j38,j39,j40,j41,j42,j43,j44,j45,j46,j47,j48,j49,j50,j51,j52,j53,j54,j55,j56,j57,j58,j59,j60,j61,j62,j63,j64,j65,j66,j67,j68,j69,j70,j71,j72,j73,j74,j75,j76,j77,j78,j79,j80,j81,j82,j83,j84,j85,j86,j87,j88,j89,j90,j91,j92,j93,j94,j95,j96,j97,j98,j99,j100,j101,j102,j103,j104,j105,j106,j107,j108,j109,j110,j111,j112,j113,j114,j115,j116,j117,j118,j119,j120,j121,j122,j123,j124,j125,j126,j127,j128,j129,j130,j131,j132,j133,j134,j135,j136,j137,j138,j139,j140,j141,j142,j143,j144,j145,j146,j147,j148,j149,j150,j151,j152,j153,j154,j155,j156,j157,j158,j159,j160,j161,j162,j163,j164,j165,j166,j167,j168,j169,j170,j171,j172,j173,j174,j175,j176,j177,j178,j179,j180,j181,j182,j183],Y++[accQ (z5f T.tab c x i)],[],0,[10]⟩) fun ex st=>
     ex=.exit 0∧FrP 184 [(1,.ref 0 T.tab.R 0 T.tab.R false),(3,.ptr q 0 0 0),(5,.ptr (q+1) 0 0 0),(7,.int .i64 T.tab.R),(8,.int .i64 T.tab.C),(9,.int .i64 ((T.tab.R+T.tab.C:Nat):Int)),(10,.ref (q+1+1) (z50 T.tab.C T.tab.R) 0 (z50 T.tab.C T.tab.R) false)] (Y++[accQ (z5f T.tab c x T.tab.R)]) [] 0 [10] st:=by
 have hR8:=hO.R8
 have hC8:=hO.C8
 have lr:(T.rows.l.map spV).length=T.tab.R:=by rw [List.length_map];rfl
 have hYl:=hE.len
 have hbig:=hE.big
 intro n
 induction n with
 | zero=>
   intro i;intros;rename_i hi
   have hd:decide ((i:Int) < (T.tab.R:Int))=false:=by simp;omega
   have hi':i=T.tab.R:=by omega
   subst hi'
   simp only [go_sem,simprocAttr,Try.f141]
   rw [exec_loop]
   simp only [go_sem,simprocAttr,hd]
   exact frP (by kernel_rfl)
 | succ n ih=>
   intro i;intros;rename_i hi
   have hiR:i < T.tab.R:=by omega
   have hd:decide ((i:Int) < (T.tab.R:Int))=true:=by simp;omega
   have i0:(0:Int)≤(i:Int):=by omega
   have hNl:=zCu (n:=i) (C:=T.tab.C) (by omega) hC8
   obtain ⟨ex,st,hx,hp⟩:=zLb hT hO hc h1 h2 hE hC' hf hiR (z2h T.tab c x i) (by omega) T.tab.C 0 _ _ _ _ _ _ _ _ _ _ _ _ _ _ _ _ _ _ _ _ _ _ _ _ _ _ _ _ _ _ _ _ _ _ _ _ _ _ _ _ _ _ _ _ _ _ _ _ _ _ _ _ _ _ _ _ _ _ _ _ _ _ _ _ _ _ _ _ _ _ _ _ _ _ _ _ _ _ _ _ _ _ _ _ _ _ _ _ _ _ _ _ _ _ _ _ _ _ _ _ _ _ _ _ _ _ _ _ _ _ _ _ _ _ _ _ _ _ _ _ _ _ _ _ _ _ _ _ _ _ _ _ _ _ _ _ _ _ _ _ _ _ _ _ _ _ _ _ _ _ _ _ _ _ _ _ _ _ _ _ _ _ _ _ _ _ _ _ _ _ _ _ _ _ (by omega)
   obtain ⟨rfl,jp,rfl⟩:=hp
   obtain ⟨gr,hrs⟩:=TabV.rowAt hT hiR
   have hrs:=eq_true hrs
   have br:=hO.row_ok hiR
   have bs:=zCh hO hf hiR (k:=T.tab.C) (Nat.le_refl _)
   have lo:∀ z j,j < q+1+1→(Y++[z])[j]?=Y[j]?:=fun z j hj=>List.getElem?_append_left (by omega)
   have e0:=fun z=>(lo z q (by omega)).trans hE.own
   have w3:IntKind.i64.wrap ((T.tab.row i).hi - sumN T.tab.C (x i))=(T.tab.row i).hi - sumN T.tab.C (x i):=i64_in _ (by omega)
   have w4:IntKind.i64.wrap (sumN T.tab.C (x i) - (T.tab.row i).lo)=sumN T.tab.C (x i) - (T.tab.row i).lo:=i64_in _ (by omega)
   have hL0:(z5f T.tab c x i++z2Q T.tab c x i T.tab.C).length=z50 T.tab.C i+2 * T.tab.C:=by rw [List.length_append,z3U,z2h]
   have ap1:=z3c (H:=Y++[accQ (z5f T.tab c x i++z2Q T.tab c x i T.tab.C)]) (id:=q+1+1) (n:=z50 T.tab.C i+2 * T.tab.C) (es:=z5f T.tab c x i++z2Q T.tab c x i T.tab.C) (a:=((T.tab.R+T.tab.C:Nat):Int)) (b:=i) (r:=(T.tab.row i).hi - sumN T.tab.C (x i)) (g:=0) (z07 hYl _) hL0 (by omega) (q+1+1+1)
   have ap2:=z3c (H:=Y++[accQ (z5f T.tab c x i++z2Q T.tab c x i T.tab.C++[arcA ((T.tab.R+T.tab.C:Nat):Int) i ((T.tab.row i).hi - sumN T.tab.C (x i)) 0])]) (id:=q+1+1) (n:=z50 T.tab.C i+2 * T.tab.C+1) (es:=z5f T.tab c x i++z2Q T.tab c x i T.tab.C++[arcA ((T.tab.R+T.tab.C:Nat):Int) i ((T.tab.row i).hi - sumN T.tab.C (x i)) 0]) (a:=i) (b:=((T.tab.R+T.tab.C:Nat):Int)) (r:=sumN T.tab.C (x i) - (T.tab.row i).lo) (g:=0) (z07 hYl _) (by rw [List.length_append,hL0];rfl) (by omega) (q+1+1+1)
   have eL:z5f T.tab c x i++z2Q T.tab c x i T.tab.C++[arcA ((T.tab.R+T.tab.C:Nat):Int) i ((T.tab.row i).hi - sumN T.tab.C (x i)) 0]++[arcA i ((T.tab.R+T.tab.C:Nat):Int) (sumN T.tab.C (x i) - (T.tab.row i).lo) 0]=z5f T.tab c x (i+1):=by
    rw [zBn,List.append_assoc,List.append_assoc];rfl
   rw [eL] at ap2
   have hL:∀ z,(Y++[z]).length=q+1+1+1:=fun z=>z06 hYl z
   have hst:∀ z z',(Y++[z]).set (q+1+1) z'=Y++[z']:=fun z z'=>z0W hYl z z'
   have zD:(q+1+1 < q+1+1+1)=True:=eq_true (by omega)
   have htr:∀ Tm z,trunc (q+1+1+1) ⟨Tm,Y++[z],[],0,[10]⟩=⟨Tm,Y++[z],[],0,[10]⟩:=fun Tm z=>z3z (by rw [hL];exact Nat.le_refl _)
   have ih':=ih (i+1)
   rw [zBm] at ih'
   have c00:z2Q T.tab c x i 0=[]:=rfl
   have s00:sumN 0 (x i)=0:=rfl
   rw [c00,s00,List.append_nil] at hx
   simp only [arcA] at ap1 ap2
   simp only [go_sem,simprocAttr,Try.f141,Int.ofNat_zero,Int.natCast_zero,Nat.mul_zero,Nat.add_zero] at hx
   simp only [go_sem,simprocAttr,Try.f141] at ih' ⊢
   rw [exec_loop]
   simp only [go_sem,simprocAttr,hd,hL]
   rw [hx]
   simp only [go_sem,simprocAttr,e0,gr,hrs,i0,Int.toNat_natCast,lr,w3,w4,z73,ap1,ap2,hL,hst,zD,htr,z00 (show i < 2 ^ 63 - 1 by omega),Nat.zero_le]
   exact ih' _ _ _ _ _ _ _ _ _ _ _ _ _ _ _ _ _ _ _ _ _ _ _ _ _ _ _ _ _ _ _ _ _ _ _ _ _ _ _ _ _ _ _ _ _ _ _ _ _ _ _ _ _ _ _ _ _ _ _ _ _ _ _ _ _ _ _ _ _ _ _ _ _ _ _ _ _ _ _ _ _ _ _ _ _ _ _ _ _ _ _ _ _ _ _ _ _ _ _ _ _ _ _ _ _ _ _ _ _ _ _ _ _ _ _ _ _ _ _ _ _ _ _ _ _ _ _ _ _ _ _ _ _ _ _ _ _ _ _ _ _ _ _ _ _ _ _ _ _ _ _ _ _ _ _ _ _ _ _ _ _ _ _ _ _ _ _ _ _ _ _ _ _ _ _ _ (by omega)
theorem zCg {t:Tab} (hO:t.Mild) {x:Nat→Nat→Int} (hf:Fits t x) {k:Nat} (hk:k < t.C):∀ {n:Nat},n≤t.R→-(n * 2 ^ 34:Int)≤(sumN n fun i=>x i k)∧(sumN n fun i=>x i k)≤n * 2 ^ 34
 | 0,_=>by simp [sumN]
 | n+1,hn=>by
   have ih:=zCg hO hf hk (n:=n) (by omega)
   have h1:=hf.cell n k (by omega) hk
   have h2:=hO.cell_ok (show n < t.R by omega) hk
   have e:(sumN (n+1) fun i=>x i k)=(sumN n fun i=>x i k)+x n k:=rfl
   rw [e]
   omega
theorem zIs {T:TabV} (hO:T.tab.Mild) {c:CutA} {Y:Heap} {q C':Nat} {x:Nat→Nat→Int} (hE:AcEnv T c Y q C' x) (hC':T.tab.C=C'+1) (hf:Fits T.tab x) {k:Nat} (hk:k < T.tab.C) {v10:AVal} {z:Blk}:∀ (n i:Nat) (j0 j2 j4 j6 j11 j12 j13 j17 j18 j19 j20 j21 j22 j23 j24 j25 j26 j27 j28 j29 j30 j31 j32 j33 j34 j35 j36 j37 j38 j39 j40 j41 j42 j43 j44 j45 j46 j47 j48 j49 j50 j51 j52 j53 j54 j55 j56 j57 j58 j59 j60 j61 j62 j63 j64 j65 j66 j67 j68 j69 j70 j71 j72 j73 j74 j75 j76 j77 j78 j79 j80 j81 j82 j83 j84 j85 j86 j87 j88 j89 j90 j91 j92 j93 j94 j95 j96 j97 j98 j99 j100 j101 j102 j103 j104 j105 j106 j107 j108 j109 j110 j111 j112 j113 j114 j115 j116 j117 j118 j119 j120 j121 j122 j123 j124 j125 j126 j127 j128 j129 j130 j131 j132 j133 j134 j135 j136 j137 j138 j139 j140 j141 j142 j143 j144 j145 j146 j147 j148 j149 j150 j151 j152 j153 j154 j155 j156 j157 j158 j159 j160 j161 j162 j163 j164 j165 j166 j167 j168 j169 j170 j171 j172 j173 j174 j175 j176 j177 j178 j179 j180 j181 j182 j183:AVal),i+n=T.tab.R →
    Goes (execT env (Try.f141.at [1,1,1,1,1,0,1,0,0,1,0,0,1,0,1,0]) ⟨[j0,.ref 0 T.tab.R 0 T.tab.R false,j2,.ptr q 0 0 0,j4,.ptr (q+1) 0 0 0,j6,.int .i64 T.tab.R,.int .i64 T.tab.C,.int .i64 ((T.tab.R+T.tab.C:Nat):Int),v10,j11,j12,j13,.int .i64 k,.int .i64 (sumN i fun j=>x j k),.int .i64 i,j17,j18,j19,j20,j21,j22,j23,j24,j25,j26,j27,j28,j29,j30,j31,j32,j33,j34,j35,j36,j37,j38,j39,j40,j41,j42,j43,j44,j45,j46,j47,j48,j49,j50,j51,j52,j53,j54,j55,j56,j57,j58,j59,j60,j61,j62,j63,j64,j65,j66,j67,j68,j69,j70,j71,j72,j73,j74,j75,j76,j77,j78,j79,j80,j81,j82,j83,j84,j85,j86,j87,j88,j89,j90,j91,j92,j93,j94,j95,j96,j97,j98,j99,j100,j101,j102,j103,j104,j105,j106,j107,j108,j109,j110,j111,j112,j113,j114,j115,j116,j117,j118,j119,j120,j121,j122,j123,j124,j125,j126,j127,j128,j129,j130,j131,j132,j133,j134,j135,j136,j137,j138,j139,j140,j141,j142,j143,j144,j145,j146,j147,j148,j149,j150,j151,j152,j153,j154,j155,j156,j157,j158,j159,j160,j161,j162,j163,j164,j165,j166,j167,j168,j169,j170,j171,j172,j173,j174,j175,j176,j177,j178,j179,j180,j181,j182,j183],Y++[z],[],0,[10]⟩) fun ex st=>
     ex=.exit 6∧FrP 184 [(1,.ref 0 T.tab.R 0 T.tab.R false),(3,.ptr q 0 0 0),(5,.ptr (q+1) 0 0 0),(7,.int .i64 T.tab.R),(8,.int .i64 T.tab.C),(9,.int .i64 ((T.tab.R+T.tab.C:Nat):Int)),(10,v10),(14,.int .i64 k),(15,.int .i64 (sumN T.tab.R fun j=>x j k))] (Y++[z]) [] 0 [10] st:=by
 have hR8:=hO.R8
 have hC8:=hO.C8
 have hYl:=hE.len
 have hbig:=hE.big
 intro n
 induction n with
 | zero=>
   intro i;intros;rename_i hi
   have hd:decide ((i:Int) < (T.tab.R:Int))=false:=by simp;omega
   have hi':i=T.tab.R:=by omega
   subst hi'
   simp only [go_sem,simprocAttr,Try.f141]
   rw [exec_loop]
   simp only [go_sem,simprocAttr,hd]
   exact frP (by kernel_rfl)
 | succ n ih=>
   intro i;intros;rename_i hi
   have hiR:i < T.tab.R:=by omega
   have hd:decide ((i:Int) < (T.tab.R:Int))=true:=by simp;omega
   have i0:(0:Int)≤(i:Int):=by omega
   have k0:(0:Int)≤(k:Int):=by omega
   have dK:decide ((k:Int) < ((C'+1:Nat):Int))=true:=by simp;omega
   have bx:=hf.cell i k hiR hk
   have bc:=hO.cell_ok hiR hk
   have bs:=zCg hO hf hk (n:=i) (by omega)
   have lo:∀ j,j < q+1+1→(Y++[z])[j]?=Y[j]?:=fun j hj=>List.getElem?_append_left (by omega)
   have e2:=(lo 0 (by omega)).trans hE.acc
   have e3:=(lo (1+i) (by omega)).trans (hE.row i hiR)
   have hva:(vecA T.tab.R fun j=>AVal.ref (1+j) C' 0 (C'+1) false)[i]?=some (.ref (1+i) C' 0 (C'+1) false):=vecA_get _ hiR
   have hgx:(intsV (C'+1) (x i))[k]?=some (.int .i64 (x i k)):=z0b (by omega)
   have w1:IntKind.i64.wrap ((sumN i fun j=>x j k)+x i k)=sumN (i+1) fun j=>x j k:=i64_in _ (by omega)
   have ih':=ih (i+1)
   simp only [go_sem,simprocAttr,Try.f141] at ih' ⊢
   rw [exec_loop]
   simp only [go_sem,simprocAttr,hd,e2,e3,hva,hgx,k0,i0,dK,Int.toNat_natCast,w1,z00 (show i < 2 ^ 63 - 1 by omega),Nat.le_refl]
   exact ih' _ _ _ _ _ _ _ _ _ _ _ _ _ _ _ _ _ _ _ _ _ _ _ _ _ _ _ _ _ _ _ _ _ _ _ _ _ _ _ _ _ _ _ _ _ _ _ _ _ _ _ _ _ _ _ _ _ _ _ _ _ _ _ _ _ _ _ _ _ _ _ _ _ _ _ _ _ _ _ _ _ _ _ _ _ _ _ _ _ _ _ _ _ _ _ _ _ _ _ _ _ _ _ _ _ _ _ _ _ _ _ _ _ _ _ _ _ _ _ _ _ _ _ _ _ _ _ _ _ _ _ _ _ _ _ _ _ _ _ _ _ _ _ _ _ _ _ _ _ _ _ _ _ _ _ _ _ _ _ _ _ _ _ _ _ _ _ _ _ _ _ _ _ _ (by omega)
theorem zOj {T:TabV} (hT:T.Wf) (hO:T.tab.Mild) {c:CutA} {Y:Heap} {q C':Nat} {x:Nat→Nat→Int} (hE:AcEnv T c Y q C' x) (hC':T.tab.C=C'+1) (hf:Fits T.tab x) {l0:List AVal} {N0:Nat} (hN:l0.length=N0) (hb:N0 < 1000):∀ (n k:Nat) (j0 j2 j4 j6 j11 j12 j13 j15 j16 j17 j18 j19 j20 j21 j22 j23 j24 j25 j26 j27 j28 j29 j30 j31 j32 j33 j34 j35 j36 j37 j38 j39 j40 j41 j42 j43 j44 j45 j46 j47 j48 j49 j50 j51 j52 j53 j54 j55 j56 j57 j58 j59 j60 j61 j62 j63 j64 j65 j66 j67 j68 j69 j70 j71 j72 j73 j74 j75 j76 j77 j78 j79 j80 j81 j82 j83 j84 j85 j86 j87 j88 j89 j90 j91 j92 j93 j94 j95 j96 j97 j98 j99 j100 j101 j102 j103 j104 j105 j106 j107 j108 j109 j110 j111 j112 j113 j114 j115 j116 j117 j118 j119 j120 j121 j122 j123 j124 j125 j126 j127 j128 j129 j130 j131 j132 j133 j134 j135 j136 j137 j138 j139 j140 j141 j142 j143 j144 j145 j146 j147 j148 j149 j150 j151 j152 j153 j154 j155 j156 j157 j158 j159 j160 j161 j162 j163 j164 j165 j166 j167 j168 j169 j170 j171 j172 j173 j174 j175 j176 j177 j178 j179 j180 j181 j182 j183:AVal),k+n=T.tab.C →
    Goes (execT env (Try.f141.at [1,1,1,1,1,0,1,0]) ⟨[j0,.ref 0 T.tab.R 0 T.tab.R false,j2,.ptr q 0 0 0,j4,.ptr (q+1) 0 0 0,j6,.int .i64 T.tab.R,.int .i64 T.tab.C,.int .i64 ((T.tab.R+T.tab.C:Nat):Int),.ref (q+1+1) (N0+2 * k) 0 (N0+2 * k) false,j11,j12,j13,.int .i64 k,j15,j16,j17,j18,j19,j20,j21,j22,j23,j24,j25,j26,j27,j28,j29,j30,j31,j32,j33,j34,j35,j36,j37,j38,j39,j40,j41,j42,j43,j44,j45,j46,j47,j48,j49,j50,j51,j52,j53,j54,j55,j56,j57,j58,j59,j60,j61,j62,j63,j64,j65,j66,j67,j68,j69,j70,j71,j72,j73,j74,j75,j76,j77,j78,j79,j80,j81,j82,j83,j84,j85,j86,j87,j88,j89,j90,j91,j92,j93,j94,j95,j96,j97,j98,j99,j100,j101,j102,j103,j104,j105,j106,j107,j108,j109,j110,j111,j112,j113,j114,j115,j116,j117,j118,j119,j120,j121,j122,j123,j124,j125,j126,j127,j128,j129,j130,j131,j132,j133,j134,j135,j136,j137,j138,j139,j140,j141,j142,j143,j144,j145,j146,j147,j148,j149,j150,j151,j152,j153,j154,j155,j156,j157,j158,j159,j160,j161,j162,j163,j164,j165,j166,j167,j168,j169,j170,j171,j172,j173,j174,j175,j176,j177,j178,j179,j180,j181,j182,j183],Y++[accQ (l0++z5M T.tab x k)],[],0,[10]⟩) fun ex st=>
     ex=.exit 4∧FrP 184 [(10,.ref (q+1+1) (N0+2 * T.tab.C) 0 (N0+2 * T.tab.C) false)] (Y++[accQ (l0++z5M T.tab x T.tab.C)]) [] 0 [10] st:=by
 have hR8:=hO.R8
 have hC8:=hO.C8
 have lc:(T.cols.l.map spV).length=T.tab.C:=by rw [List.length_map];rfl
 have hYl:=hE.len
 have hbig:=hE.big
 intro n
 induction n with
 | zero=>
   intro k;intros;rename_i hk
   have hd:decide ((k:Int) < (T.tab.C:Int))=false:=by simp;omega
   have hk':k=T.tab.C:=by omega
   subst hk'
   simp only [go_sem,simprocAttr,Try.f141]
   rw [exec_loop]
   simp only [go_sem,simprocAttr,hd]
   exact frP (by kernel_rfl)
 | succ n ih=>
   intro k;intros;rename_i hk
   have hkC:k < T.tab.C:=by omega
   have hd:decide ((k:Int) < (T.tab.C:Int))=true:=by simp;omega
   have k0:(0:Int)≤(k:Int):=by omega
   obtain ⟨ex,st,hx,hp⟩:=zIs hO hE hC' hf hkC (v10:=.ref (q+1+1) (N0+2 * k) 0 (N0+2 * k) false) (z:=accQ (l0++z5M T.tab x k)) T.tab.R 0 _ _ _ _ _ _ _ _ _ _ _ _ _ _ _ _ _ _ _ _ _ _ _ _ _ _ _ _ _ _ _ _ _ _ _ _ _ _ _ _ _ _ _ _ _ _ _ _ _ _ _ _ _ _ _ _ _ _ _ _ _ _ _ _ _ _ _ _ _ _ _ _ _ _ _ _ _ _ _ _ _ _ _ _ _ _ _ _ _ _ _ _ _ _ _ _ _ _ _ _ _ _ _ _ _ _ _ _ _ _ _ _ _ _ _ _ _ _ _ _ _ _ _ _ _ _ _ _ _ _ _ _ _ _ _ _ _ _ _ _ _ _ _ _ _ _ _ _ _ _ _ _ _ _ _ _ _ _ _ _ _ _ _ _ _ _ _ _ _ _ _ _ _ _ (by omega)
   obtain ⟨rfl,jp,rfl⟩:=hp
   obtain ⟨gc,hcs⟩:=TabV.colAt hT hkC
   have hcs:=eq_true hcs
   have bc:=hO.col_ok hkC
   have bs:=zCg hO hf hkC (n:=T.tab.R) (Nat.le_refl _)
   have lo:∀ z j,j < q+1+1→(Y++[z])[j]?=Y[j]?:=fun z j hj=>List.getElem?_append_left (by omega)
   have e0:=fun z=>(lo z q (by omega)).trans hE.own
   have w2:IntKind.i64.wrap ((T.tab.R:Int)+(k:Int))=((T.tab.R+k:Nat):Int):=by rw [i64_in _ (by omega)];omega
   have w3:IntKind.i64.wrap ((T.tab.col k).hi - sumN T.tab.R fun j=>x j k)=(T.tab.col k).hi - sumN T.tab.R fun j=>x j k:=i64_in _ (by omega)
   have w4:IntKind.i64.wrap ((sumN T.tab.R fun j=>x j k) - (T.tab.col k).lo)=(sumN T.tab.R fun j=>x j k) - (T.tab.col k).lo:=i64_in _ (by omega)
   have hL0:(l0++z5M T.tab x k).length=N0+2 * k:=by rw [List.length_append,z47,hN]
   have ap1:=z3c (H:=Y++[accQ (l0++z5M T.tab x k)]) (id:=q+1+1) (n:=N0+2 * k) (es:=l0++z5M T.tab x k) (a:=((T.tab.R+k:Nat):Int)) (b:=((T.tab.R+T.tab.C:Nat):Int)) (r:=(T.tab.col k).hi - sumN T.tab.R fun j=>x j k) (g:=0) (z07 hYl _) hL0 (by omega) (q+1+1+1)
   have ap2:=z3c (H:=Y++[accQ (l0++z5M T.tab x k++[arcA ((T.tab.R+k:Nat):Int) ((T.tab.R+T.tab.C:Nat):Int) ((T.tab.col k).hi - sumN T.tab.R fun j=>x j k) 0])]) (id:=q+1+1) (n:=N0+2 * k+1) (es:=l0++z5M T.tab x k++[arcA ((T.tab.R+k:Nat):Int) ((T.tab.R+T.tab.C:Nat):Int) ((T.tab.col k).hi - sumN T.tab.R fun j=>x j k) 0]) (a:=((T.tab.R+T.tab.C:Nat):Int)) (b:=((T.tab.R+k:Nat):Int)) (r:=(sumN T.tab.R fun j=>x j k) - (T.tab.col k).lo) (g:=0) (z07 hYl _) (by rw [List.length_append,hL0];rfl) (by omega) (q+1+1+1)
   have eL:l0++z5M T.tab x k++[arcA ((T.tab.R+k:Nat):Int) ((T.tab.R+T.tab.C:Nat):Int) ((T.tab.col k).hi - sumN T.tab.R fun j=>x j k) 0]++[arcA ((T.tab.R+T.tab.C:Nat):Int) ((T.tab.R+k:Nat):Int) ((sumN T.tab.R fun j=>x j k) - (T.tab.col k).lo) 0]=l0++z5M T.tab x (k+1):=by
    rw [zBM,List.append_assoc,List.append_assoc];rfl
   rw [eL] at ap2
   have eN:N0+2 * (k+1)=N0+2 * k+1+1:=by omega
   have hL:∀ z,(Y++[z]).length=q+1+1+1:=fun z=>z06 hYl z
   have hst:∀ z z',(Y++[z]).set (q+1+1) z'=Y++[z']:=fun z z'=>z0W hYl z z'
   have zD:(q+1+1 < q+1+1+1)=True:=eq_true (by omega)
   have htr:∀ Tm z,trunc (q+1+1+1) ⟨Tm,Y++[z],[],0,[10]⟩=⟨Tm,Y++[z],[],0,[10]⟩:=fun Tm z=>z3z (by rw [hL];exact Nat.le_refl _)
   have ih':=ih (k+1)
   rw [eN] at ih'
   have s00:(sumN 0 fun j=>x j k)=0:=rfl
   rw [s00] at hx
   simp only [arcA] at ap1 ap2
   simp only [go_sem,simprocAttr,Try.f141,Int.ofNat_zero,Int.natCast_zero] at hx
   simp only [go_sem,simprocAttr,Try.f141] at ih' ⊢
   rw [exec_loop]
   simp only [go_sem,simprocAttr,hd,hL]
   rw [hx]
   simp only [go_sem,simprocAttr,e0,gc,hcs,k0,Int.toNat_natCast,lc,w2,w3,w4,z73,ap1,ap2,hL,hst,zD,htr,z00 (show k < 2 ^ 63 - 1 by omega),Nat.zero_le]
   exact ih' _ _ _ _ _ _ _ _ _ _ _ _ _ _ _ _ _ _ _ _ _ _ _ _ _ _ _ _ _ _ _ _ _ _ _ _ _ _ _ _ _ _ _ _ _ _ _ _ _ _ _ _ _ _ _ _ _ _ _ _ _ _ _ _ _ _ _ _ _ _ _ _ _ _ _ _ _ _ _ _ _ _ _ _ _ _ _ _ _ _ _ _ _ _ _ _ _ _ _ _ _ _ _ _ _ _ _ _ _ _ _ _ _ _ _ _ _ _ _ _ _ _ _ _ _ _ _ _ _ _ _ _ _ _ _ _ _ _ _ _ _ _ _ _ _ _ _ _ _ _ _ _ _ _ _ _ _ _ _ _ _ _ _ _ _ _ _ _ _ _ _ _ _ _ _ _ (by omega)
def z6N (t:Tab) (c:CutA) (x:Nat→Nat→Int):List AVal:=z5f t c x t.R++z5M t x t.C
theorem zLl {T:TabV} (hT:T.Wf) (hO:T.tab.Mild) {c:CutA} (hc:c.Wf) (h1:c.l1.length=T.tab.R) (h2:c.l2.length=T.tab.C) {X:Heap} {C':Nat} {x:Nat→Nat→Int} (hC':T.tab.C=C'+1) (hf:Fits T.tab x) (hXl:X.length=T.tab.R+1)
    (ha:X[0]?=some (.cells T.tab.R 1 false (vecA T.tab.R fun j=>.ref (1+j) C' 0 (C'+1) false))) (hr:∀ j,j < T.tab.R→X[1+j]?=some (.cells C' 1 true (intsV (C'+1) (x j)))):
    runT env 141 [T.v,.ref 0 T.tab.R 0 T.tab.R false,c.v] X 0=some (.ret (.ref (T.tab.R+1+1+1) (z50 T.tab.C T.tab.R+2 * T.tab.C) 0 (z50 T.tab.C T.tab.R+2 * T.tab.C) false),X++[boxT T]++[.cells 0 2 false [c.v]]++[accQ (z6N T.tab c x)]):=by
 have hR8:=hO.R8
 have hC8:=hO.C8
 have lr:(T.rows.l.map spV).length=T.tab.R:=by rw [List.length_map];rfl
 have lc:(T.cols.l.map spV).length=T.tab.C:=by rw [List.length_map];rfl
 have k1:=fun z:Blk=>z06 hXl z
 have k2:=fun z z':Blk=>z06 (k1 z) z'
 have k3:=fun z z' z'':Blk=>z06 (k2 z z') z''
 have hE:AcEnv T c (X++[boxT T]++[.cells 0 2 false [c.v]]) (T.tab.R+1) C' x:=by
  refine ⟨?_,z07 (k1 _) _,?_,fun j hj=>?_,k2 _ _,by omega⟩
  · rw [List.getElem?_append_left (by rw [k1];omega)];exact z07 hXl _
  · rw [List.getElem?_append_left (by rw [k1];omega),List.getElem?_append_left (by omega)];exact ha
  · rw [List.getElem?_append_left (by rw [k1];omega),List.getElem?_append_left (by omega)];exact hr j hj
 have hNl:=zCu (n:=T.tab.R) (C:=T.tab.C) hR8 hC8
 obtain ⟨ex,st,hx,hp⟩:=zOk hT hO hc h1 h2 hE hC' hf T.tab.R 0 _ _ _ _ _ _ _ _ _ _ _ _ _ _ _ _ _ _ _ _ _ _ _ _ _ _ _ _ _ _ _ _ _ _ _ _ _ _ _ _ _ _ _ _ _ _ _ _ _ _ _ _ _ _ _ _ _ _ _ _ _ _ _ _ _ _ _ _ _ _ _ _ _ _ _ _ _ _ _ _ _ _ _ _ _ _ _ _ _ _ _ _ _ _ _ _ _ _ _ _ _ _ _ _ _ _ _ _ _ _ _ _ _ _ _ _ _ _ _ _ _ _ _ _ _ _ _ _ _ _ _ _ _ _ _ _ _ _ _ _ _ _ _ _ _ _ _ _ _ _ _ _ _ _ _ _ _ _ _ _ _ _ _ _ _ _ _ _ _ _ _ _ _ _ _ _ (by omega)
 obtain ⟨rfl,jp,rfl⟩:=hp
 obtain ⟨ex2,st2,hx2,hp2⟩:=zOj hT hO hE hC' hf (z2h T.tab c x T.tab.R) (by omega) T.tab.C 0 _ _ _ _ _ _ _ _ _ _ _ _ _ _ _ _ _ _ _ _ _ _ _ _ _ _ _ _ _ _ _ _ _ _ _ _ _ _ _ _ _ _ _ _ _ _ _ _ _ _ _ _ _ _ _ _ _ _ _ _ _ _ _ _ _ _ _ _ _ _ _ _ _ _ _ _ _ _ _ _ _ _ _ _ _ _ _ _ _ _ _ _ _ _ _ _ _ _ _ _ _ _ _ _ _ _ _ _ _ _ _ _ _ _ _ _ _ _ _ _ _ _ _ _ _ _ _ _ _ _ _ _ _ _ _ _ _ _ _ _ _ _ _ _ _ _ _ _ _ _ _ _ _ _ _ _ _ _ _ _ _ _ _ _ _ _ _ _ _ _ _ _ _ _ _ _ (by omega)
 obtain ⟨rfl,jq,rfl⟩:=hp2
 have r00:z5f T.tab c x 0=[]:=rfl
 have n00:z50 T.tab.C 0=0:=by unfold z50;omega
 have a00:accQ []=.cells 0 0 false []:=rfl
 have c00:z5M T.tab x 0=[]:=rfl
 rw [r00,n00,a00] at hx
 rw [c00,List.append_nil] at hx2
 have wRC:IntKind.i64.wrap ((T.tab.R:Int)+(T.tab.C:Int))=((T.tab.R+T.tab.C:Nat):Int):=by rw [i64_in _ (by omega)];omega
 have g1:=fun z=>z07 hXl z
 have g2:∀ z z':Blk,(X++[z]++[z'])[T.tab.R+1]?=some z:=fun z z'=>by rw [List.getElem?_append_left (by rw [k1];omega)];exact z07 hXl _
 have y2:decide (T.tab.R+1 < T.tab.R+1+1+1)=true:=decide_eq_true (by omega)
 simp only [go_sem,simprocAttr,Try.f141,boxT,Int.ofNat_zero,Int.natCast_zero,Nat.mul_zero,Nat.add_zero] at hx hx2
 rw [run_unfold fn141 rfl]
 simp only [go_sem,simprocAttr,Try.f141,hXl,k1,k2,k3,g1,g2,lr,lc,y2,wRC]
 rw [hx]
 simp only [go_sem,simprocAttr]
 rw [hx2]
 simp only [go_sem,simprocAttr,unwind,modeEx,resultsOf,one,boxT]
 rfl
set_option maxRecDepth 10000
set_option maxHeartbeats 4000000
def stpV (w:Res):AVal:=arcA w.start w.to w.room w.gain
theorem zMp {t:Tab} {c:CutA} {i k:Nat} (hi:i < t.R) (hk:k < t.C):z0U (blkL t.C c t.R) (i * t.C+k)=inI c i k:=by
 unfold z0U inI
 by_cases h:(c.l1.getD i false && c.l2.getD k false)=true
 · rw [if_pos ((zCd hi hk).2 h),if_pos h]
 · rw [if_neg (fun e=>h ((zCd hi hk).1 e)),if_neg h]
theorem zGy {t:Tab} {c:CutA} {j:Nat} (h:t.R * t.C≤j):z0U (blkL t.C c t.R) j=0:=if_neg (zFU h)
section
variable {t:Tab} {c:CutA} {x:Nat→Nat→Int}
theorem zM3 {i k:Nat} (hi:i < t.R) (hk:k < t.C):((zM2 t (t.flow x) (z0U (blkL t.C c t.R)) i k).map (rnW (t.R+t.C))).map stpV=zM1 t c x i k:=by
 obtain ⟨e1,e2,e3⟩:=t.net_cell hi hk
 have h1:t.net.hi (i * t.C+k)=(t.cell i k).hi:=by show (t.span _).hi=_;rw [e3]
 have h2:t.net.lo (i * t.C+k)=(t.cell i k).lo:=by show (t.span _).lo=_;rw [e3]
 have n1:rnN (t.R+t.C) (1+i)=i:=by unfold rnN;rw [if_neg (by omega)];omega
 have n2:rnN (t.R+t.C) (1+t.R+k)=t.R+k:=by unfold rnN;rw [if_neg (by omega)];omega
 simp only [zM2,zM1,List.map_cons,List.map_nil,stpV,rnW,Net.fwd,Net.bwd,e1,e2,h1,h2,n1,n2,t.flow_cell x hi hk,zMp hi hk]
theorem zQE {i:Nat} (hi:i < t.R):((rowW t (t.flow x) (z0U (blkL t.C c t.R)) i).map (rnW (t.R+t.C))).map stpV=rowV t x i:=by
 obtain ⟨e1,e2,e3⟩:=t.net_row hi
 have h1:t.net.hi (t.R * t.C+i)=(t.row i).hi:=by show (t.span _).hi=_;rw [e3]
 have h2:t.net.lo (t.R * t.C+i)=(t.row i).lo:=by show (t.span _).lo=_;rw [e3]
 have n1:rnN (t.R+t.C) (1+i)=i:=by unfold rnN;rw [if_neg (by omega)];omega
 have n2:rnN (t.R+t.C) 0=t.R+t.C:=rfl
 have hp:z0U (blkL t.C c t.R) (t.R * t.C+i)=0:=zGy (by omega)
 have z:(-0:Int)=0:=rfl
 simp only [rowW,rowV,List.map_cons,List.map_nil,stpV,rnW,Net.fwd,Net.bwd,e1,e2,h1,h2,n1,n2,t.flow_row x hi,hp,z]
theorem zPH {k:Nat} (hk:k < t.C):((colW t (t.flow x) (z0U (blkL t.C c t.R)) k).map (rnW (t.R+t.C))).map stpV=colV t x k:=by
 obtain ⟨e1,e2,e3⟩:=t.net_col (k:=k)
 have h1:t.net.hi (t.R * t.C+t.R+k)=(t.col k).hi:=by show (t.span _).hi=_;rw [e3]
 have h2:t.net.lo (t.R * t.C+t.R+k)=(t.col k).lo:=by show (t.span _).lo=_;rw [e3]
 have n1:rnN (t.R+t.C) (1+t.R+k)=t.R+k:=by unfold rnN;rw [if_neg (by omega)];omega
 have n2:rnN (t.R+t.C) 0=t.R+t.C:=rfl
 have hp:z0U (blkL t.C c t.R) (t.R * t.C+t.R+k)=0:=zGy (by omega)
 have z:(-0:Int)=0:=rfl
 simp only [colW,colV,List.map_cons,List.map_nil,stpV,rnW,Net.fwd,Net.bwd,e1,e2,h1,h2,n1,n2,t.flow_col x,hp,z]
theorem z94 {α β:Type} {f:Nat→List α} {g:α→β} {h:Nat→List β}:∀ {n:Nat},(∀ i,i < n→(f i).map g=h i)→((List.range n).flatMap f).map g=(List.range n).flatMap h
 | 0,_=>rfl
 | n+1,e=>by
   rw [List.range_succ,List.flatMap_append,List.flatMap_append,List.map_append,z94 fun i hi=>e i (by omega)]
   simp [e n (by omega)]
theorem zL7:(z5E t (t.flow x) (z0U (blkL t.C c t.R))).map stpV=z6N t c x:=by
 unfold z5E refW zQF zPI z6N z5f z5M
 rw [List.map_map,List.map_append]
 congr 1
 · refine z94 fun i hi=>?_
   rw [List.map_append]
   congr 1
   · exact z94 fun k hk=>by rw [← zM3 hi hk,List.map_map]
   · rw [← zQE (c:=c) hi,List.map_map]
 · exact z94 fun k hk=>by rw [← zPH (c:=c) hk,List.map_map]
end
theorem zJ0 {T:TabV} (hT:T.Wf) (hO:T.tab.Mild) {c:CutA} (hc:c.Wf) (h1:c.l1.length=T.tab.R) (h2:c.l2.length=T.tab.C) {H:Heap} {P C':Nat} {x:Nat→Nat→Int} (hC':T.tab.C=C'+1) (hf:Fits T.tab x) (hM:MatAt H P T.tab.R C' x) (nx:Nat):
    ∃ us,callT env 141 [T.v,.ref P T.tab.R 0 T.tab.R false,c.v] 0 H nx=some (.ret (.lit false 4 (z6N T.tab c x)),.ups us)∧(∀ u ∈ us,H[u.1]?=some u.2):=by
 have hR8:=hO.R8
 have hC8:=hO.C8
 obtain ⟨R,hR⟩:∃ R,R=T.tab.R:=⟨_,rfl⟩
 obtain ⟨ids,hids⟩:∃ ids:List Nat,ids=(List.range R).map fun j=>P+1+j:=⟨_,rfl⟩
 have idl:ids.length=R:=by rw [hids];simp
 have idm:∀ id ∈ ids,∃ j,j < R∧id=P+1+j:=fun id h=>by
  rw [hids] at h
  obtain ⟨j,hj,rfl⟩:=List.mem_map.1 h
  exact ⟨j,List.mem_range.1 hj,rfl⟩
 have idg:∀ j,j < R→ids[j]?=some (P+1+j):=fun j hj=>by rw [hids,List.getElem?_map,List.getElem?_range hj];rfl
 have ids_nd:ids.Nodup:=by
  rw [hids]
  exact z7Y fun i j h _=>by omega
 have hle:lend H (env.hint 141).lits [T.v,.ref P T.tab.R 0 T.tab.R false,c.v] 0=some ([T.v,.ref P T.tab.R 0 T.tab.R false,c.v],[]):=by
  have h141:(env.hint 141).lits=[0,2]:=rfl
  have hw:noRef T.v=true:=rfl
  have hw2:noRef c.v=true:=rfl
  rw [h141]
  simp [lend,hw,hw2]
 have hrl:refsL (vecA T.tab.R fun j=>AVal.ref (P+1+j) C' 0 (C'+1) false)=ids:=by
  rw [hids,hR]
  unfold vecA
  induction (List.range T.tab.R) with
  | nil=>rfl
  | cons i l ih=>simp [refsL,AVal.refs,ih]
 have hflat:∀ id ∈ ids,∃ g sz es,H[id]?=some (.cells g sz true es):=fun id h=>by
  obtain ⟨j,hj,rfl⟩:=idm id h
  exact ⟨_,_,_,hM.row j (by omega)⟩
 have hrefs:refsL [T.v,.ref P T.tab.R 0 T.tab.R false,c.v]=[P]:=by
  simp [refsL,AVal.refs,TabV.refs,CutA.refs]
 have hre:reach H fuel0 [P] []=some (P :: ids):=by
  have h:=zAI (H:=H) ids [P] 63 hflat ids_nd (fun id hid=>by
   obtain ⟨j,hj,rfl⟩:=idm id hid
   simp;omega) (by omega)
  unfold fuel0
  simp only [reach,List.contains_nil,Bool.false_eq_true,if_false,hM.acc,List.nil_append,hrl]
  exact h
 have hg:getAll H (P :: ids)=some (.cells T.tab.R 1 false (vecA T.tab.R fun j=>.ref (P+1+j) C' 0 (C'+1) false) :: ((List.range R).map fun j=>Blk.cells C' 1 true (intsV (C'+1) (x j)))):=by
  have gen:∀ l:List Nat,(∀ j ∈ l,j < R)→getAll H (l.map fun j=>P+1+j)=some (l.map fun j=>Blk.cells C' 1 true (intsV (C'+1) (x j))):=by
   intro l
   induction l with
   | nil=>intro _;rfl
   | cons j l ih=>
     intro h
     simp only [List.map_cons,getAll,hM.row j (by have:=h j (by simp);omega),ih fun i hi=>h i (by simp [hi])]
  have:=gen (List.range R) fun j hj=>List.mem_range.1 hj
  rw [← hids] at this
  simp only [getAll,hM.acc,this]
 have idxP:idx (P :: ids) P=some 0:=by simp [idx,List.findIdx?_cons]
 have idxJ:∀ j,j < R→idx (P :: ids) (P+1+j)=some (1+j):=fun j hj=>by
  obtain ⟨k,e1,e2,e3⟩:=zO7 (l:=P :: ids) (p:=P+1+j) (List.mem_cons_of_mem _ (List.mem_of_getElem? (idg j hj)))
  have hk:k=1+j:=by
   cases k with
   | zero=>
     rw [List.getElem?_cons_zero] at e3
     have:=Option.some.inj e3
     omega
   | succ k=>
     rw [List.getElem?_cons_succ] at e3
     have hk:k < R:=by rw [← idl];exact (List.getElem?_eq_some_iff.1 e3).1
     rw [idg k hk] at e3
     have:=Option.some.inj e3
     omega
  rw [e1,hk]
 have hacc':renL (idx (P :: ids)) (vecA T.tab.R fun j=>.ref (P+1+j) C' 0 (C'+1) false)=vecA T.tab.R fun j=>.ref (1+j) C' 0 (C'+1) false:=by
  have gen:∀ l:List Nat,(∀ j ∈ l,j < R)→renL (idx (P :: ids)) (l.map fun j=>AVal.ref (P+1+j) C' 0 (C'+1) false)=l.map fun j=>AVal.ref (1+j) C' 0 (C'+1) false:=by
   intro l
   induction l with
   | nil=>intro _;rfl
   | cons j l ih=>
     intro h
     simp only [List.map_cons,renL,AVal.ren,idxJ j (h j (by simp)),ih fun i hi=>h i (by simp [hi])]
  exact gen _ fun j hj=>by rw [hR];exact List.mem_range.1 hj
 obtain ⟨X,hX⟩:∃ X:Heap,X=Blk.cells T.tab.R 1 false (vecA T.tab.R fun j=>.ref (1+j) C' 0 (C'+1) false) :: ((List.range R).map fun j=>Blk.cells C' 1 true (intsV (C'+1) (x j))):=⟨_,rfl⟩
 have hbs:((Blk.cells T.tab.R 1 false (vecA T.tab.R fun j=>.ref (P+1+j) C' 0 (C'+1) false) :: ((List.range R).map fun j=>Blk.cells C' 1 true (intsV (C'+1) (x j)))).map (renB (idx (P :: ids))))=X:=by
  rw [hX,List.map_cons,List.map_map]
  congr 1
  simp only [renB,Bool.false_eq_true,if_false,hacc']
 have hXl:X.length=T.tab.R+1:=by rw [hX,List.length_cons,List.length_map,List.length_range,hR]
 have hrun:=zLl hT hO hc h1 h2 (X:=X) hC' hf hXl (by rw [hX];rfl) (fun j hj=>by
  rw [hX,show 1+j=j+1 by omega,List.getElem?_cons_succ,List.getElem?_map,List.getElem?_range (by omega)];rfl)
 obtain ⟨N,hN⟩:∃ N,N=z50 T.tab.C T.tab.R+2 * T.tab.C:=⟨_,rfl⟩
 rw [← hN] at hrun
 have hlen:(z6N T.tab c x).length=N:=by
  unfold z6N
  rw [List.length_append,z2h,z47,hN]
 obtain ⟨N',hN'⟩:∃ N',N=N'+1:=⟨N - 1,by have:=hO.C1;omega⟩
 have hfl:(P :: ids).length=T.tab.R+1:=by rw [List.length_cons,idl,hR]
 have hargs:renL (idx (P :: ids)) [T.v,.ref P T.tab.R 0 T.tab.R false,c.v]=[T.v,.ref 0 T.tab.R 0 T.tab.R false,c.v]:=by
  have r1:T.v.ren (idx (P :: ids))=T.v:=(ren_noRef _).1 _ rfl
  have r2:c.v.ren (idx (P :: ids))=c.v:=(ren_noRef _).1 _ rfl
  simp only [renL,r1,r2,AVal.ren,idxP]
 have hQ:((X++[boxT T]++[Blk.cells 0 2 false [c.v]]++[accQ (z6N T.tab c x)]):Heap)[T.tab.R+1+1+1]?=some (.cells N 4 true (z6N T.tab c x)):=by
  rw [z07 (z06 (z06 hXl _) _),zOl (by rw [hlen,hN']),hN']
 have hhb:handBack (X++[boxT T]++[Blk.cells 0 2 false [c.v]]++[accQ (z6N T.tab c x)]) (P :: ids).length [] 4 (.ref (T.tab.R+1+1+1) N 0 N false)=some (.lit false 4 (z6N T.tab c x)):=by
  have htk:(z6N T.tab c x).take N=z6N T.tab c x:=List.take_of_length_le (by omega)
  rw [hfl]
  generalize (X++[boxT T]++[Blk.cells 0 2 false [c.v]]++[accQ (z6N T.tab c x)]:Heap)=Z at hQ
  have h3:T.tab.R≤T.tab.R+1+1:=by omega
  simp [handBack,toLit,noRef,AVal.under,hQ,hlen,htk,h3]
 have mc:=zF0 (f:=141) (H:=H) (ro:=0) (nx:=nx) rfl rfl rfl rfl hle (by rw [hrefs];exact hre) hg (by simp) (by rw [hargs,hbs];exact hrun) hhb
 have hnr:noRef (.lit false 4 (z6N T.tab c x))=true:=rfl
 rw [(ren_noRef _).1 _ hnr] at mc
 refine ⟨_,mc,fun u hu=>?_⟩
 have htake:(X++[boxT T]++[Blk.cells 0 2 false [c.v]]++[accQ (z6N T.tab c x)]).take (P :: ids).length=X:=by
  rw [List.append_assoc,List.append_assoc]
  exact List.take_left' (by rw [hfl,hXl])
 rw [htake] at hu
 obtain ⟨k,hk⟩:=List.getElem?_of_mem hu
 have hku:=List.getElem?_zip_eq_some.1 hk
 obtain ⟨e1,e2⟩:=hku
 rw [List.getElem?_map] at e2
 cases k with
 | zero=>
   rw [List.getElem?_cons_zero] at e1
   have e1:=Option.some.inj e1
   rw [← e1,hM.acc]
   rw [hX,List.getElem?_cons_zero,Option.map_some] at e2
   rw [← Option.some.inj e2]
   have hbk:renL (backF nx (P :: ids) []) (vecA T.tab.R fun j=>.ref (1+j) C' 0 (C'+1) false)=vecA T.tab.R fun j=>.ref (P+1+j) C' 0 (C'+1) false:=by
    have gen:∀ l:List Nat,(∀ j ∈ l,j < R)→renL (backF nx (P :: ids) []) (l.map fun j=>AVal.ref (1+j) C' 0 (C'+1) false)=l.map fun j=>AVal.ref (P+1+j) C' 0 (C'+1) false:=by
     intro l
     induction l with
     | nil=>intro _;rfl
     | cons j l ih=>
       intro h
       have hj:=h j (by simp)
       have hb:backF nx (P :: ids) [] (1+j)=some (P+1+j):=by
        unfold backF
        rw [if_pos (by rw [hfl];omega),show 1+j=j+1 by omega,List.getElem?_cons_succ,idg j hj]
       simp only [List.map_cons,renL,AVal.ren,hb,ih fun i hi=>h i (by simp [hi])]
    exact gen _ fun j hj=>by rw [hR];exact List.mem_range.1 hj
   simp only [renB,Bool.false_eq_true,if_false,hbk]
 | succ k=>
   rw [List.getElem?_cons_succ] at e1
   have hkR:k < R:=by rw [← idl];exact (List.getElem?_eq_some_iff.1 e1).1
   rw [idg k hkR] at e1
   have e1:=Option.some.inj e1
   rw [← e1,hM.row k (by omega)]
   rw [hX,List.getElem?_cons_succ,List.getElem?_map,List.getElem?_range hkR] at e2
   exact congrArg some (Option.some.inj e2)
end Go.Proofs.Ytgfejpngfikjiaa.Tidy
