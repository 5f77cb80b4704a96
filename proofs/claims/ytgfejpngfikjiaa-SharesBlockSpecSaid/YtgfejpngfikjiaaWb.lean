/-
 What the functions that SharesBlockSpec reaches compute;the law,run.
-/
import Derived.Test.YtgfejpngfikjiaaCb
import Derived.Test.YtgfejpngfikjiaaWa
import Derived.Test.YtgfejpngfikjiaaCf
import Derived.Test.YtgfejpngfikjiaaCe
set_option linter.all false
namespace Go.Proofs.Ytgfejpngfikjiaa.Tidy
open Go Go.IntWalk
set_option maxRecDepth 10000
set_option linter.unusedSimpArgs false
set_option maxHeartbeats 2000000
set_option maxRecDepth 10000
set_option maxHeartbeats 2000000
theorem z3q (T:TabV) (i k:Int) (ro:Nat) (H:Heap) (nx:Nat):callT env 117 [T.v,.int .i64 i,.int .i64 k] ro H nx=some (.ret (.bool !outB T.tab i k),.ups []):=by
 have:∃ H',runT env 117 [T.v,.int .i64 i,.int .i64 k] [] 0=some (.ret (.bool !outB T.tab i k),H'):=by
  have lr:T.rows.l.length=T.tab.R:=rfl
  have lc:T.cols.l.length=T.tab.C:=rfl
  have n1:decide (0≤i)=!decide (i < 0):=by rw [← decide_not];exact decide_eq_decide.2 (by omega)
  have n2:decide (i < (T.tab.R:Int))=!decide ((T.tab.R:Int)≤i):=by rw [← decide_not];exact decide_eq_decide.2 (by omega)
  have n3:decide (0≤k)=!decide (k < 0):=by rw [← decide_not];exact decide_eq_decide.2 (by omega)
  have n4:decide (k < (T.tab.C:Int))=!decide ((T.tab.C:Int)≤k):=by rw [← decide_not];exact decide_eq_decide.2 (by omega)
  rw [run_unfold fn117 rfl]
  unfold outB
  cases d1:decide (i < 0) <;> cases d2:decide ((T.tab.R:Int)≤i) <;> cases d3:decide (k < 0) <;> cases d4:decide ((T.tab.C:Int)≤k) <;> rw [d1] at n1 <;> rw [d2] at n2 <;> rw [d3] at n3 <;> rw [d4] at n4 <;>
   (simp only [go_sem,simprocAttr,Try.f117,List.length_map,lr,lc,n1,n2,n3,n4,unwind,modeEx,resultsOf,one]
    exact ⟨_,rfl⟩)
 obtain ⟨H',h⟩:=this
 exact call_pure rfl rfl rfl (by simp [underL,AVal.under,TabV.under]) h rfl ro H nx
theorem z36 {T:TabV} (hT:T.Wf) (i k:Int) (ro:Nat) (H:Heap) (nx:Nat):callT env 84 [T.v,.int .i64 i,.int .i64 k] ro H nx=some (.ret (.int .i64 (askS T.tab i k)),.ups []):=by
 have:∃ H',runT env 84 [T.v,.int .i64 i,.int .i64 k] [] 0=some (.ret (.int .i64 (askS T.tab i k)),H'):=by
  have ck:=z1a T hT
  have ic:=z3q T i k
  rw [run_unfold fn84 rfl]
  unfold askS
  cases hok:T.tab.ok with
  | false=>
    simp only [go_sem,simprocAttr,Try.f84,ck,z29 hok,unwind,modeEx,resultsOf,one,Bool.false_eq_true,if_false]
    exact ⟨_,rfl⟩
  | true=>
    have cc:=zGB hT (Tab.ok_iff.1 hok)
    cases hcan:canB T.tab with
    | false=>
      rw [hcan] at cc
      simp only [go_sem,simprocAttr,Try.f84,ck,z0R hok,cc,unwind,modeEx,resultsOf,one,if_true,Bool.false_eq_true,if_false]
      exact ⟨_,rfl⟩
    | true=>
      rw [hcan] at cc
      cases ho:outB T.tab i k <;> rw [ho] at ic <;>
       (simp only [go_sem,simprocAttr,Try.f84,ck,z0R hok,cc,ic,unwind,modeEx,resultsOf,one,if_true,Bool.false_eq_true,if_false]
        exact ⟨_,rfl⟩)
 obtain ⟨H',h⟩:=this
 exact call_pure rfl rfl rfl (by simp [underL,AVal.under,TabV.under]) h rfl ro H nx
set_option maxRecDepth 10000
set_option maxHeartbeats 4000000
theorem zDv {T:TabV} (hT:T.Wf) (hO:T.tab.Mild) {r c:Nat} (hr:r < T.tab.R) (hc:c < T.tab.C) (x:Spn) (hx:-(2 ^ 34)≤x.lo∧x.hi≤2 ^ 34∧x.lo≤x.hi):
    ∃ (gc:Nat) (X:Heap) (p:Nat) (acc:List AVal),callT env 89 [T.v] 0 [boxT T] 1=some (.ret (.agg [.ref 3 1 0 T.tab.R false,.ref 4 1 0 T.tab.C false,.ref 5 gc 0 T.tab.R false]),.ups (numbered 1 X)) ∧
     putU [boxT T] (numbered 1 X)=boxT T :: X ∧
     (boxT T :: (X++[.cells 0 3 false [.agg [.ref 3 1 0 T.tab.R false,.ref 4 1 0 T.tab.C false,.ref 5 gc 0 T.tab.R false]]]))[5]?=some (.cells gc 1 false acc) ∧
     acc[r]?=some (.ref p 0 0 T.tab.C false) ∧
     (boxT T :: (X++[.cells 0 3 false [.agg [.ref 3 1 0 T.tab.R false,.ref 4 1 0 T.tab.C false,.ref 5 gc 0 T.tab.R false]]]))[p]?=some (.cells 0 2 true (rowA T.tab r)) ∧
     (p < X.length+1+1)=True ∧
     ((boxT T :: (X++[.cells 0 3 false [.agg [.ref 3 1 0 T.tab.R false,.ref 4 1 0 T.tab.C false,.ref 5 gc 0 T.tab.R false]]])).set p (.cells 0 2 true ((rowA T.tab r).set c (spV x))))[X.length+1]?=some (.cells 0 3 false [.agg [.ref 3 1 0 T.tab.R false,.ref 4 1 0 T.tab.C false,.ref 5 gc 0 T.tab.R false]]) ∧
     callT env 75 [.agg [.ref 3 1 0 T.tab.R false,.ref 4 1 0 T.tab.C false,.ref 5 gc 0 T.tab.R false]] 0 ((boxT T :: (X++[.cells 0 3 false [.agg [.ref 3 1 0 T.tab.R false,.ref 4 1 0 T.tab.C false,.ref 5 gc 0 T.tab.R false]]])).set p (.cells 0 2 true ((rowA T.tab r).set c (spV x)))) (X.length+1+1)=some (.ret (.bool (canB (T.tab.setCell r c x))),.ups []) ∧
     ∀ Tm ro V,trunc 1 ⟨Tm,(boxT T :: (X++[.cells 0 3 false [.agg [.ref 3 1 0 T.tab.R false,.ref 4 1 0 T.tab.C false,.ref 5 gc 0 T.tab.R false]]])).set p (.cells 0 2 true ((rowA T.tab r).set c (spV x))),[],ro,V⟩=⟨Tm.map (scrub 1),[boxT T],[],ro,V⟩:=by
 obtain ⟨gc,cl⟩:=z2A hT hO
 have cl:=cl 0 [boxT T] 1
 have at0:=z3G hO [boxT T] gc
 have hpu:=z0e (cpX T 1 gc) [boxT T]
 have H1:([boxT T]:Heap).length=1:=rfl
 have hps:∀ i,cpP 1 i ≠ 0:=fun i=>by unfold cpP;omega
 rw [H1] at at0 hpu
 generalize hX:cpX T 1 gc=X at cl at0 hpu
 generalize hp:cpP 1=ps at at0 hps
 have at1:=at0.more [.cells 0 3 false [memT T.tab (1+2) (1+3) (1+4) 1 1 gc]]
 have at2:=at1.write (k:=c) hO.len hr x
 obtain ⟨l1,l2,l3,l4⟩:=at1.lt
 have l4:=l4 r hr
 have hlen2:(([boxT T]++X)++[Blk.cells 0 3 false [memT T.tab (1+2) (1+3) (1+4) 1 1 gc]]).length=X.length+1+1:=by
  rw [List.length_append,List.length_append,H1];simp only [List.length_cons,List.length_nil];omega
 have hO2:(T.tab.setCell r c x).Mild:=z8r hO hr hc hx
 have hpne:ps r ≠ X.length+1:=fun e=>by
  have:=at0.lt.2.2.2 r hr
  rw [List.length_append,H1] at this
  omega
 have hcan:=zC3 (z1G hO2.R8 hO2.C8 hO2.len hO2.wid) (by rw [z0M];exact hO2)
 rw [z0M] at hcan
 obtain ⟨Hm,mr⟩:=hcan
 obtain ⟨ids,hle⟩:=at2.lend (lits:=[0]) hO2.R8 hO2.len hO2.wid rfl (args:=[]) rfl
 obtain ⟨us,mc,hus⟩:=z1z (f:=75) rfl rfl rfl rfl hle z0d mr (handBack_noRef _ _ _ _ _ rfl) rfl (X.length+1+1)
 have hus:=hus rfl
 subst hus
 refine ⟨gc,X,ps r,vecA T.tab.R fun i=>.ref (ps i) 0 0 T.tab.C false,cl,hpu,at1.acc,vecA_get _ hr,at1.row r hr,eq_true (by rw [hlen2] at l4;exact l4),?_,mc,fun Tm ro V=>?_⟩
 · show ((([boxT T]++X)++[Blk.cells 0 3 false [memT T.tab (1+2) (1+3) (1+4) 1 1 gc]]).set (ps r) _)[X.length+1]?=_
   rw [List.getElem?_set_ne hpne]
   exact z07 (by rw [List.length_append,H1];omega) _
 · obtain ⟨q,hq⟩:∃ q,ps r=q+1:=⟨ps r - 1,by have:=hps r;omega⟩
   rw [hq,List.set_cons_succ]
   unfold trunc
   have h1:¬ ((boxT T :: (X++[Blk.cells 0 3 false [.agg [.ref 3 1 0 T.tab.R false,.ref 4 1 0 T.tab.C false,.ref 5 gc 0 T.tab.R false]]]).set q (Blk.cells 0 2 true ((rowA T.tab r).set c (spV x)))).length≤1):=by
    simp only [List.length_cons,List.length_set,List.length_append,List.length_nil];omega
   simp only [h1,if_false,List.take_succ_cons,List.take_zero,List.all_cons,List.all_nil,Bool.and_true]
   have h2:underB 1 (boxT T)=true:=by simp [underB,boxT,underL,TabV.under]
   simp only [h2,if_true]
structure Least (t:Tab) (r c:Nat) (v:Int):Prop where
 at_:∃ s,Fits t s∧s r c=v
 all:∀ s,Fits t s→v≤s r c
structure Great (t:Tab) (r c:Nat) (v:Int):Prop where
 at_:∃ s,Fits t s∧s r c=v
 all:∀ s,Fits t s→s r c≤v
theorem z1Z {t:Tab} (hO:t.Mild) {r c:Nat} (hr:r < t.R) (hc:c < t.C) {x:Spn} (h1:(t.cell r c).lo≤x.lo) (h2:x.hi≤(t.cell r c).hi) (s:Nat→Nat→Int):Fits (t.setCell r c x) s ↔ Fits t s∧x.lo≤s r c∧s r c≤x.hi:=by
 have hs:=fun i k=>z2H hO x hr hc i k
 constructor
 · intro h
   have h0:=h.cell r c hr hc
   rw [hs,if_pos ⟨rfl,rfl⟩] at h0
   refine ⟨⟨fun i k hi hk=>?_,fun i hi=>h.row i hi,fun k hk=>h.col k hk⟩,h0⟩
   have h3:=h.cell i k hi hk
   rw [hs] at h3
   by_cases h4:i=r∧k=c
   · obtain ⟨rfl,rfl⟩:=h4;omega
   · rwa [if_neg h4] at h3
 · rintro ⟨h,h3⟩
   refine ⟨fun i k hi hk=>?_,fun i hi=>h.row i hi,fun k hk=>h.col k hk⟩
   rw [hs]
   by_cases h4:i=r∧k=c
   · obtain ⟨rfl,rfl⟩:=h4;rw [if_pos ⟨rfl,rfl⟩];exact h3
   · rw [if_neg h4];exact h.cell i k hi hk
theorem zP6 {t:Tab} (hO:t.Mild) {r c:Nat} (hr:r < t.R) (hc:c < t.C) {v m:Int} (hv:Least t r c v) (h2:m≤(t.cell r c).hi):canB (t.setCell r c ⟨(t.cell r c).lo,m⟩)=decide (v≤m):=by
 rw [Bool.eq_iff_iff,z0S,decide_eq_true_eq]
 have hf:=z1Z hO hr hc (x:=⟨(t.cell r c).lo,m⟩) (Int.le_refl _) h2
 constructor
 · rintro ⟨s,hs⟩
   have:=(hf s).1 hs
   have h3:=hv.all s this.1
   have:s r c≤m:=this.2.2
   omega
 · intro hm
   obtain ⟨s,hs,e⟩:=hv.at_
   have:=hs.cell r c hr hc
   exact ⟨s,(hf s).2 ⟨hs,by show (t.cell r c).lo≤s r c;omega,by show s r c≤m;omega⟩⟩
theorem zPo {T:TabV} (hT:T.Wf) (hO:T.tab.Mild) {r c:Nat} (hr:r < T.tab.R) (hc:c < T.tab.C) {v:Int} (hv:Least T.tab r c v):∀ (n:Nat) (lo hi:Int) (j0 j4 j5 j6 j9 j10 j11 j12 j13 j14 j15 j16 j17 j18 j19 j20 j21 j22 j23 j24 j25 j26 j27 j28 j29 j30 j31 j32 j33 j34 j35 j36 j37 j38 j39 j40 j41 j42 j43 j44 j45 j46 j47 j48 j49 j50 j51 j52 j53 j54:AVal),hi - lo < n→(T.tab.cell r c).lo≤lo→lo≤v→v≤hi→hi≤(T.tab.cell r c).hi →
    Goes (execT env (Try.f85.at [1,1,0,0]) ⟨[j0,.int .i64 r,.int .i64 c,.ptr 0 0 0 0,j4,j5,j6,.int .i64 lo,.int .i64 hi,j9,j10,j11,j12,j13,j14,j15,j16,j17,j18,j19,j20,j21,j22,j23,j24,j25,j26,j27,j28,j29,j30,j31,j32,j33,j34,j35,j36,j37,j38,j39,j40,j41,j42,j43,j44,j45,j46,j47,j48,j49,j50,j51,j52,j53,j54],[boxT T],[],0,[]⟩) fun ex s=>
     ex=.exit 0∧FrP 55 [(7,.int .i64 v)] [boxT T] [] 0 [] s:=by
 have bc:=hO.cell_ok hr hc
 have r0:(0:Int)≤(r:Int):=by omega
 have c0:(0:Int)≤(c:Int):=by omega
 have dR:decide ((r:Int) < (T.tab.R:Int))=true:=by simp;omega
 have dC:decide ((c:Int) < (T.tab.C:Int))=true:=by simp;omega
 have hrl:=z0V hO.len hO.wid hr
 have hget:=z2W hO hr hc
 intro n
 induction n with
 | zero=>
   intro lo hi;intros;rename_i h1 h2 h3 h4 h5
   omega
 | succ n ih=>
   intro lo hi;intros;rename_i h1 h2 h3 h4 h5
   by_cases hlt:lo < hi
   · have hd:decide (lo < hi)=true:=decide_eq_true hlt
     have wq0:(hi - lo).tdiv 2=(hi - lo) / 2:=Int.tdiv_eq_ediv_of_nonneg (by omega)
     have w1:IntKind.i64.wrap (hi - lo)=hi - lo:=i64_in _ (by omega)
     have w2:IntKind.i64.wrap ((hi - lo).tdiv 2)=(hi - lo) / 2:=by rw [wq0];exact i64_in _ (by omega)
     have w3:IntKind.i64.wrap (lo+(hi - lo) / 2)=lo+(hi - lo) / 2:=i64_in _ (by omega)
     generalize hm:lo+(hi - lo) / 2=m at w3
     have w4:IntKind.i64.wrap (m+1)=m+1:=i64_in _ (by omega)
     obtain ⟨gc,X,p,acc,k1,k2,k3,k4,k5,k6,k7,k8,k9⟩:=zDv hT hO hr hc ⟨(T.tab.cell r c).lo,m⟩ ⟨by show _≤(T.tab.cell r c).lo;omega,by show m≤_;omega,by show (T.tab.cell r c).lo≤m;omega⟩
     rw [zP6 hO hr hc hv (by omega)] at k8
     have gs:=fun b:Blk=>z07 (X:=X) rfl b
     have ss:=fun b b':Blk=>z0W (X:=X) rfl b b'
     have ls:=fun b:Blk=>z06 (X:=X) rfl b
     have wr:∀ y:Spn,z0J (spV y) 1 (.int .i64 m)=some (spV ⟨y.lo,m⟩):=fun _=>rfl
     have scI:∀ (k:IntKind) (z:Int),scrub 1 (.int k z)=.int k z:=fun _ _=>rfl
     have scP:scrub 1 (.ptr 0 0 0 0)=.ptr 0 0 0 0:=rfl
     simp only [boxT] at k1 k2 k3 k5 k7 k8 k9
     cases hq:decide (v≤m) with
     | true=>
       rw [hq] at k8
       have hq':=of_decide_eq_true hq
       have ih':=ih lo m
       simp only [go_sem,simprocAttr,Try.f85,boxT] at ih' ⊢
       rw [exec_loop]
       simp only [go_sem,simprocAttr,hd,r0,c0,Int.toNat_natCast,w1,w2,hm,w3,w4,k1,k2,k3,k4,k5,k6,k7,k8,k9,gs,ss,ls,wr,hget,dR,dC,hrl,Nat.zero_le,Nat.lt_add_one,List.length_set,List.map_cons,List.map_nil,scI,scP]
       exact ih' _ _ _ _ _ _ _ _ _ _ _ _ _ _ _ _ _ _ _ _ _ _ _ _ _ _ _ _ _ _ _ _ _ _ _ _ _ _ _ _ _ _ _ _ _ _ _ _ _ _ (by omega) h2 h3 hq' (by omega)
     | false=>
       rw [hq] at k8
       have hq':=of_decide_eq_false hq
       have ih':=ih (m+1) hi
       simp only [go_sem,simprocAttr,Try.f85,boxT] at ih' ⊢
       rw [exec_loop]
       simp only [go_sem,simprocAttr,hd,r0,c0,Int.toNat_natCast,w1,w2,hm,w3,w4,k1,k2,k3,k4,k5,k6,k7,k8,k9,gs,ss,ls,wr,hget,dR,dC,hrl,Nat.zero_le,Nat.lt_add_one,List.length_set,List.map_cons,List.map_nil,scI,scP]
       exact ih' _ _ _ _ _ _ _ _ _ _ _ _ _ _ _ _ _ _ _ _ _ _ _ _ _ _ _ _ _ _ _ _ _ _ _ _ _ _ _ _ _ _ _ _ _ _ _ _ _ _ (by omega) (by omega) (by omega) h4 h5
   · have hd:decide (lo < hi)=false:=decide_eq_false hlt
     have:lo=v:=by omega
     subst this
     simp only [go_sem,simprocAttr,Try.f85]
     rw [exec_loop]
     simp only [go_sem,simprocAttr,hd]
     exact frP (by kernel_rfl)
set_option maxRecDepth 10000
set_option maxHeartbeats 4000000
theorem Least.range {t:Tab} {r c:Nat} (hr:r < t.R) (hc:c < t.C) {v:Int} (h:Least t r c v):(t.cell r c).lo≤v∧v≤(t.cell r c).hi:=by
 obtain ⟨s,hs,rfl⟩:=h.at_
 exact hs.cell r c hr hc
theorem Great.range {t:Tab} {r c:Nat} (hr:r < t.R) (hc:c < t.C) {v:Int} (h:Great t r c v):(t.cell r c).lo≤v∧v≤(t.cell r c).hi:=by
 obtain ⟨s,hs,rfl⟩:=h.at_
 exact hs.cell r c hr hc
theorem z7M {T:TabV} (hT:T.Wf) (hO:T.tab.Mild) {r c:Nat} (hr:r < T.tab.R) (hc:c < T.tab.C) {v:Int} (hv:Least T.tab r c v):∃ H',runT env 85 [T.v,.int .i64 r,.int .i64 c] [] 0=some (.ret (.int .i64 v),H'):=by
 have r0:(0:Int)≤(r:Int):=by omega
 have c0:(0:Int)≤(c:Int):=by omega
 obtain ⟨s,_,q1,q2,q3,_,_⟩:=TabV.at hT hO hr hc
 have q3:=eq_true q3
 obtain ⟨v1,v2⟩:=hv.range hr hc
 have bc:=hO.cell_ok hr hc
 obtain ⟨ex,st,hx,hp⟩:=zPo hT hO hr hc hv (((T.tab.cell r c).hi - (T.tab.cell r c).lo).toNat+1) (T.tab.cell r c).lo (T.tab.cell r c).hi _ _ _ _ _ _ _ _ _ _ _ _ _ _ _ _ _ _ _ _ _ _ _ _ _ _ _ _ _ _ _ _ _ _ _ _ _ _ _ _ _ _ _ _ _ _ _ _ _ _ (by omega) (Int.le_refl _) v1 v2 (Int.le_refl _)
 obtain ⟨rfl,jp,rfl⟩:=hp
 simp only [go_sem,simprocAttr,Try.f85,boxT] at hx
 rw [run_unfold fn85 rfl]
 simp only [go_sem,simprocAttr,Try.f85,r0,c0,Int.toNat_natCast,q1,q2,q3]
 rw [hx]
 simp only [go_sem,simprocAttr,unwind,modeEx,resultsOf,one]
 exact ⟨_,rfl⟩
set_option maxRecDepth 10000
set_option maxHeartbeats 4000000
def Tab.setRow (t:Tab) (i:Nat) (x:Spn):Tab:=⟨t.rows.set i x,t.cols,t.cells⟩
theorem z3E (t:Tab) (i:Nat) (x:Spn):(t.setRow i x).R=t.R:=List.length_set
theorem z39 {t:Tab} {i:Nat} (x:Spn) (hi:i < t.R) (j:Nat):(t.setRow i x).row j=if j=i then x else t.row j:=by
 unfold Tab.row Tab.setRow
 simp only
 by_cases h:j=i
 · subst h
   rw [if_pos rfl,List.getD_eq_getElem?_getD,List.getElem?_set_self hi];rfl
 · rw [if_neg h,List.getD_eq_getElem?_getD,List.getElem?_set_ne (Ne.symm h),← List.getD_eq_getElem?_getD]
theorem TbAt.writeRow {H:Heap} {a b q ga gb g:Nat} {ps:Nat→Nat} {t:Tab} (h:TbAt H a b q ga gb g ps t) (i:Nat) (x:Spn):
    TbAt (H.set a (.cells ga 2 true ((t.rows.map spV).set i (spV x)))) a b q ga gb g ps (t.setRow i x):=by
 obtain ⟨l1,l2,l3,l4⟩:=h.lt
 have e:=z3E t i x
 refine ⟨?_,?_,?_,fun j hj=>?_,h.ab,h.aq,h.bq,by rw [e];exact h.pa,by rw [e];exact h.pp⟩
 · rw [List.getElem?_set_self l1]
   show _=some (Blk.cells ga 2 true ((t.rows.set i x).map spV))
   rw [List.map_set]
 · rw [List.getElem?_set_ne h.ab];exact h.cols
 · rw [List.getElem?_set_ne h.aq,e];exact h.acc
 · rw [e] at hj
   rw [List.getElem?_set_ne (h.pa j hj).1.symm];exact h.row j hj
structure LeastF (t:Tab) (φ:(Nat→Nat→Int)→Int) (v:Int):Prop where
 at_:∃ s,Fits t s∧φ s=v
 all:∀ s,Fits t s→v≤φ s
structure GreatF (t:Tab) (φ:(Nat→Nat→Int)→Int) (v:Int):Prop where
 at_:∃ s,Fits t s∧φ s=v
 all:∀ s,Fits t s→φ s≤v
def rowF (t:Tab) (r:Nat) (s:Nat→Nat→Int):Int:=sumN t.C (s r)
end Go.Proofs.Ytgfejpngfikjiaa.Tidy
namespace Go.Proofs.Ytgfejpngfikjiaa.Tidy
open Go
def rnN (n v:Nat):Nat:=if v=0 then n else v - 1
def rnW (n:Nat) (w:Res):Res:={ w with start:=rnN n w.start,to:=rnN n w.to }
theorem zKq {n a b:Nat} (ha:a≤n) (hb:b≤n) (h:rnN n a=rnN n b):a=b:=by
 unfold rnN at h
 split at h <;> split at h <;> omega
theorem zSq {n a:Nat} (ha:a≤n):rnN n a < n+1:=by
 unfold rnN
 split <;> omega
def zM2 (t:Tab) (f g:Nat→Int) (i k:Nat):List Res:=[t.net.fwd f g (i * t.C+k),t.net.bwd f g (i * t.C+k)]
def rowW (t:Tab) (f g:Nat→Int) (i:Nat):List Res:=[t.net.fwd f g (t.R * t.C+i),t.net.bwd f g (t.R * t.C+i)]
def colW (t:Tab) (f g:Nat→Int) (k:Nat):List Res:=[t.net.fwd f g (t.R * t.C+t.R+k),t.net.bwd f g (t.R * t.C+t.R+k)]
def zQF (t:Tab) (f g:Nat→Int) (n:Nat):List Res:=(List.range n).flatMap fun i=>(List.range t.C).flatMap (zM2 t f g i)++rowW t f g i
def zPI (t:Tab) (f g:Nat→Int) (n:Nat):List Res:=(List.range n).flatMap (colW t f g)
def refW (t:Tab) (f g:Nat→Int):List Res:=zQF t f g t.R++zPI t f g t.C
theorem z68 {t:Tab} {f g:Nat→Int} {w:Res}:w ∈ refW t f g ↔ ∃ j,j < t.net.n∧(w=t.net.fwd f g j ∨ w=t.net.bwd f g j):=by
 have hn:t.net.n=t.R * t.C+t.R+t.C:=rfl
 unfold refW zQF zPI zM2 rowW colW
 simp only [List.mem_append,List.mem_flatMap,List.mem_range,List.mem_cons,List.not_mem_nil,or_false]
 constructor
 · rintro (⟨i,hi,⟨k,hk,h⟩ | h⟩ | ⟨k,hk,h⟩)
   · exact ⟨_,by have:=z3P hi hk;omega,h⟩
   · exact ⟨_,by omega,h⟩
   · exact ⟨_,by omega,h⟩
 · rintro ⟨j,hj,h⟩
   by_cases h1:j < t.R * t.C
   · refine .inl ⟨j / t.C,z6O h1,.inl ⟨j % t.C,z4x h1,?_⟩⟩
     rw [Nat.mul_comm,Nat.div_add_mod];exact h
   · by_cases h2:j < t.R * t.C+t.R
     · refine .inl ⟨j - t.R * t.C,by omega,.inr ?_⟩
       rw [show t.R * t.C+(j - t.R * t.C)=j by omega];exact h
     · refine .inr ⟨j - t.R * t.C - t.R,by omega,?_⟩
       rw [show t.R * t.C+t.R+(j - t.R * t.C - t.R)=j by omega];exact h
theorem zMz {t:Tab} {f g:Nat→Int} {w:Res} (h:w ∈ refW t f g) (hr:1≤w.room):w ∈ t.net.ways f g t.net.n:=by
 obtain ⟨j,hj,rfl | rfl⟩:=z68.1 h
 · exact Net.mem_ways.2 ⟨j,hj,.inl ⟨by have:1≤t.net.hi j - f j:=hr;omega,rfl⟩⟩
 · exact Net.mem_ways.2 ⟨j,hj,.inr ⟨by have:1≤f j - t.net.lo j:=hr;omega,rfl⟩⟩
theorem zOF (t:Tab) {j:Nat} (hj:j < t.net.n):t.net.fr j ≠ t.net.to j:=by
 have hj:j < t.R * t.C+t.R+t.C:=hj
 by_cases h1:j < t.R * t.C
 · have:=t.net_cell (z6O h1) (z4x h1)
   rw [Nat.mul_comm,Nat.div_add_mod] at this
   have h2:=z6O h1
   omega
 · by_cases h2:j < t.R * t.C+t.R
   · have:=t.net_row (i:=j - t.R * t.C) (by omega)
     rw [show t.R * t.C+(j - t.R * t.C)=j by omega] at this
     omega
   · have:=t.net_col (k:=j - t.R * t.C - t.R)
     rw [show t.R * t.C+t.R+(j - t.R * t.C - t.R)=j by omega] at this
     omega
theorem zUy (t:Tab):t.net.N=1+t.R+t.C:=rfl
theorem z7e {t:Tab} {f g:Nat→Int} {w:Res} (h:w ∈ refW t f g):w.start≤t.R+t.C∧w.to≤t.R+t.C∧w.start ≠ w.to:=by
 have hN:=zUy t
 obtain ⟨j,hj,rfl | rfl⟩:=z68.1 h
 · have h1:=t.net_ok.fr j hj
   have h2:=t.net_ok.to j hj
   exact ⟨by show t.net.fr j≤_;omega,by show t.net.to j≤_;omega,zOF t hj⟩
 · have h1:=t.net_ok.fr j hj
   have h2:=t.net_ok.to j hj
   exact ⟨by show t.net.to j≤_;omega,by show t.net.fr j≤_;omega,(zOF t hj).symm⟩
def z5E (t:Tab) (f g:Nat→Int):List Res:=(refW t f g).map (rnW (t.R+t.C))
theorem zAY {t:Tab} {f g:Nat→Int}:(∀ w ∈ z5E t f g,w.start < t.R+t.C+1∧w.to < t.R+t.C+1)∧∀ w ∈ z5E t f g,w.start ≠ w.to:=by
 refine ⟨fun w hw=>?_,fun w hw e=>?_⟩
 · obtain ⟨x,hx,rfl⟩:=List.mem_map.1 hw
   obtain ⟨h1,h2,_⟩:=z7e hx
   exact ⟨zSq h1,zSq h2⟩
 · obtain ⟨x,hx,rfl⟩:=List.mem_map.1 hw
   obtain ⟨h1,h2,h3⟩:=z7e hx
   exact h3 (zKq h1 h2 e)
theorem zH0 {n:Nat} (d:Int):∀ (l:List Res) (f:Nat→Int),push f d (l.map (rnW n))=push f d l
 | [],_=>rfl
 | w :: l,f=>by
   show push (updF f w.arc _) d (l.map (rnW n))=push (updF f w.arc _) d l
   exact zH0 d l _
theorem zDT {n:Nat}:∀ (l:List Res) (b a:Nat),(∀ w ∈ l,w.start≤n∧w.to≤n)→b≤n→a≤n→RChain (rnN n b) (l.map (rnW n)) (rnN n a)→RChain b l a
 | [],b,a,_,hb,ha,h=>zKq hb ha h
 | w :: l,b,a,hl,hb,ha,h=>by
   obtain ⟨h1,h2⟩:=h
   have hw:=hl w (by simp)
   exact ⟨zKq hw.2 hb h1,zDT l _ _ (fun x hx=>hl x (by simp [hx])) hw.1 ha h2⟩
theorem zTL {n:Nat} {L:List Res}:∀ {l:List Res},(∀ w ∈ l,w ∈ L.map (rnW n))→∃ l0:List Res,l=l0.map (rnW n)∧∀ w ∈ l0,w ∈ L
 | [],_=>⟨[],rfl,fun _ h=>by cases h⟩
 | w :: l,h=>by
   obtain ⟨l0,e,h0⟩:=zTL (l:=l) fun x hx=>h x (List.mem_cons_of_mem _ hx)
   obtain ⟨w0,hw0,e0⟩:=List.mem_map.1 (h w (by simp))
   exact ⟨w0 :: l0,by rw [List.map_cons,e0,e],fun x hx=>by
    rcases List.mem_cons.1 hx with rfl | hx
    · exact hw0
    · exact h0 x hx⟩
theorem zJR {t:Tab} {m:Nat→Nat→Int} (hf:Fits t m) {l:List Nat} {P:Nat→Int} (hP:∀ w ∈ z5E t (t.flow m) (z0U l),1≤w.room→P w.start+w.gain≤P w.to):∀ s,Fits t s→t.brings l s≤t.brings l m:=by
 intro s hs
 obtain ⟨a1,b1⟩:=z2C hf
 obtain ⟨a2,b2⟩:=z2C hs
 refine Net.greatest (P:=fun v=>P (rnN (t.R+t.C) v)) b1 a2 b2 fun j hj=>⟨fun h=>?_,fun h=>?_⟩
 · exact hP _ (List.mem_map.2 ⟨_,z68.2 ⟨j,hj,.inl rfl⟩,rfl⟩) (by show 1≤t.net.hi j - t.flow m j;omega)
 · have:=hP _ (List.mem_map.2 ⟨_,z68.2 ⟨j,hj,.inr rfl⟩,rfl⟩) (by show 1≤t.flow m j - t.net.lo j;omega)
   have:P (rnN (t.R+t.C) (t.net.to j))+- z0U l j≤P (rnN (t.R+t.C) (t.net.fr j)):=this
   show P _ - _≤P _
   omega
theorem zJT {t:Tab} {m:Nat→Nat→Int} (hf:Fits t m) {L:List Nat} {l:List Res} (hl:∀ w ∈ l,w ∈ z5E t (t.flow m) (z0U L)) {v:Nat} (hc:RChain v l v) (hn:(l.map (·.start)).Nodup) (h0:0 < l.length) {d:Int} (hd:1≤d) (hr:∀ w ∈ l,d≤w.room):
    Fits t (t.mat (push (t.flow m) d l))∧t.brings L (t.mat (push (t.flow m) d l))=t.brings L m+d * gsum l∧∀ j,j < t.net.n→t.flow (t.mat (push (t.flow m) d l)) j=push (t.flow m) d l j:=by
 obtain ⟨a1,b1⟩:=z2C hf
 obtain ⟨l0,e,h1⟩:=zTL hl
 have hrm:∀ w ∈ l0,d≤w.room:=fun w hw=>by
  have:=hr (rnW (t.R+t.C) w) (by rw [e];exact List.mem_map.2 ⟨w,hw,rfl⟩)
  exact this
 have hw:∀ w ∈ l0,w ∈ t.net.ways (t.flow m) (z0U L) t.net.n:=fun w hw=>zMz (h1 w hw) (by have:=hrm w hw;omega)
 have hends:∀ w ∈ l0,w.start≤t.R+t.C∧w.to≤t.R+t.C:=fun w hw=>⟨(z7e (h1 w hw)).1,(z7e (h1 w hw)).2.1⟩
 have hn0:(l0.map (·.start)).Nodup:=by
  rw [e,List.map_map] at hn
  have h3:((l0.map (·.start)).map (rnN (t.R+t.C))).Nodup:=by rw [List.map_map];exact hn
  exact List.Pairwise.of_map _ (fun a b h e=>h (by rw [e])) h3
 obtain ⟨v0,hv0,ev⟩:∃ v0,v0≤t.R+t.C∧rnN (t.R+t.C) v0=v:=by
  cases l0 with
  | nil=>rw [e] at h0;exact absurd h0 (by simp)
  | cons w l0=>
    rw [e] at hc
    exact ⟨w.to,(hends w (by simp)).2,hc.1⟩
 have hc0:RChain v0 l0 v0:=zDT l0 v0 v0 hends hv0 hv0 (by rw [ev,← e];exact hc)
 rw [e,zH0]
 have hin:=Net.push_within a1 (by omega) hw hrm hn0
 have hcirc:t.net.Circ (push (t.flow m) d l0):=fun P=>by
  rw [Net.push_rdiv P d l0 _ v0 v0 (fun w hw'=>Net.own_ways (hw w hw')) hc0,b1 P]
  simp
 have hg:gsum (l0.map (rnW (t.R+t.C)))=gsum l0:=by
  unfold gsum
  rw [List.map_map];rfl
 refine ⟨z1q hin hcirc,?_,fun j hj=>zGh hcirc hj⟩
 rw [z5r hcirc,hg]
 exact zAB l0 _ fun w hw'=>zAk (hw w hw')
end Go.Proofs.Ytgfejpngfikjiaa.Tidy
namespace Go.Proofs.Ytgfejpngfikjiaa.Tidy
open Go Go.IntWalk
set_option maxRecDepth 10000
set_option linter.unusedSimpArgs false
set_option maxHeartbeats 2000000
noncomputable def blkS (t:Tab) (c:CutA):Int:=if t.ok then (if canB t then (if fitC t c then 0 else 61) else 31) else 60
theorem zJJ {T:TabV} (hT:T.Wf) {c:CutA} (hc':c.Wf):∃ (v:AVal) (H':Heap),runT env 32 [T.v,c.v] [] 0=some (.ret v,H')∧EndsAns T.tab (blkS T.tab c) (blkL T.tab.C c T.tab.R) v:=by
 rcases z2I hT 0 [boxT T,.cells 0 2 false [c.v],.cells 0 2 true [.agg [.int .i64 0,.int .i64 0]]] 3 with ⟨hok,us,hc,X,rfl⟩ | ⟨hO,hcan,us,hc,X,rfl⟩ | ⟨hO,hcan,f,g,_,hin,hci,hc⟩
 · have ha:blkS T.tab c=60:=by unfold blkS;rw [hok];rfl
   rw [ha]
   have:∃ H',runT env 32 [T.v,c.v] [] 0=some (.ret (.tuple [.agg [.int .i64 0,.int .i64 0],.int .i64 60]),H'):=by
    have hp:=z0e X [boxT T,.cells 0 2 false [c.v],.cells 0 2 true [.agg [.int .i64 0,.int .i64 0]]]
    simp only [boxT,List.length_cons,List.length_nil,Nat.zero_add,Nat.reduceAdd,List.cons_append,List.nil_append] at hc hp
    rw [run_unfold fn32 rfl]
    simp only [go_sem,simprocAttr,Try.f32,hc,hp,unwind,modeEx,resultsOf,one]
    exact ⟨_,rfl⟩
   obtain ⟨H',h⟩:=this
   exact ⟨_,_,h,.inl ⟨by decide,rfl⟩⟩
 · have hok:=Tab.ok_iff.2 hO
   have ha:blkS T.tab c=31:=by unfold blkS;rw [hok,hcan];rfl
   rw [ha]
   have:∃ H',runT env 32 [T.v,c.v] [] 0=some (.ret (.tuple [.agg [.int .i64 0,.int .i64 0],.int .i64 31]),H'):=by
    have hp:=z0e X [boxT T,.cells 0 2 false [c.v],.cells 0 2 true [.agg [.int .i64 0,.int .i64 0]]]
    simp only [boxT,List.length_cons,List.length_nil,Nat.zero_add,Nat.reduceAdd,List.cons_append,List.nil_append] at hc hp
    rw [run_unfold fn32 rfl]
    simp only [go_sem,simprocAttr,Try.f32,hc,hp,unwind,modeEx,resultsOf,one]
    exact ⟨_,rfl⟩
   obtain ⟨H',h⟩:=this
   exact ⟨_,_,h,.inl ⟨by decide,rfl⟩⟩
 · have hok:=Tab.ok_iff.2 hO
   have hf:=z7G T c
   cases hfc:fitC T.tab c with
   | false=>
     have ha:blkS T.tab c=61:=by unfold blkS;rw [hok,hcan,hfc];rfl
     rw [ha]
     have:∃ H',runT env 32 [T.v,c.v] [] 0=some (.ret (.tuple [.agg [.int .i64 0,.int .i64 0],.int .i64 61]),H'):=by
      simp only [setX,boxT,netB,arcB,z0B] at hc
      rw [run_unfold fn32 rfl]
      simp only [go_sem,simprocAttr,Try.f32,hc,numbered,hf,hfc,unwind,modeEx,resultsOf,one]
      exact ⟨_,rfl⟩
     obtain ⟨H',h⟩:=this
     exact ⟨_,_,h,.inl ⟨by decide,rfl⟩⟩
   | true=>
     have ha:blkS T.tab c=0:=by unfold blkS;rw [hok,hcan,hfc];rfl
     rw [ha]
     obtain ⟨h1,h2⟩:=z3W.1 hfc
     have hR8:=hO.R8
     have hC8:=hO.C8
     have hl:=z6Z T.tab.C c T.tab.R
     have hl2:T.tab.R * T.tab.C≤8 * 8:=Nat.mul_le_mul hR8 hC8
     obtain ⟨e1,t1,hx1,hp1⟩:=zJI hO hc' h1 h2 g f T.tab.R 0 0 _ _ _ _ _ _ _ _ _ _ _ _ _ _ _ _ _ _ _ _ _ _ _ _ _ _ _ _ _ _ _ _ _ _ _ _ _ _ _ _ _ _ _ _ _ _ _ _ _ _ _ _ _ _ _ _ _ (by omega)
     obtain ⟨rfl,gt,jp,rfl⟩:=hp1
     obtain ⟨sz,hsz,hle⟩:=zGn (H:=blkH T c g f gt (blkL T.tab.C c T.tab.R)) (p:=6) (q:=8) (g:=gt) (l:=blkL T.tab.C c T.tab.R) rfl
     obtain ⟨lo,hi,he,f',ec⟩:=z5O (gn:=g) (cl:=false) (sz:=sz) (l:=blkL T.tab.C c T.tab.R) (z1n hO) (z6o hO) hin hci hsz (fun j hj=>by
      simp only [blkL,z2R,List.mem_flatMap,List.mem_map,List.mem_filter,List.mem_range] at hj
      obtain ⟨i,hi,k,⟨hk,_⟩,rfl⟩:=hj
      have:=z3P hi hk
      show _ < T.tab.R * T.tab.C+T.tab.R+T.tab.C
      omega) (by omega)
     have hA:NetAt (blkH T c g f gt (blkL T.tab.C c T.tab.R)) 6 5 T.tab.R T.tab.C g T.tab.net.n (arcB g T.tab.net f):=⟨rfl,rfl,by decide,z0c _ _ _⟩
     have ec:=ec hA hle (by simp) 9
     have e0:blkL T.tab.C c 0=[]:=rfl
     have en:natsV []=[]:=rfl
     simp only [setX,boxT,netB,arcB,z0B] at hc
     simp only [blkH,boxT,netB,arcB,z0B] at ec
     simp only [go_sem,simprocAttr,Try.f32,blkH,boxT,netB,arcB,z0B,e0,en,z1c,z1d,List.length_nil,Int.natCast_zero,Int.ofNat_zero] at hx1
     have:∃ H',runT env 32 [T.v,c.v] [] 0=some (.ret (.tuple [.agg [.int .i64 lo,.int .i64 hi],.int .i64 0]),H'):=by
      rw [run_unfold fn32 rfl]
      simp only [go_sem,simprocAttr,Try.f32,hc,numbered,hf,hfc]
      rw [hx1]
      simp only [go_sem,simprocAttr,blkH,boxT,netB,arcB,z0B,ec,unwind,modeEx,resultsOf,one]
      exact ⟨_,rfl⟩
     obtain ⟨H',h⟩:=this
     exact ⟨_,_,h,.inr ⟨rfl,hO,lo,hi,he,rfl⟩⟩
theorem zBI {T:TabV} (hT:T.Wf) {c:CutA} (hc:c.Wf):∃ v,EndsAns T.tab (blkS T.tab c) (blkL T.tab.C c T.tab.R) v∧∀ ro H nx,callT env 32 [T.v,c.v] ro H nx=some (.ret v,.ups []):=by
 obtain ⟨v,H',hr,hv⟩:=zJJ hT hc
 exact ⟨v,hv,fun ro H nx=>call_pure rfl rfl rfl (z3T T c) hr hv.pure.2 ro H nx⟩
set_option maxRecDepth 10000
set_option maxHeartbeats 2000000
theorem EndsAns.zero {t:Tab} {code:Int} {l:List Nat} {v:AVal} (h:EndsAns t code l v) (hc:code=0):∃ lo hi,IsEnds t.net l lo hi∧v=.tuple [.agg [.int .i64 lo,.int .i64 hi],.int .i64 0]:=by
 rcases h with ⟨h1,_⟩ | ⟨_,_,lo,hi,h2,rfl⟩
 · exact absurd hc h1
 · exact ⟨lo,hi,h2,rfl⟩
theorem zJE {t:Tab} (hO:t.Ok) {s:Nat→Nat→Int} (h:Fits t s) (p q:Nat→Bool):0≤blkM t p q s∧blkM t p q s≤2 ^ 36:=by
 have hR8:=hO.R8
 have hC8:=hO.C8
 have h1:∀ i,i < t.R→0≤(sumN t.C fun k=>if p i && q k then s i k else 0)∧(sumN t.C fun k=>if p i && q k then s i k else 0)≤2 ^ 33:=fun i hi=>by
  have:=z1w (n:=t.C) (f:=fun k=>if p i && q k then s i k else 0) (B:=2 ^ 30) fun k hk=>by
   have h2:=h.cell i k hi hk
   have h3:=hO.cell_ok hi hk
   cases p i && q k <;> simp <;> omega
  omega
 have:=z1w (n:=t.R) (f:=fun i=>sumN t.C fun k=>if p i && q k then s i k else 0) (B:=2 ^ 33) h1
 unfold blkM
 omega
theorem EndsP.bd {t:Tab} (hO:t.Ok) {p q:Nat→Bool} {x:Spn} (h:EndsP t (blkM t p q) x):(0≤x.lo∧x.lo≤2 ^ 36)∧0≤x.hi∧x.hi≤2 ^ 36:=by
 obtain ⟨⟨s1,a1,b1⟩,⟨s2,a2,b2⟩,_⟩:=h
 have c1:=zJE hO a1 p q
 have c2:=zJE hO a2 p q
 omega
end Go.Proofs.Ytgfejpngfikjiaa.Tidy
namespace Go.Proofs.Ytgfejpngfikjiaa.Tidy
open Go
def rowH (t:Tab) (i:Nat):Int:=sumN t.C fun k=>(t.cell i k).hi
def colH (t:Tab) (k:Nat):Int:=sumN t.R fun i=>(t.cell i k).hi
def mirT (t:Tab):Tab:=⟨(List.range t.R).map fun i=>⟨rowH t i - (t.row i).hi,rowH t i - (t.row i).lo⟩,(List.range t.C).map fun k=>⟨colH t k - (t.col k).hi,colH t k - (t.col k).lo⟩,(List.range t.R).map fun i=>(List.range t.C).map fun k=>⟨0,(t.cell i k).hi - (t.cell i k).lo⟩⟩
theorem zA5 (t:Tab):(mirT t).R=t.R:=by show (List.map _ _).length=_;simp
theorem zA4 (t:Tab):(mirT t).C=t.C:=by show (List.map _ _).length=_;simp
theorem z3D {α:Type} {n i:Nat} (f:Nat→α) (d:α) (h:i < n):((List.range n).map f).getD i d=f i:=by
 rw [List.getD_eq_getElem?_getD,List.getElem?_map,List.getElem?_range h];rfl
theorem z99 {t:Tab} {i:Nat} (h:i < t.R):(mirT t).row i=⟨rowH t i - (t.row i).hi,rowH t i - (t.row i).lo⟩:=z3D _ _ h
theorem z98 {t:Tab} {k:Nat} (h:k < t.C):(mirT t).col k=⟨colH t k - (t.col k).hi,colH t k - (t.col k).lo⟩:=z3D _ _ h
theorem z7V {t:Tab} {i k:Nat} (h:i < t.R) (hk:k < t.C):(mirT t).cell i k=⟨0,(t.cell i k).hi - (t.cell i k).lo⟩:=by
 unfold Tab.cell
 show ((List.map _ _).getD i []).getD k sp0=_
 rw [z3D _ _ h,z3D _ _ hk];rfl
theorem zQD {t:Tab} (hO:t.Ok) {i:Nat} (hi:i < t.R):0≤rowH t i∧rowH t i≤2 ^ 33:=by
 have h:=z1w (n:=t.C) (f:=fun k=>(t.cell i k).hi) (B:=2 ^ 30) fun k hk=>by have:=hO.cell_ok hi hk;omega
 have:=hO.C8
 unfold rowH
 omega
theorem zPG {t:Tab} (hO:t.Ok) {k:Nat} (hk:k < t.C):0≤colH t k∧colH t k≤2 ^ 33:=by
 have h:=z1w (n:=t.R) (f:=fun i=>(t.cell i k).hi) (B:=2 ^ 30) fun i hi=>by have:=hO.cell_ok hi hk;omega
 have:=hO.R8
 unfold colH
 omega
theorem zA6 {t:Tab} (hO:t.Ok):(mirT t).Mild:=by
 have eR:=zA5 t
 have eC:=zA4 t
 refine ⟨by rw [eR];exact hO.R1,by rw [eR];exact hO.R8,by rw [eC];exact hO.C1,by rw [eC];exact hO.C8,?_,fun l hl=>?_,fun {i} hi=>?_,fun {k} hk=>?_,fun {i k} hi hk=>?_⟩
 · rw [eR];show (List.map _ _).length=_;simp
 · obtain ⟨i,_,rfl⟩:=List.mem_map.1 hl
   rw [eC];simp
 · rw [eR] at hi
   rw [z99 hi]
   have:=hO.row_ok hi
   have:=zQD hO hi
   show _≤rowH t i - _∧rowH t i - _≤_∧rowH t i - _≤rowH t i - _
   omega
 · rw [eC] at hk
   rw [z98 hk]
   have:=hO.col_ok hk
   have:=zPG hO hk
   show _≤colH t k - _∧colH t k - _≤_∧colH t k - _≤colH t k - _
   omega
 · rw [eR] at hi
   rw [eC] at hk
   rw [z7V hi hk]
   have:=hO.cell_ok hi hk
   show -(2 ^ 34)≤(0:Int)∧(t.cell i k).hi - (t.cell i k).lo≤_∧0≤(t.cell i k).hi - (t.cell i k).lo
   omega
def mirF (t:Tab) (s:Nat→Nat→Int) (i k:Nat):Int:=(t.cell i k).hi - s i k
theorem zKV (t:Tab) (s:Nat→Nat→Int):mirF t (mirF t s)=s:=by
 funext i k
 unfold mirF
 omega
theorem zGs (t:Tab) (s:Nat→Nat→Int) (i:Nat):sumN t.C (mirF t s i)=rowH t i - sumN t.C (s i):=z1x _ _ _
theorem zGr (t:Tab) (s:Nat→Nat→Int) (k:Nat):(sumN t.R fun i=>mirF t s i k)=colH t k - sumN t.R fun i=>s i k:=z1x _ _ _
theorem zCi {t:Tab} {s:Nat→Nat→Int}:Fits (mirT t) (mirF t s) ↔ Fits t s:=by
 have eR:=zA5 t
 have eC:=zA4 t
 constructor
 · intro h
   refine ⟨fun i k hi hk=>?_,fun i hi=>?_,fun k hk=>?_⟩
   · have:=h.cell i k (by omega) (by omega)
     rw [z7V hi hk] at this
     have:0≤(t.cell i k).hi - s i k∧(t.cell i k).hi - s i k≤(t.cell i k).hi - (t.cell i k).lo:=this
     omega
   · have:=h.row i (by omega)
     rw [z99 hi,eC,zGs] at this
     have:rowH t i - (t.row i).hi≤rowH t i - sumN t.C (s i)∧rowH t i - sumN t.C (s i)≤rowH t i - (t.row i).lo:=this
     omega
   · have:=h.col k (by omega)
     rw [z98 hk,eR,zGr] at this
     have:colH t k - (t.col k).hi≤colH t k - (sumN t.R fun i=>s i k)∧colH t k - (sumN t.R fun i=>s i k)≤colH t k - (t.col k).lo:=this
     omega
 · intro h
   refine ⟨fun i k hi hk=>?_,fun i hi=>?_,fun k hk=>?_⟩
   · rw [eR] at hi
     rw [eC] at hk
     rw [z7V hi hk]
     have:=h.cell i k hi hk
     show 0≤(t.cell i k).hi - s i k∧(t.cell i k).hi - s i k≤(t.cell i k).hi - (t.cell i k).lo
     omega
   · rw [eR] at hi
     rw [z99 hi,eC,zGs]
     have:=h.row i hi
     show rowH t i - (t.row i).hi≤rowH t i - sumN t.C (s i)∧rowH t i - sumN t.C (s i)≤rowH t i - (t.row i).lo
     omega
   · rw [eC] at hk
     rw [z98 hk,eR,zGr]
     have:=h.col k hk
     show colH t k - (t.col k).hi≤colH t k - (sumN t.R fun i=>s i k)∧colH t k - (sumN t.R fun i=>s i k)≤colH t k - (t.col k).lo
     omega
theorem zKW (t:Tab) (p q:Nat→Bool) (s:Nat→Nat→Int):blkM (mirT t) p q (mirF t s)=blkM t p q (fun i k=>(t.cell i k).hi) - blkM t p q s:=by
 unfold blkM
 rw [zA5,zA4,← z1x]
 refine z02 fun i _=>?_
 rw [← z1x]
 refine z02 fun k _=>?_
 split
 · rfl
 · simp
theorem zHU {t:Tab} {p q:Nat→Bool} {v w:Int} (hv:GreatF (mirT t) (blkM (mirT t) p q) v) (hw:GreatF t (blkM t p q) w):EndsP t (blkM t p q) ⟨blkM t p q (fun i k=>(t.cell i k).hi) - v,w⟩:=by
 obtain ⟨⟨s1,f1,e1⟩,h1⟩:=hv
 obtain ⟨⟨s2,f2,e2⟩,h2⟩:=hw
 have g1:s1=mirF t (mirF t s1):=(zKV t s1).symm
 refine ⟨⟨mirF t s1,?_,?_⟩,⟨s2,f2,e2⟩,fun s hs=>⟨?_,h2 s hs⟩⟩
 · rw [g1] at f1
   exact zCi.1 f1
 · have:=zKW t p q (mirF t s1)
   rw [← g1,e1] at this
   show _=_ - v
   omega
 · have:=h1 _ (zCi.2 hs)
   rw [zKW] at this
   show _ - v≤_
   omega
end Go.Proofs.Ytgfejpngfikjiaa.Tidy
namespace Go.Proofs.Ytgfejpngfikjiaa.Tidy
open Go Go.IntWalk
set_option maxRecDepth 10000
set_option linter.unusedSimpArgs false
set_option maxHeartbeats 4000000
def accN (l:List AVal):Blk:=if l=[] then .cells 0 0 false [] else .cells l.length 2 true l
theorem z2p {l:List AVal} (h:l ≠ []):accN l=.cells l.length 2 true l:=if_neg h
set_option maxRecDepth 10000
set_option maxHeartbeats 4000000
set_option maxRecDepth 10000
set_option maxHeartbeats 4000000
theorem LeastF.range {t:Tab} {r:Nat} (hr:r < t.R) {v:Int} (h:LeastF t (rowF t r) v):(t.row r).lo≤v∧v≤(t.row r).hi:=by
 obtain ⟨s,hs,rfl⟩:=h.at_
 exact hs.row r hr
theorem GreatF.range {t:Tab} {r:Nat} (hr:r < t.R) {v:Int} (h:GreatF t (rowF t r) v):(t.row r).lo≤v∧v≤(t.row r).hi:=by
 obtain ⟨s,hs,rfl⟩:=h.at_
 exact hs.row r hr
set_option maxRecDepth 10000
set_option maxHeartbeats 4000000
set_option maxRecDepth 10000
set_option maxHeartbeats 4000000
section
variable {A:Heap} {x y:AVal} {r0:RowD} {rs:List RowD}
end
set_option maxRecDepth 10000
set_option maxHeartbeats 4000000
set_option maxRecDepth 10000
set_option maxHeartbeats 4000000
theorem zO4 {H:Heap} {t:Tab} {p1 g1 p2 g2 q g n:Nat} {es:List AVal} (h1:H[p1]?=some (.cells g1 2 true (t.rows.map spV))) (h2:H[p2]?=some (.cells g2 2 true (t.cols.map spV))) (h3:H[q]?=some (.cells g 1 false es))
    (hes:mapO (toLit (fun j=>decide (0≤j) && !([]:List Nat).contains j) H 7) es=some (t.cells.map fun l=>.lit false 2 (l.map spV))) (hl:es.length=t.R):
    handBack H 0 [] (n+1+1) (.agg [.ref p1 g1 0 t.R false,.ref p2 g2 0 t.C false,.ref q g 0 t.R false])=some (canon t).v:=by
 have t1:(t.rows.map spV).take t.R=t.rows.map spV:=List.take_of_length_le (by rw [List.length_map];exact Nat.le_refl _)
 have t2:(t.cols.map spV).take t.C=t.cols.map spV:=List.take_of_length_le (by rw [List.length_map];exact Nat.le_refl _)
 have t3:es.take t.R=es:=List.take_of_length_le (by omega)
 have lr:t.rows.length=t.R:=rfl
 have lc:t.cols.length=t.C:=rfl
 have e1:toLit (fun j=>decide (0≤j) && !([]:List Nat).contains j) H 8 (.ref p1 g1 0 t.R false)=some (.lit false 2 (t.rows.map spV)):=by
  simp [toLit,noRef,AVal.under,h1,t1,lr]
 have e2:toLit (fun j=>decide (0≤j) && !([]:List Nat).contains j) H 8 (.ref p2 g2 0 t.C false)=some (.lit false 2 (t.cols.map spV)):=by
  simp [toLit,noRef,AVal.under,h2,t2,lc]
 have e3:toLit (fun j=>decide (0≤j) && !([]:List Nat).contains j) H 8 (.ref q g 0 t.R false)=some (.lit false 1 (t.cells.map fun l=>.lit false 2 (l.map spV))):=by
  unfold toLit
  simp only [noRef,AVal.under,Nat.not_lt_zero,decide_false,Bool.false_eq_true,if_false,h3,decide_true,Nat.zero_add,hl,Nat.le_refl,Bool.and_true,if_true,List.drop_zero,t3]
  rw [hes]
  simp
 have ec:(canon t).v=.agg [.lit false 2 (t.rows.map spV),.lit false 2 (t.cols.map spV),.lit false 1 (t.cells.map fun l=>.lit false 2 (l.map spV))]:=by
  unfold canon TabV.v
  simp only [List.map_map]
  rfl
 have hk:∀ (i:Nat) (v:AVal) (n:Nat),(∃ g o l c,v=.ref i g o l c)→handBack H 0 [] (n+1) v=toLit (fun j=>decide (0≤j) && !([]:List Nat).contains j) H 8 v:=by
  rintro i v n ⟨g,o,l,c,rfl⟩
  simp [handBack]
 rw [ec]
 unfold handBack
 simp only [mapO,hk p1 _ n ⟨_,_,_,_,rfl⟩,hk p2 _ n ⟨_,_,_,_,rfl⟩,hk q _ n ⟨_,_,_,_,rfl⟩,e1,e2,e3]
 rfl
def noTab:AVal:=.agg [.lit true 0 [],.lit true 0 [],.lit true 0 []]
set_option maxRecDepth 10000
set_option maxHeartbeats 4000000
theorem zCv {t:Tab} (hl:t.cells.length=t.R):(vecA t.R fun i=>AVal.lit false 2 (rowA t i))=t.cells.map fun l=>.lit false 2 (l.map spV):=by
 unfold vecA
 apply List.ext_getElem
 · simp [hl]
 · intro i h1 h2
   have hi:i < t.cells.length:=by simpa using h2
   simp [rowA,hi]
theorem TbAt.back {H:Heap} {a b q ga gb g n:Nat} {ps:Nat→Nat} {t:Tab} (h:TbAt H a b q ga gb g ps t) (hl:t.cells.length=t.R) (hw:∀ l ∈ t.cells,l.length=t.C):handBack H 0 [] (n+1+1) (memT t a b q ga gb g)=some (canon t).v:=by
 refine zO4 h.rows h.cols h.acc ?_ (z0E _ _)
 rw [← zCv hl]
 have gen:∀ l:List Nat,(∀ i ∈ l,i < t.R)→mapO (Tidy.toLit (fun j=>decide (0≤j) && !([]:List Nat).contains j) H 7) (l.map fun i=>AVal.ref (ps i) 0 0 t.C false)=some (l.map fun i=>AVal.lit false 2 (rowA t i)):=by
  intro l
  induction l with
  | nil=>intro _;rfl
  | cons i l ih=>
    intro hl'
    have hi:=hl' i (by simp)
    have hr:=h.row i hi
    have hrl:=z0V hl hw hi
    have htk:(rowA t i).take t.C=rowA t i:=List.take_of_length_le (by omega)
    simp only [List.map_cons,mapO,ih fun j hj=>hl' j (by simp [hj])]
    simp [Tidy.toLit,noRef,AVal.under,hr,hrl,htk]
 exact gen _ fun i hi=>List.mem_range.1 hi
set_option maxRecDepth 10000
set_option maxHeartbeats 4000000
end Go.Proofs.Ytgfejpngfikjiaa.Tidy
