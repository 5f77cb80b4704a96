/-
 What the functions that SharesTablesSpec reaches compute;the law,run.
-/
import Derived.Test.YtgfejpngfikjiaaWa
import Derived.Test.YtgfejpngfikjiaaCf
import Derived.Test.YtgfejpngfikjiaaCe
import Derived.Test.YtgfejpngfikjiaaCb
set_option linter.all false
namespace Go.Proofs.Ytgfejpngfikjiaa.Tidy
open Go Go.IntWalk
set_option maxRecDepth 10000
set_option linter.unusedSimpArgs false
set_option maxHeartbeats 2000000
theorem z3Z (T:TabV) (i k:Int) (ro:Nat) (H:Heap) (nx:Nat):callT env 117 [T.v,.int .i64 i,.int .i64 k] ro H nx=some (.ret (.bool !outB T.tab i k),.ups []):=by
 have:∃ H',runT env 117 [T.v,.int .i64 i,.int .i64 k] [] 0=some (.ret (.bool !outB T.tab i k),H'):=by
  have lr:T.rows.l.length=T.tab.R:=rfl
  have lc:T.cols.l.length=T.tab.C:=rfl
  have n1:decide (0≤i)=!decide (i < 0):=by rw [← decide_not];exact decide_eq_decide.2 (by omega)
  have n2:decide (i < (T.tab.R:Int))=!decide ((T.tab.R:Int)≤i):=by rw [← decide_not];exact decide_eq_decide.2 (by omega)
  have n3:decide (0≤k)=!decide (k < 0):=by rw [← decide_not];exact decide_eq_decide.2 (by omega)
  have n4:decide (k < (T.tab.C:Int))=!decide ((T.tab.C:Int)≤k):=by rw [← decide_not];exact decide_eq_decide.2 (by omega)
  rw [run_unfold fn117 rfl]
  unfold outB
  cases d1:decide (i < 0) <;> cases d2:decide ((T.tab.R:Int)≤i) <;> cases d3:decide (k < 0) <;> cases d4:decide ((T.tab.C:Int)≤k) <;> rw [d1] at n1 <;> rw [d2] at n2 <;> rw [d3] at n3 <;> rw [d4] at n4 <;>
   (simp only [go_sem,simprocAttr,Try.f117,List.length_map,lr,lc,n1,n2,n3,n4,unwind,modeEx,resultsOf,one]
    exact ⟨_,rfl⟩)
 obtain ⟨H',h⟩:=this
 exact call_pure rfl rfl rfl (by simp [underL,AVal.under,TabV.under]) h rfl ro H nx
theorem z4P {T:TabV} (hT:T.Wf) (i k:Int) (ro:Nat) (H:Heap) (nx:Nat):callT env 84 [T.v,.int .i64 i,.int .i64 k] ro H nx=some (.ret (.int .i64 (askS T.tab i k)),.ups []):=by
 have:∃ H',runT env 84 [T.v,.int .i64 i,.int .i64 k] [] 0=some (.ret (.int .i64 (askS T.tab i k)),H'):=by
  have ck:=z1X T hT
  have ic:=z3Z T i k
  rw [run_unfold fn84 rfl]
  unfold askS
  cases hok:T.tab.ok with
  | false=>
    simp only [go_sem,simprocAttr,Try.f84,ck,z22 hok,unwind,modeEx,resultsOf,one,Bool.false_eq_true,if_false]
    exact ⟨_,rfl⟩
  | true=>
    have cc:=zEs hT (Tab.ok_iff.1 hok)
    cases hcan:canB T.tab with
    | false=>
      rw [hcan] at cc
      simp only [go_sem,simprocAttr,Try.f84,ck,z0O hok,cc,unwind,modeEx,resultsOf,one,if_true,Bool.false_eq_true,if_false]
      exact ⟨_,rfl⟩
    | true=>
      rw [hcan] at cc
      cases ho:outB T.tab i k <;> rw [ho] at ic <;>
       (simp only [go_sem,simprocAttr,Try.f84,ck,z0O hok,cc,ic,unwind,modeEx,resultsOf,one,if_true,Bool.false_eq_true,if_false]
        exact ⟨_,rfl⟩)
 obtain ⟨H',h⟩:=this
 exact call_pure rfl rfl rfl (by simp [underL,AVal.under,TabV.under]) h rfl ro H nx
set_option maxRecDepth 10000
set_option maxHeartbeats 4000000
theorem zCf {T:TabV} (hT:T.Wf) (hO:T.tab.Ok) {r c:Nat} (hr:r < T.tab.R) (x:Spn) (hx:x.ok=true):
    ∃ (gc:Nat) (X:Heap) (p:Nat) (acc:List AVal),callT env 89 [T.v] 0 [boxT T] 1=some (.ret (.agg [.ref 3 1 0 T.tab.R false,.ref 4 1 0 T.tab.C false,.ref 5 gc 0 T.tab.R false]),.ups (numbered 1 X)) ∧
     putU [boxT T] (numbered 1 X)=boxT T :: X ∧
     (boxT T :: (X++[.cells 0 3 false [.agg [.ref 3 1 0 T.tab.R false,.ref 4 1 0 T.tab.C false,.ref 5 gc 0 T.tab.R false]]]))[5]?=some (.cells gc 1 false acc) ∧
     acc[r]?=some (.ref p 0 0 T.tab.C false) ∧
     (boxT T :: (X++[.cells 0 3 false [.agg [.ref 3 1 0 T.tab.R false,.ref 4 1 0 T.tab.C false,.ref 5 gc 0 T.tab.R false]]]))[p]?=some (.cells 0 2 true (rowA T.tab r)) ∧
     (p < X.length+1+1)=True ∧
     ((boxT T :: (X++[.cells 0 3 false [.agg [.ref 3 1 0 T.tab.R false,.ref 4 1 0 T.tab.C false,.ref 5 gc 0 T.tab.R false]]])).set p (.cells 0 2 true ((rowA T.tab r).set c (spV x))))[X.length+1]?=some (.cells 0 3 false [.agg [.ref 3 1 0 T.tab.R false,.ref 4 1 0 T.tab.C false,.ref 5 gc 0 T.tab.R false]]) ∧
     callT env 75 [.agg [.ref 3 1 0 T.tab.R false,.ref 4 1 0 T.tab.C false,.ref 5 gc 0 T.tab.R false]] 0 ((boxT T :: (X++[.cells 0 3 false [.agg [.ref 3 1 0 T.tab.R false,.ref 4 1 0 T.tab.C false,.ref 5 gc 0 T.tab.R false]]])).set p (.cells 0 2 true ((rowA T.tab r).set c (spV x)))) (X.length+1+1)=some (.ret (.bool (canB (T.tab.setCell r c x))),.ups []) ∧
     ∀ Tm ro V,trunc 1 ⟨Tm,(boxT T :: (X++[.cells 0 3 false [.agg [.ref 3 1 0 T.tab.R false,.ref 4 1 0 T.tab.C false,.ref 5 gc 0 T.tab.R false]]])).set p (.cells 0 2 true ((rowA T.tab r).set c (spV x))),[],ro,V⟩=⟨Tm.map (scrub 1),[boxT T],[],ro,V⟩:=by
 obtain ⟨gc,cl⟩:=z2s hT hO
 have cl:=cl 0 [boxT T] 1
 have at0:=z4F hO [boxT T] gc
 have hpu:=z0g (cpX T 1 gc) [boxT T]
 have H1:([boxT T]:Heap).length=1:=rfl
 have hps:∀ i,cpP 1 i ≠ 0:=fun i=>by unfold cpP;omega
 rw [H1] at at0 hpu
 generalize hX:cpX T 1 gc=X at cl at0 hpu
 generalize hp:cpP 1=ps at at0 hps
 have at1:=at0.more [.cells 0 3 false [memT T.tab (1+2) (1+3) (1+4) 1 1 gc]]
 have at2:=at1.write (k:=c) hO.len hr x
 obtain ⟨l1,l2,l3,l4⟩:=at1.lt
 have l4:=l4 r hr
 have hlen2:(([boxT T]++X)++[Blk.cells 0 3 false [memT T.tab (1+2) (1+3) (1+4) 1 1 gc]]).length=X.length+1+1:=by
  rw [List.length_append,List.length_append,H1];simp only [List.length_cons,List.length_nil];omega
 have hO2:(T.tab.setCell r c x).Ok:=z1O hO hr hx
 have hpne:ps r ≠ X.length+1:=fun e=>by
  have:=at0.lt.2.2.2 r hr
  rw [List.length_append,H1] at this
  omega
 have hcan:=zAt (z1S hO2.R8 hO2.C8 hO2.len hO2.wid) (by rw [z0P];exact hO2)
 rw [z0P] at hcan
 obtain ⟨Hm,mr⟩:=hcan
 obtain ⟨ids,hle⟩:=at2.lend (lits:=[0]) hO2.R8 hO2.len hO2.wid rfl (args:=[]) rfl
 obtain ⟨us,mc,hus⟩:=z21 (f:=75) rfl rfl rfl rfl hle z0b mr (handBack_noRef _ _ _ _ _ rfl) rfl (X.length+1+1)
 have hus:=hus rfl
 subst hus
 refine ⟨gc,X,ps r,vecA T.tab.R fun i=>.ref (ps i) 0 0 T.tab.C false,cl,hpu,at1.acc,vecA_get _ hr,at1.row r hr,eq_true (by rw [hlen2] at l4;exact l4),?_,mc,fun Tm ro V=>?_⟩
 · show ((([boxT T]++X)++[Blk.cells 0 3 false [memT T.tab (1+2) (1+3) (1+4) 1 1 gc]]).set (ps r) _)[X.length+1]?=_
   rw [List.getElem?_set_ne hpne]
   exact z08 (by rw [List.length_append,H1];omega) _
 · obtain ⟨q,hq⟩:∃ q,ps r=q+1:=⟨ps r - 1,by have:=hps r;omega⟩
   rw [hq,List.set_cons_succ]
   unfold trunc
   have h1:¬ ((boxT T :: (X++[Blk.cells 0 3 false [.agg [.ref 3 1 0 T.tab.R false,.ref 4 1 0 T.tab.C false,.ref 5 gc 0 T.tab.R false]]]).set q (Blk.cells 0 2 true ((rowA T.tab r).set c (spV x)))).length≤1):=by
    simp only [List.length_cons,List.length_set,List.length_append,List.length_nil];omega
   simp only [h1,if_false,List.take_succ_cons,List.take_zero,List.all_cons,List.all_nil,Bool.and_true]
   have h2:underB 1 (boxT T)=true:=by simp [underB,boxT,underL,TabV.under]
   simp only [h2,if_true]
structure Least (t:Tab) (r c:Nat) (v:Int):Prop where
 at_:∃ s,Fits t s∧s r c=v
 all:∀ s,Fits t s→v≤s r c
structure Great (t:Tab) (r c:Nat) (v:Int):Prop where
 at_:∃ s,Fits t s∧s r c=v
 all:∀ s,Fits t s→s r c≤v
theorem z1p {t:Tab} (hO:t.Ok) {r c:Nat} (hr:r < t.R) (hc:c < t.C) {x:Spn} (h1:(t.cell r c).lo≤x.lo) (h2:x.hi≤(t.cell r c).hi) (s:Nat→Nat→Int):Fits (t.setCell r c x) s ↔ Fits t s∧x.lo≤s r c∧s r c≤x.hi:=by
 have hs:=fun i k=>z3v hO x hr hc i k
 constructor
 · intro h
   have h0:=h.cell r c hr hc
   rw [hs,if_pos ⟨rfl,rfl⟩] at h0
   refine ⟨⟨fun i k hi hk=>?_,fun i hi=>h.row i hi,fun k hk=>h.col k hk⟩,h0⟩
   have h3:=h.cell i k hi hk
   rw [hs] at h3
   by_cases h4:i=r∧k=c
   · obtain ⟨rfl,rfl⟩:=h4;omega
   · rwa [if_neg h4] at h3
 · rintro ⟨h,h3⟩
   refine ⟨fun i k hi hk=>?_,fun i hi=>h.row i hi,fun k hk=>h.col k hk⟩
   rw [hs]
   by_cases h4:i=r∧k=c
   · obtain ⟨rfl,rfl⟩:=h4;rw [if_pos ⟨rfl,rfl⟩];exact h3
   · rw [if_neg h4];exact h.cell i k hi hk
theorem zMs {t:Tab} (hO:t.Ok) {r c:Nat} (hr:r < t.R) (hc:c < t.C) {v m:Int} (hv:Least t r c v) (h2:m≤(t.cell r c).hi):canB (t.setCell r c ⟨(t.cell r c).lo,m⟩)=decide (v≤m):=by
 rw [Bool.eq_iff_iff,z0S,decide_eq_true_eq]
 have hf:=z1p hO hr hc (x:=⟨(t.cell r c).lo,m⟩) (Int.le_refl _) h2
 constructor
 · rintro ⟨s,hs⟩
   have:=(hf s).1 hs
   have h3:=hv.all s this.1
   have:s r c≤m:=this.2.2
   omega
 · intro hm
   obtain ⟨s,hs,e⟩:=hv.at_
   have:=hs.cell r c hr hc
   exact ⟨s,(hf s).2 ⟨hs,by show (t.cell r c).lo≤s r c;omega,by show s r c≤m;omega⟩⟩
theorem zK6 {t:Tab} (hO:t.Ok) {r c:Nat} (hr:r < t.R) (hc:c < t.C) {v m:Int} (hv:Great t r c v) (h2:(t.cell r c).lo≤m):canB (t.setCell r c ⟨m,(t.cell r c).hi⟩)=decide (m≤v):=by
 rw [Bool.eq_iff_iff,z0S,decide_eq_true_eq]
 have hf:=z1p hO hr hc (x:=⟨m,(t.cell r c).hi⟩) h2 (Int.le_refl _)
 constructor
 · rintro ⟨s,hs⟩
   have:=(hf s).1 hs
   have h3:=hv.all s this.1
   have:m≤s r c:=this.2.1
   omega
 · intro hm
   obtain ⟨s,hs,e⟩:=hv.at_
   have:=hs.cell r c hr hc
   exact ⟨s,(hf s).2 ⟨hs,by show m≤s r c;omega,by show s r c≤(t.cell r c).hi;omega⟩⟩
theorem zNS {T:TabV} (hT:T.Wf) (hO:T.tab.Ok) {r c:Nat} (hr:r < T.tab.R) (hc:c < T.tab.C) {v:Int} (hv:Least T.tab r c v):∀ (n:Nat) (lo hi:Int) (j0 j4 j5 j6 j9 j10 j11 j12 j13 j14 j15 j16 j17 j18 j19 j20 j21 j22 j23 j24 j25 j26 j27 j28 j29 j30 j31 j32 j33 j34 j35 j36 j37 j38 j39 j40 j41 j42 j43 j44 j45 j46 j47 j48 j49 j50 j51 j52 j53 j54:AVal),hi - lo < n→(T.tab.cell r c).lo≤lo→lo≤v→v≤hi→hi≤(T.tab.cell r c).hi →
    Goes (execT env (Try.f85.at [1,1,0,0]) ⟨[j0,.int .i64 r,.int .i64 c,.ptr 0 0 0 0,j4,j5,j6,.int .i64 lo,.int .i64 hi,j9,j10,j11,j12,j13,j14,j15,j16,j17,j18,j19,j20,j21,j22,j23,j24,j25,j26,j27,j28,j29,j30,j31,j32,j33,j34,j35,j36,j37,j38,j39,j40,j41,j42,j43,j44,j45,j46,j47,j48,j49,j50,j51,j52,j53,j54],[boxT T],[],0,[]⟩) fun ex s=>
     ex=.exit 0∧FrP 55 [(7,.int .i64 v)] [boxT T] [] 0 [] s:=by
 have bc:=hO.cell_ok hr hc
 have r0:(0:Int)≤(r:Int):=by omega
 have c0:(0:Int)≤(c:Int):=by omega
 have dR:decide ((r:Int) < (T.tab.R:Int))=true:=by simp;omega
 have dC:decide ((c:Int) < (T.tab.C:Int))=true:=by simp;omega
 have hrl:=z0V hO.len hO.wid hr
 have hget:=z2m hO hr hc
 intro n
 induction n with
 | zero=>
   intro lo hi;intros;rename_i h1 h2 h3 h4 h5
   omega
 | succ n ih=>
   intro lo hi;intros;rename_i h1 h2 h3 h4 h5
   by_cases hlt:lo < hi
   · have hd:decide (lo < hi)=true:=decide_eq_true hlt
     have wq0:(hi - lo).tdiv 2=(hi - lo) / 2:=Int.tdiv_eq_ediv_of_nonneg (by omega)
     have w1:IntKind.i64.wrap (hi - lo)=hi - lo:=i64_in _ (by omega)
     have w2:IntKind.i64.wrap ((hi - lo).tdiv 2)=(hi - lo) / 2:=by rw [wq0];exact i64_in _ (by omega)
     have w3:IntKind.i64.wrap (lo+(hi - lo) / 2)=lo+(hi - lo) / 2:=i64_in _ (by omega)
     generalize hm:lo+(hi - lo) / 2=m at w3
     have w4:IntKind.i64.wrap (m+1)=m+1:=i64_in _ (by omega)
     obtain ⟨gc,X,p,acc,k1,k2,k3,k4,k5,k6,k7,k8,k9⟩:=zCf hT hO (c:=c) hr ⟨(T.tab.cell r c).lo,m⟩ (by simp [Spn.ok];omega)
     rw [zMs hO hr hc hv (by omega)] at k8
     have gs:=fun b:Blk=>z08 (X:=X) rfl b
     have ss:=fun b b':Blk=>z0d (X:=X) rfl b b'
     have ls:=fun b:Blk=>z06 (X:=X) rfl b
     have wr:∀ y:Spn,z0K (spV y) 1 (.int .i64 m)=some (spV ⟨y.lo,m⟩):=fun _=>rfl
     have scI:∀ (k:IntKind) (z:Int),scrub 1 (.int k z)=.int k z:=fun _ _=>rfl
     have scP:scrub 1 (.ptr 0 0 0 0)=.ptr 0 0 0 0:=rfl
     simp only [boxT] at k1 k2 k3 k5 k7 k8 k9
     cases hq:decide (v≤m) with
     | true=>
       rw [hq] at k8
       have hq':=of_decide_eq_true hq
       have ih':=ih lo m
       simp only [go_sem,simprocAttr,Try.f85,boxT] at ih' ⊢
       rw [exec_loop]
       simp only [go_sem,simprocAttr,hd,r0,c0,Int.toNat_natCast,w1,w2,hm,w3,w4,k1,k2,k3,k4,k5,k6,k7,k8,k9,gs,ss,ls,wr,hget,dR,dC,hrl,Nat.zero_le,Nat.lt_add_one,List.length_set,List.map_cons,List.map_nil,scI,scP]
       exact ih' _ _ _ _ _ _ _ _ _ _ _ _ _ _ _ _ _ _ _ _ _ _ _ _ _ _ _ _ _ _ _ _ _ _ _ _ _ _ _ _ _ _ _ _ _ _ _ _ _ _ (by omega) h2 h3 hq' (by omega)
     | false=>
       rw [hq] at k8
       have hq':=of_decide_eq_false hq
       have ih':=ih (m+1) hi
       simp only [go_sem,simprocAttr,Try.f85,boxT] at ih' ⊢
       rw [exec_loop]
       simp only [go_sem,simprocAttr,hd,r0,c0,Int.toNat_natCast,w1,w2,hm,w3,w4,k1,k2,k3,k4,k5,k6,k7,k8,k9,gs,ss,ls,wr,hget,dR,dC,hrl,Nat.zero_le,Nat.lt_add_one,List.length_set,List.map_cons,List.map_nil,scI,scP]
       exact ih' _ _ _ _ _ _ _ _ _ _ _ _ _ _ _ _ _ _ _ _ _ _ _ _ _ _ _ _ _ _ _ _ _ _ _ _ _ _ _ _ _ _ _ _ _ _ _ _ _ _ (by omega) (by omega) (by omega) h4 h5
   · have hd:decide (lo < hi)=false:=decide_eq_false hlt
     have:lo=v:=by omega
     subst this
     simp only [go_sem,simprocAttr,Try.f85]
     rw [exec_loop]
     simp only [go_sem,simprocAttr,hd]
     exact frP (by kernel_rfl)
set_option maxRecDepth 10000
set_option maxHeartbeats 4000000
theorem zNC {T:TabV} (hT:T.Wf) (hO:T.tab.Ok) {r c:Nat} (hr:r < T.tab.R) (hc:c < T.tab.C) {v:Int} (hv:Great T.tab r c v):∀ (n:Nat) (lo hi:Int) (j0 j4 j5 j6 j9 j10 j11 j12 j13 j14 j15 j16 j17 j18 j19 j20 j21 j22 j23 j24 j25 j26 j27 j28 j29 j30 j31 j32 j33 j34 j35 j36 j37 j38 j39 j40 j41 j42 j43 j44 j45 j46 j47 j48 j49 j50 j51 j52 j53 j54 j55:AVal),hi - lo < n→(T.tab.cell r c).lo≤lo→lo≤v→v≤hi→hi≤(T.tab.cell r c).hi →
    Goes (execT env (Try.f86.at [1,1,0,0]) ⟨[j0,.int .i64 r,.int .i64 c,.ptr 0 0 0 0,j4,j5,j6,.int .i64 lo,.int .i64 hi,j9,j10,j11,j12,j13,j14,j15,j16,j17,j18,j19,j20,j21,j22,j23,j24,j25,j26,j27,j28,j29,j30,j31,j32,j33,j34,j35,j36,j37,j38,j39,j40,j41,j42,j43,j44,j45,j46,j47,j48,j49,j50,j51,j52,j53,j54,j55],[boxT T],[],0,[]⟩) fun ex s=>
     ex=.exit 0∧FrP 56 [(7,.int .i64 v)] [boxT T] [] 0 [] s:=by
 have bc:=hO.cell_ok hr hc
 have r0:(0:Int)≤(r:Int):=by omega
 have c0:(0:Int)≤(c:Int):=by omega
 have dR:decide ((r:Int) < (T.tab.R:Int))=true:=by simp;omega
 have dC:decide ((c:Int) < (T.tab.C:Int))=true:=by simp;omega
 have hrl:=z0V hO.len hO.wid hr
 have hget:=z2m hO hr hc
 intro n
 induction n with
 | zero=>
   intro lo hi;intros;rename_i h1 h2 h3 h4 h5
   omega
 | succ n ih=>
   intro lo hi;intros;rename_i h1 h2 h3 h4 h5
   by_cases hlt:lo < hi
   · have hd:decide (lo < hi)=true:=decide_eq_true hlt
     have wq0:(hi - lo+1).tdiv 2=(hi - lo+1) / 2:=Int.tdiv_eq_ediv_of_nonneg (by omega)
     have w1:IntKind.i64.wrap (hi - lo)=hi - lo:=i64_in _ (by omega)
     have w0:IntKind.i64.wrap (hi - lo+1)=hi - lo+1:=i64_in _ (by omega)
     have w2:IntKind.i64.wrap ((hi - lo+1).tdiv 2)=(hi - lo+1) / 2:=by rw [wq0];exact i64_in _ (by omega)
     have w3:IntKind.i64.wrap (lo+(hi - lo+1) / 2)=lo+(hi - lo+1) / 2:=i64_in _ (by omega)
     generalize hm:lo+(hi - lo+1) / 2=m at w3
     have w4:IntKind.i64.wrap (m - 1)=m - 1:=i64_in _ (by omega)
     obtain ⟨gc,X,p,acc,k1,k2,k3,k4,k5,k6,k7,k8,k9⟩:=zCf hT hO (c:=c) hr ⟨m,(T.tab.cell r c).hi⟩ (by simp [Spn.ok];omega)
     rw [zK6 hO hr hc hv (by omega)] at k8
     have gs:=fun b:Blk=>z08 (X:=X) rfl b
     have ss:=fun b b':Blk=>z0d (X:=X) rfl b b'
     have ls:=fun b:Blk=>z06 (X:=X) rfl b
     have wr:∀ y:Spn,z0K (spV y) 0 (.int .i64 m)=some (spV ⟨m,y.hi⟩):=fun _=>rfl
     have scI:∀ (k:IntKind) (z:Int),scrub 1 (.int k z)=.int k z:=fun _ _=>rfl
     have scP:scrub 1 (.ptr 0 0 0 0)=.ptr 0 0 0 0:=rfl
     simp only [boxT] at k1 k2 k3 k5 k7 k8 k9
     cases hq:decide (m≤v) with
     | true=>
       rw [hq] at k8
       have hq':=of_decide_eq_true hq
       have ih':=ih m hi
       simp only [go_sem,simprocAttr,Try.f86,boxT] at ih' ⊢
       rw [exec_loop]
       simp only [go_sem,simprocAttr,hd,r0,c0,Int.toNat_natCast,w0,w1,w2,hm,w3,w4,k1,k2,k3,k4,k5,k6,k7,k8,k9,gs,ss,ls,wr,hget,dR,dC,hrl,Nat.zero_le,Nat.lt_add_one,List.length_set,List.map_cons,List.map_nil,scI,scP]
       exact ih' _ _ _ _ _ _ _ _ _ _ _ _ _ _ _ _ _ _ _ _ _ _ _ _ _ _ _ _ _ _ _ _ _ _ _ _ _ _ _ _ _ _ _ _ _ _ _ _ _ _ _ (by omega) (by omega) hq' h4 h5
     | false=>
       rw [hq] at k8
       have hq':=of_decide_eq_false hq
       have ih':=ih lo (m - 1)
       simp only [go_sem,simprocAttr,Try.f86,boxT] at ih' ⊢
       rw [exec_loop]
       simp only [go_sem,simprocAttr,hd,r0,c0,Int.toNat_natCast,w0,w1,w2,hm,w3,w4,k1,k2,k3,k4,k5,k6,k7,k8,k9,gs,ss,ls,wr,hget,dR,dC,hrl,Nat.zero_le,Nat.lt_add_one,List.length_set,List.map_cons,List.map_nil,scI,scP]
       exact ih' _ _ _ _ _ _ _ _ _ _ _ _ _ _ _ _ _ _ _ _ _ _ _ _ _ _ _ _ _ _ _ _ _ _ _ _ _ _ _ _ _ _ _ _ _ _ _ _ _ _ _ (by omega) h2 h3 (by omega) (by omega)
   · have hd:decide (lo < hi)=false:=decide_eq_false hlt
     have:lo=v:=by omega
     subst this
     simp only [go_sem,simprocAttr,Try.f86]
     rw [exec_loop]
     simp only [go_sem,simprocAttr,hd]
     exact frP (by kernel_rfl)
theorem Least.range {t:Tab} {r c:Nat} (hr:r < t.R) (hc:c < t.C) {v:Int} (h:Least t r c v):(t.cell r c).lo≤v∧v≤(t.cell r c).hi:=by
 obtain ⟨s,hs,rfl⟩:=h.at_
 exact hs.cell r c hr hc
theorem Great.range {t:Tab} {r c:Nat} (hr:r < t.R) (hc:c < t.C) {v:Int} (h:Great t r c v):(t.cell r c).lo≤v∧v≤(t.cell r c).hi:=by
 obtain ⟨s,hs,rfl⟩:=h.at_
 exact hs.cell r c hr hc
theorem z9u {T:TabV} (hT:T.Wf) (hO:T.tab.Ok) {r c:Nat} (hr:r < T.tab.R) (hc:c < T.tab.C) {v:Int} (hv:Least T.tab r c v) (ro:Nat) (H:Heap) (nx:Nat):callT env 85 [T.v,.int .i64 r,.int .i64 c] ro H nx=some (.ret (.int .i64 v),.ups []):=by
 have hu:underL 0 [T.v,.int .i64 r,.int .i64 c]=true:=by simp [underL,AVal.under,TabV.under]
 have:∃ H',runT env 85 [T.v,.int .i64 r,.int .i64 c] [] 0=some (.ret (.int .i64 v),H'):=by
  have r0:(0:Int)≤(r:Int):=by omega
  have c0:(0:Int)≤(c:Int):=by omega
  obtain ⟨s,_,q1,q2,q3,_,_⟩:=TabV.at hT hO hr hc
  have q3:=eq_true q3
  obtain ⟨v1,v2⟩:=hv.range hr hc
  have bc:=hO.cell_ok hr hc
  obtain ⟨ex,st,hx,hp⟩:=zNS hT hO hr hc hv (((T.tab.cell r c).hi - (T.tab.cell r c).lo).toNat+1) (T.tab.cell r c).lo (T.tab.cell r c).hi _ _ _ _ _ _ _ _ _ _ _ _ _ _ _ _ _ _ _ _ _ _ _ _ _ _ _ _ _ _ _ _ _ _ _ _ _ _ _ _ _ _ _ _ _ _ _ _ _ _ (by omega) (Int.le_refl _) v1 v2 (Int.le_refl _)
  obtain ⟨rfl,jp,rfl⟩:=hp
  simp only [go_sem,simprocAttr,Try.f85,boxT] at hx
  rw [run_unfold fn85 rfl]
  simp only [go_sem,simprocAttr,Try.f85,r0,c0,Int.toNat_natCast,q1,q2,q3]
  rw [hx]
  simp only [go_sem,simprocAttr,unwind,modeEx,resultsOf,one]
  exact ⟨_,rfl⟩
 obtain ⟨H',h⟩:=this
 exact call_pure rfl rfl rfl hu h rfl ro H nx
theorem z7X {T:TabV} (hT:T.Wf) (hO:T.tab.Ok) {r c:Nat} (hr:r < T.tab.R) (hc:c < T.tab.C) {v:Int} (hv:Great T.tab r c v) (ro:Nat) (H:Heap) (nx:Nat):callT env 86 [T.v,.int .i64 r,.int .i64 c] ro H nx=some (.ret (.int .i64 v),.ups []):=by
 have hu:underL 0 [T.v,.int .i64 r,.int .i64 c]=true:=by simp [underL,AVal.under,TabV.under]
 have:∃ H',runT env 86 [T.v,.int .i64 r,.int .i64 c] [] 0=some (.ret (.int .i64 v),H'):=by
  have r0:(0:Int)≤(r:Int):=by omega
  have c0:(0:Int)≤(c:Int):=by omega
  obtain ⟨s,_,q1,q2,q3,_,_⟩:=TabV.at hT hO hr hc
  have q3:=eq_true q3
  obtain ⟨v1,v2⟩:=hv.range hr hc
  have bc:=hO.cell_ok hr hc
  obtain ⟨ex,st,hx,hp⟩:=zNC hT hO hr hc hv (((T.tab.cell r c).hi - (T.tab.cell r c).lo).toNat+1) (T.tab.cell r c).lo (T.tab.cell r c).hi _ _ _ _ _ _ _ _ _ _ _ _ _ _ _ _ _ _ _ _ _ _ _ _ _ _ _ _ _ _ _ _ _ _ _ _ _ _ _ _ _ _ _ _ _ _ _ _ _ _ _ (by omega) (Int.le_refl _) v1 v2 (Int.le_refl _)
  obtain ⟨rfl,jp,rfl⟩:=hp
  simp only [go_sem,simprocAttr,Try.f86,boxT] at hx
  rw [run_unfold fn86 rfl]
  simp only [go_sem,simprocAttr,Try.f86,r0,c0,Int.toNat_natCast,q1,q2,q3]
  rw [hx]
  simp only [go_sem,simprocAttr,unwind,modeEx,resultsOf,one]
  exact ⟨_,rfl⟩
 obtain ⟨H',h⟩:=this
 exact call_pure rfl rfl rfl hu h rfl ro H nx
theorem z3T {t:Tab} {i k:Int} (h:askS t i k=0):t.Ok∧canB t=true∧outB t i k=false:=by
 unfold askS at h
 cases hok:t.ok with
 | false=>rw [hok] at h;simp at h
 | true=>
   rw [hok] at h
   cases hcan:canB t with
   | false=>rw [hcan] at h;simp at h
   | true=>
     rw [hcan] at h
     cases ho:outB t i k with
     | true=>rw [ho] at h;simp at h
     | false=>exact ⟨Tab.ok_iff.1 hok,rfl,rfl⟩
theorem z6W {t:Tab} {r c:Nat} (hr:r < t.R) (hc:c < t.C) {lo hi:Int} (h:IsEnds t.net [r * t.C+c] lo hi):Least t r c lo∧Great t r c hi:=by
 obtain ⟨⟨x,hx,ex⟩,⟨y,hy,ey⟩,ha⟩:=z0y.1 h
 rw [z0i t _ hr hc] at ex ey
 refine ⟨⟨⟨x,hx,ex⟩,fun s hs=>?_⟩,⟨⟨y,hy,ey⟩,fun s hs=>?_⟩⟩
 · have:=(ha s hs).1;rwa [z0i t _ hr hc] at this
 · have:=(ha s hs).2;rwa [z0i t _ hr hc] at this
theorem z7m {T:TabV} (hT:T.Wf) (i k:Int) {v:AVal} (hv:EndsAns T.tab (askS T.tab i k) [i.toNat * T.tab.C+k.toNat] v) (ro:Nat) (H:Heap) (nx:Nat):callT env 27 [T.v,.int .i64 i,.int .i64 k] ro H nx=some (.ret v,.ups []):=by
 have hu:underL 0 [T.v,.int .i64 i,.int .i64 k]=true:=by simp [underL,AVal.under,TabV.under]
 have:∃ H',runT env 27 [T.v,.int .i64 i,.int .i64 k] [] 0=some (.ret v,H'):=by
  have rc:=z4P hT i k
  rcases hv with ⟨hz,rfl⟩ | ⟨hz,hO,lo,hi,he,rfl⟩
  · have hz':decide (askS T.tab i k=0)=false:=decide_eq_false hz
    rw [run_unfold fn27 rfl]
    simp only [go_sem,simprocAttr,Try.f27,rc,hz',unwind,modeEx,resultsOf,one]
    exact ⟨_,rfl⟩
  · obtain ⟨_,_,ho⟩:=z3T hz
    obtain ⟨r,c,rfl,rfl,hr,hc⟩:=z1r ho
    rw [Int.toNat_natCast,Int.toNat_natCast] at he
    obtain ⟨e1,e2⟩:=z6W hr hc he
    have c1:=z9u hT hO hr hc e1
    have c2:=z7X hT hO hr hc e2
    rw [hz] at rc
    rw [run_unfold fn27 rfl]
    simp only [go_sem,simprocAttr,Try.f27,rc,c1,c2,unwind,modeEx,resultsOf,one]
    rw [apart_ok]
    · simp only [go_sem,simprocAttr,unwind,modeEx,resultsOf,one]
      exact ⟨_,rfl⟩
    · kernel_rfl
 obtain ⟨H',h⟩:=this
 have hn:noRef v=true:=hv.pure.1
 exact call_pure rfl rfl rfl hu h hn ro H nx
set_option maxRecDepth 10000
set_option maxHeartbeats 4000000
def Tab.setRow (t:Tab) (i:Nat) (x:Spn):Tab:=⟨t.rows.set i x,t.cols,t.cells⟩
theorem z3H (t:Tab) (i:Nat) (x:Spn):(t.setRow i x).R=t.R:=List.length_set
theorem zFm (t:Tab) (i:Nat) (x:Spn):(t.setRow i x).C=t.C:=rfl
theorem z9V {t:Tab} (hO:t.Ok) {i:Nat} {x:Spn} (hx:x.ok=true):(t.setRow i x).Ok where
 R1:=by rw [z3H];exact hO.R1
 C1:=hO.C1
 R8:=by rw [z3H];exact hO.R8
 C8:=hO.C8
 len:=by rw [z3H];exact hO.len
 row y hy:=by
  rcases List.mem_or_eq_of_mem_set hy with h | rfl
  · exact hO.row y h
  · exact hx
 col:=hO.col
 wid:=hO.wid
 cel:=hO.cel
theorem z3N {t:Tab} {i:Nat} (x:Spn) (hi:i < t.R) (j:Nat):(t.setRow i x).row j=if j=i then x else t.row j:=by
 unfold Tab.row Tab.setRow
 simp only
 by_cases h:j=i
 · subst h
   rw [if_pos rfl,List.getD_eq_getElem?_getD,List.getElem?_set_self hi];rfl
 · rw [if_neg h,List.getD_eq_getElem?_getD,List.getElem?_set_ne (Ne.symm h),← List.getD_eq_getElem?_getD]
theorem TbAt.writeRow {H:Heap} {a b q ga gb g:Nat} {ps:Nat→Nat} {t:Tab} (h:TbAt H a b q ga gb g ps t) (i:Nat) (x:Spn):
    TbAt (H.set a (.cells ga 2 true ((t.rows.map spV).set i (spV x)))) a b q ga gb g ps (t.setRow i x):=by
 obtain ⟨l1,l2,l3,l4⟩:=h.lt
 have e:=z3H t i x
 refine ⟨?_,?_,?_,fun j hj=>?_,h.ab,h.aq,h.bq,by rw [e];exact h.pa,by rw [e];exact h.pp⟩
 · rw [List.getElem?_set_self l1]
   show _=some (Blk.cells ga 2 true ((t.rows.set i x).map spV))
   rw [List.map_set]
 · rw [List.getElem?_set_ne h.ab];exact h.cols
 · rw [List.getElem?_set_ne h.aq,e];exact h.acc
 · rw [e] at hj
   rw [List.getElem?_set_ne (h.pa j hj).1.symm];exact h.row j hj
structure LeastF (t:Tab) (φ:(Nat→Nat→Int)→Int) (v:Int):Prop where
 at_:∃ s,Fits t s∧φ s=v
 all:∀ s,Fits t s→v≤φ s
structure GreatF (t:Tab) (φ:(Nat→Nat→Int)→Int) (v:Int):Prop where
 at_:∃ s,Fits t s∧φ s=v
 all:∀ s,Fits t s→φ s≤v
def rowF (t:Tab) (r:Nat) (s:Nat→Nat→Int):Int:=sumN t.C (s r)
theorem z6g {t:Tab} {r:Nat} (hr:r < t.R) {x:Spn} (h1:(t.row r).lo≤x.lo) (h2:x.hi≤(t.row r).hi) (s:Nat→Nat→Int):Fits (t.setRow r x) s ↔ Fits t s∧x.lo≤rowF t r s∧rowF t r s≤x.hi:=by
 have hs:=fun i=>z3N x hr i
 have eR:=z3H t r x
 constructor
 · intro h
   have h0:=h.row r (by rw [eR];exact hr)
   rw [hs,if_pos rfl] at h0
   refine ⟨⟨fun i k hi hk=>h.cell i k (by rw [eR];exact hi) hk,fun i hi=>?_,fun k hk=>?_⟩,h0⟩
   · have h3:=h.row i (by rw [eR];exact hi)
     rw [hs] at h3
     by_cases h4:i=r
     · subst h4
       rw [if_pos rfl] at h3
       exact ⟨Int.le_trans h1 h3.1,Int.le_trans h3.2 h2⟩
     · rwa [if_neg h4] at h3
   · have h3:=h.col k hk
     rwa [eR] at h3
 · rintro ⟨h,h3⟩
   refine ⟨fun i k hi hk=>h.cell i k (by rw [eR] at hi;exact hi) hk,fun i hi=>?_,fun k hk=>?_⟩
   · rw [eR] at hi
     rw [hs]
     by_cases h4:i=r
     · subst h4;rw [if_pos rfl];exact h3
     · rw [if_neg h4];exact h.row i hi
   · rw [eR];exact h.col k hk
theorem zNp {t:Tab} {r:Nat} (hr:r < t.R) {v m:Int} (hv:LeastF t (rowF t r) v) (h2:m≤(t.row r).hi):canB (t.setRow r ⟨(t.row r).lo,m⟩)=decide (v≤m):=by
 rw [Bool.eq_iff_iff,z0S,decide_eq_true_eq]
 have hf:=z6g hr (x:=⟨(t.row r).lo,m⟩) (Int.le_refl _) h2
 constructor
 · rintro ⟨s,hs⟩
   have:=(hf s).1 hs
   have h3:=hv.all s this.1
   have:rowF t r s≤m:=this.2.2
   omega
 · intro hm
   obtain ⟨s,hs,e⟩:=hv.at_
   have h3:(t.row r).lo≤rowF t r s:=(hs.row r hr).1
   exact ⟨s,(hf s).2 ⟨hs,h3,by show rowF t r s≤m;omega⟩⟩
theorem zL2 {t:Tab} {r:Nat} (hr:r < t.R) {v m:Int} (hv:GreatF t (rowF t r) v) (h2:(t.row r).lo≤m):canB (t.setRow r ⟨m,(t.row r).hi⟩)=decide (m≤v):=by
 rw [Bool.eq_iff_iff,z0S,decide_eq_true_eq]
 have hf:=z6g hr (x:=⟨m,(t.row r).hi⟩) h2 (Int.le_refl _)
 constructor
 · rintro ⟨s,hs⟩
   have:=(hf s).1 hs
   have h3:=hv.all s this.1
   have:m≤rowF t r s:=this.2.1
   omega
 · intro hm
   obtain ⟨s,hs,e⟩:=hv.at_
   have h3:rowF t r s≤(t.row r).hi:=(hs.row r hr).2
   exact ⟨s,(hf s).2 ⟨hs,by show m≤rowF t r s;omega,h3⟩⟩
theorem zFC {t:Tab} {r:Nat} (hr:r < t.R) {lo hi:Int} (h:IsEnds t.net [t.R * t.C+r] lo hi):LeastF t (rowF t r) lo∧GreatF t (rowF t r) hi:=by
 obtain ⟨⟨x,hx,ex⟩,⟨y,hy,ey⟩,ha⟩:=z0y.1 h
 rw [z1N t _ hr] at ex ey
 refine ⟨⟨⟨x,hx,ex⟩,fun s hs=>?_⟩,⟨⟨y,hy,ey⟩,fun s hs=>?_⟩⟩
 · have:=(ha s hs).1;rwa [z1N t _ hr] at this
 · have:=(ha s hs).2;rwa [z1N t _ hr] at this
theorem zFh {T:TabV} (hT:T.Wf) (hO:T.tab.Ok) {r:Nat} (x y1 y2:Spn) (hx:x.ok=true):
    ∃ (gc:Nat) (X:Heap),callT env 89 [T.v] 0 [boxT T,.cells 0 2 true [spV y1],.cells 0 2 true [spV y2]] 3=some (.ret (.agg [.ref 5 1 0 T.tab.R false,.ref 6 1 0 T.tab.C false,.ref 7 gc 0 T.tab.R false]),.ups (numbered 3 X)) ∧
     putU [boxT T,.cells 0 2 true [spV y1],.cells 0 2 true [spV y2]] (numbered 3 X)=boxT T :: Blk.cells 0 2 true [spV y1] :: Blk.cells 0 2 true [spV y2] :: X ∧
     (∀ M,(X++[M])[2]?=some (.cells 1 2 true (T.tab.rows.map spV)))∧(2 < X.length) ∧
     callT env 75 [.agg [.ref 5 1 0 T.tab.R false,.ref 6 1 0 T.tab.C false,.ref 7 gc 0 T.tab.R false]] 0 (boxT T :: Blk.cells 0 2 true [spV y1] :: Blk.cells 0 2 true [spV y2] :: (X++[Blk.cells 0 3 false [.agg [.ref 5 1 0 T.tab.R false,.ref 6 1 0 T.tab.C false,.ref 7 gc 0 T.tab.R false]]]).set 2 (.cells 1 2 true ((T.tab.rows.map spV).set r (spV x)))) (X.length+1+1+1+1)=some (.ret (.bool (canB (T.tab.setRow r x))),.ups []) ∧
     ∀ Z Tm ro V,Z.length=X.length+1→trunc 3 ⟨Tm,boxT T :: Blk.cells 0 2 true [spV y1] :: Blk.cells 0 2 true [spV y2] :: Z,[],ro,V⟩=⟨Tm.map (scrub 3),[boxT T,.cells 0 2 true [spV y1],.cells 0 2 true [spV y2]],[],ro,V⟩:=by
 obtain ⟨gc,cl⟩:=z2s hT hO
 have cl:=cl 0 [boxT T,.cells 0 2 true [spV y1],.cells 0 2 true [spV y2]] 3
 have at0:=z4F hO [boxT T,.cells 0 2 true [spV y1],.cells 0 2 true [spV y2]] gc
 have hpu:=z0g (cpX T 3 gc) [boxT T,.cells 0 2 true [spV y1],.cells 0 2 true [spV y2]]
 have H1:([boxT T,.cells 0 2 true [spV y1],.cells 0 2 true [spV y2]]:Heap).length=3:=rfl
 rw [H1] at at0 hpu
 generalize hX:cpX T 3 gc=X at cl at0 hpu
 have at1:=at0.more [.cells 0 3 false [memT T.tab (3+2) (3+3) (3+4) 1 1 gc]]
 have at2:=at1.writeRow r x
 have hO2:(T.tab.setRow r x).Ok:=z9V hO hx
 have hcan:=zAt (z1S hO2.R8 hO2.C8 hO2.len hO2.wid) (by rw [z0P];exact hO2)
 rw [z0P] at hcan
 obtain ⟨Hm,mr⟩:=hcan
 obtain ⟨ids,hle⟩:=at2.lend (lits:=[0]) hO2.R8 hO2.len hO2.wid rfl (args:=[]) rfl
 obtain ⟨us,mc,hus⟩:=z21 (f:=75) rfl rfl rfl rfl hle z0b mr (handBack_noRef _ _ _ _ _ rfl) rfl (X.length+1+1+1+1)
 have hus:=hus rfl
 subst hus
 have hl:2 < X.length:=by
  have:=at0.lt.1
  rw [List.length_append,H1] at this;omega
 have hrow:=at0.rows
 refine ⟨gc,X,cl,hpu,fun M=>?_,hl,?_,fun Z Tm ro V hZ=>?_⟩
 · rw [List.getElem?_append_left hl];exact hrow
 · simp only [memT,z3H,zFm,List.cons_append,List.nil_append,Nat.reduceAdd,List.set_cons_succ] at mc
   exact mc
 · unfold trunc
   have h1:¬ ((boxT T :: Blk.cells 0 2 true [spV y1] :: Blk.cells 0 2 true [spV y2] :: Z).length≤3):=by
    simp only [List.length_cons];omega
   simp only [h1,if_false,List.take_succ_cons,List.take_zero,List.all_cons,List.all_nil,Bool.and_true]
   have h2:underB 3 (boxT T)=true:=by simp [underB,boxT,underL,TabV.under]
   have h3:∀ y,underB 3 (.cells 0 2 true [spV y])=true:=fun y=>by simp [underB,underL]
   simp only [h2,h3,Bool.and_self,if_true]
theorem zKz {T:TabV} (hT:T.Wf) (hO:T.tab.Ok) {r:Nat} (hr:r < T.tab.R) {v:Int} (hv:LeastF T.tab (rowF T.tab r) v):∀ (n:Nat) (lo hi:Int) (j0 j3 j5 j6 j10 j11 j12 j13 j14 j15 j16 j17 j18 j19 j20 j21 j22 j23 j24 j25 j26 j27 j28 j29 j30 j31 j32 j33 j34 j35 j36 j37 j38 j39 j40 j41 j42 j43 j44 j45 j46 j47 j48 j49 j50 j51 j52 j53 j54 j55 j56 j57 j58 j59 j60 j61 j62 j63 j64 j65 j66 j67 j68 j69 j70 j71 j72 j73 j74 j75 j76 j77 j78 j79 j80 j81 j82 j83 j84 j85 j86 j87:AVal),hi - lo < n→(T.tab.row r).lo≤lo→lo≤v→v≤hi→hi≤(T.tab.row r).hi →
    Goes (execT env (Try.f29.at [1,1,1,1,0,0]) ⟨[j0,.int .i64 r,.ptr 0 0 0 0,j3,.ptr 1 0 0 0,j5,j6,.ptr 2 0 0 0,.int .i64 lo,.int .i64 hi,j10,j11,j12,j13,j14,j15,j16,j17,j18,j19,j20,j21,j22,j23,j24,j25,j26,j27,j28,j29,j30,j31,j32,j33,j34,j35,j36,j37,j38,j39,j40,j41,j42,j43,j44,j45,j46,j47,j48,j49,j50,j51,j52,j53,j54,j55,j56,j57,j58,j59,j60,j61,j62,j63,j64,j65,j66,j67,j68,j69,j70,j71,j72,j73,j74,j75,j76,j77,j78,j79,j80,j81,j82,j83,j84,j85,j86,j87],[boxT T,.cells 0 2 true [spV ⟨0,0⟩],.cells 0 2 true [spV (T.tab.row r)]],[],0,[]⟩) fun ex s=>
     ex=.exit 0∧FrP 88 [(1,.int .i64 r),(2,.ptr 0 0 0 0),(4,.ptr 1 0 0 0),(7,.ptr 2 0 0 0),(8,.int .i64 v)] ([boxT T,.cells 0 2 true [spV ⟨0,0⟩],.cells 0 2 true [spV (T.tab.row r)]]) [] 0 [] s:=by
 have bc:=hO.row_ok hr
 have r0:(0:Int)≤(r:Int):=by omega
 have dR:decide ((r:Int) < (T.tab.R:Int))=true:=by simp;omega
 obtain ⟨hget,_⟩:=TabV.rowAt hT hr
 have hget':(T.tab.rows.map spV)[r]?=some (spV (T.tab.row r)):=hget
 have hrl:(T.tab.rows.map spV).length=T.tab.R:=by simp [Tab.R]
 intro n
 induction n with
 | zero=>
   intro lo hi;intros;rename_i h1 h2 h3 h4 h5
   omega
 | succ n ih=>
   intro lo hi;intros;rename_i h1 h2 h3 h4 h5
   by_cases hlt:lo < hi
   · have hd:decide (lo < hi)=true:=decide_eq_true hlt
     have wq0:(hi - lo).tdiv 2=(hi - lo) / 2:=Int.tdiv_eq_ediv_of_nonneg (by omega)
     have w1:IntKind.i64.wrap (hi - lo)=hi - lo:=i64_in _ (by omega)
     have w2:IntKind.i64.wrap ((hi - lo).tdiv 2)=(hi - lo) / 2:=by rw [wq0];exact i64_in _ (by omega)
     have w3:IntKind.i64.wrap (lo+(hi - lo) / 2)=lo+(hi - lo) / 2:=i64_in _ (by omega)
     generalize hm:lo+(hi - lo) / 2=m at w3
     have w4:IntKind.i64.wrap (m+1)=m+1:=i64_in _ (by omega)
     obtain ⟨gc,X,k1,k2,k3,k4,k5,k6⟩:=zFh hT hO (r:=r) ⟨(T.tab.row r).lo,m⟩ ⟨0,0⟩ (T.tab.row r) (by simp [Spn.ok];omega)
     rw [zNp hr hv (by omega)] at k5
     have gs:=fun b:Blk=>z08 (X:=X) rfl b
     have ss:=fun b b':Blk=>z0d (X:=X) rfl b b'
     have ls:=fun b:Blk=>z06 (X:=X) rfl b
     have hs:∀ b b':Blk,((X++[b]).set 2 b')[X.length]?=some b:=fun b b'=>by rw [List.getElem?_set_ne (by omega)];exact z08 rfl b
     have wr:∀ y:Spn,z0K (spV y) 0 (.agg [.int .i64 (T.tab.row r).lo,.int .i64 m])=some (spV ⟨(T.tab.row r).lo,m⟩):=fun _=>rfl
     have scI:∀ (k:IntKind) (z:Int),scrub 3 (.int k z)=.int k z:=fun _ _=>rfl
     have scP:∀ p o,p < 3→scrub 3 (.ptr p 0 0 o)=.ptr p 0 0 o:=fun p o h=>by simp [scrub,AVal.under,h]
     have sc0:=scP 0 0 (by omega)
     have sc1:=scP 1 0 (by omega)
     have sc2:=scP 2 0 (by omega)
     have z1:(5 < X.length+1+1+1+1)=True:=eq_true (by omega)
     have z2:decide (2 < X.length+1)=true:=decide_eq_true (by omega)
     have k6':=fun b b' Tm ro V=>k6 ((X++[b]).set 2 b') Tm ro V (by simp)
     simp only [boxT] at k1 k2 k5 k6'
     cases hq:decide (v≤m) with
     | true=>
       rw [hq] at k5
       have hq':=of_decide_eq_true hq
       have ih':=ih lo m
       simp only [go_sem,simprocAttr,Try.f29,boxT] at ih' ⊢
       rw [exec_loop]
       simp only [go_sem,simprocAttr,hd,r0,Int.toNat_natCast,w1,w2,hm,w3,w4,k1,k2,k3,k5,k6',gs,ss,ls,hs,wr,hget',dR,hrl,z1,z2,Nat.zero_le,Nat.lt_add_one,List.length_set,List.map_cons,List.map_nil,scI,sc0,sc1,sc2]
       exact ih' _ _ _ _ _ _ _ _ _ _ _ _ _ _ _ _ _ _ _ _ _ _ _ _ _ _ _ _ _ _ _ _ _ _ _ _ _ _ _ _ _ _ _ _ _ _ _ _ _ _ _ _ _ _ _ _ _ _ _ _ _ _ _ _ _ _ _ _ _ _ _ _ _ _ _ _ _ _ _ _ _ _ (by omega) h2 h3 hq' (by omega)
     | false=>
       rw [hq] at k5
       have hq':=of_decide_eq_false hq
       have ih':=ih (m+1) hi
       simp only [go_sem,simprocAttr,Try.f29,boxT] at ih' ⊢
       rw [exec_loop]
       simp only [go_sem,simprocAttr,hd,r0,Int.toNat_natCast,w1,w2,hm,w3,w4,k1,k2,k3,k5,k6',gs,ss,ls,hs,wr,hget',dR,hrl,z1,z2,Nat.zero_le,Nat.lt_add_one,List.length_set,List.map_cons,List.map_nil,scI,sc0,sc1,sc2]
       exact ih' _ _ _ _ _ _ _ _ _ _ _ _ _ _ _ _ _ _ _ _ _ _ _ _ _ _ _ _ _ _ _ _ _ _ _ _ _ _ _ _ _ _ _ _ _ _ _ _ _ _ _ _ _ _ _ _ _ _ _ _ _ _ _ _ _ _ _ _ _ _ _ _ _ _ _ _ _ _ _ _ _ _ (by omega) (by omega) (by omega) h4 h5
   · have hd:decide (lo < hi)=false:=decide_eq_false hlt
     have:lo=v:=by omega
     subst this
     simp only [go_sem,simprocAttr,Try.f29]
     rw [exec_loop]
     simp only [go_sem,simprocAttr,hd]
     exact frP (by kernel_rfl)
set_option maxRecDepth 10000
set_option maxHeartbeats 4000000
theorem zKy {T:TabV} (hT:T.Wf) (hO:T.tab.Ok) {r:Nat} (hr:r < T.tab.R) {v:Int} (hv:GreatF T.tab (rowF T.tab r) v) (z:Int):∀ (n:Nat) (lo hi:Int) (j0 j3 j5 j6 j10 j11 j13 j14 j15 j16 j17 j18 j19 j20 j21 j22 j23 j24 j25 j26 j27 j28 j29 j30 j31 j32 j33 j34 j35 j36 j37 j38 j39 j40 j41 j42 j43 j44 j45 j46 j47 j48 j49 j50 j51 j52 j53 j54 j55 j56 j57 j58 j59 j60 j61 j62 j63 j64 j65 j66 j67 j68 j69 j70 j71 j72 j73 j74 j75 j76 j77 j78 j79 j80 j81 j82 j83 j84 j85 j86 j87:AVal),hi - lo < n→(T.tab.row r).lo≤lo→lo≤v→v≤hi→hi≤(T.tab.row r).hi →
    Goes (execT env (Try.f29.at [1,1,1,1,1,1,1,0,0]) ⟨[j0,.int .i64 r,.ptr 0 0 0 0,j3,.ptr 1 0 0 0,j5,j6,.ptr 2 0 0 0,.int .i64 lo,.int .i64 hi,j10,j11,.int .i64 z,j13,j14,j15,j16,j17,j18,j19,j20,j21,j22,j23,j24,j25,j26,j27,j28,j29,j30,j31,j32,j33,j34,j35,j36,j37,j38,j39,j40,j41,j42,j43,j44,j45,j46,j47,j48,j49,j50,j51,j52,j53,j54,j55,j56,j57,j58,j59,j60,j61,j62,j63,j64,j65,j66,j67,j68,j69,j70,j71,j72,j73,j74,j75,j76,j77,j78,j79,j80,j81,j82,j83,j84,j85,j86,j87],[boxT T,.cells 0 2 true [spV ⟨0,0⟩],.cells 0 2 true [spV (T.tab.row r)]],[],0,[]⟩) fun ex s=>
     ex=.exit 2∧FrP 88 [(4,.ptr 1 0 0 0),(8,.int .i64 v),(12,.int .i64 z)] ([boxT T,.cells 0 2 true [spV ⟨0,0⟩],.cells 0 2 true [spV (T.tab.row r)]]) [] 0 [] s:=by
 have bc:=hO.row_ok hr
 have r0:(0:Int)≤(r:Int):=by omega
 have dR:decide ((r:Int) < (T.tab.R:Int))=true:=by simp;omega
 obtain ⟨hget,_⟩:=TabV.rowAt hT hr
 have hget':(T.tab.rows.map spV)[r]?=some (spV (T.tab.row r)):=hget
 have hrl:(T.tab.rows.map spV).length=T.tab.R:=by simp [Tab.R]
 intro n
 induction n with
 | zero=>
   intro lo hi;intros;rename_i h1 h2 h3 h4 h5
   omega
 | succ n ih=>
   intro lo hi;intros;rename_i h1 h2 h3 h4 h5
   by_cases hlt:lo < hi
   · have hd:decide (lo < hi)=true:=decide_eq_true hlt
     have wq0:(hi - lo+1).tdiv 2=(hi - lo+1) / 2:=Int.tdiv_eq_ediv_of_nonneg (by omega)
     have w1:IntKind.i64.wrap (hi - lo)=hi - lo:=i64_in _ (by omega)
     have w0:IntKind.i64.wrap (hi - lo+1)=hi - lo+1:=i64_in _ (by omega)
     have w2:IntKind.i64.wrap ((hi - lo+1).tdiv 2)=(hi - lo+1) / 2:=by rw [wq0];exact i64_in _ (by omega)
     have w3:IntKind.i64.wrap (lo+(hi - lo+1) / 2)=lo+(hi - lo+1) / 2:=i64_in _ (by omega)
     generalize hm:lo+(hi - lo+1) / 2=m at w3
     have w4:IntKind.i64.wrap (m - 1)=m - 1:=i64_in _ (by omega)
     obtain ⟨gc,X,k1,k2,k3,k4,k5,k6⟩:=zFh hT hO (r:=r) ⟨m,(T.tab.row r).hi⟩ ⟨0,0⟩ (T.tab.row r) (by simp [Spn.ok];omega)
     rw [zL2 hr hv (by omega)] at k5
     have gs:=fun b:Blk=>z08 (X:=X) rfl b
     have ss:=fun b b':Blk=>z0d (X:=X) rfl b b'
     have ls:=fun b:Blk=>z06 (X:=X) rfl b
     have hs:∀ b b':Blk,((X++[b]).set 2 b')[X.length]?=some b:=fun b b'=>by rw [List.getElem?_set_ne (by omega)];exact z08 rfl b
     have wr:∀ y:Spn,z0K (spV y) 0 (.agg [.int .i64 m,.int .i64 (T.tab.row r).hi])=some (spV ⟨m,(T.tab.row r).hi⟩):=fun _=>rfl
     have scI:∀ (k:IntKind) (z:Int),scrub 3 (.int k z)=.int k z:=fun _ _=>rfl
     have scP:∀ p o,p < 3→scrub 3 (.ptr p 0 0 o)=.ptr p 0 0 o:=fun p o h=>by simp [scrub,AVal.under,h]
     have sc0:=scP 0 0 (by omega)
     have sc1:=scP 1 0 (by omega)
     have sc2:=scP 2 0 (by omega)
     have z1:(5 < X.length+1+1+1+1)=True:=eq_true (by omega)
     have z2:decide (2 < X.length+1)=true:=decide_eq_true (by omega)
     have k6':=fun b b' Tm ro V=>k6 ((X++[b]).set 2 b') Tm ro V (by simp)
     simp only [boxT] at k1 k2 k5 k6'
     cases hq:decide (m≤v) with
     | true=>
       rw [hq] at k5
       have hq':=of_decide_eq_true hq
       have ih':=ih m hi
       simp only [go_sem,simprocAttr,Try.f29,boxT] at ih' ⊢
       rw [exec_loop]
       simp only [go_sem,simprocAttr,hd,r0,Int.toNat_natCast,w0,w1,w2,hm,w3,w4,k1,k2,k3,k5,k6',gs,ss,ls,hs,wr,hget',dR,hrl,z1,z2,Nat.zero_le,Nat.lt_add_one,List.length_set,List.map_cons,List.map_nil,scI,sc0,sc1,sc2]
       exact ih' _ _ _ _ _ _ _ _ _ _ _ _ _ _ _ _ _ _ _ _ _ _ _ _ _ _ _ _ _ _ _ _ _ _ _ _ _ _ _ _ _ _ _ _ _ _ _ _ _ _ _ _ _ _ _ _ _ _ _ _ _ _ _ _ _ _ _ _ _ _ _ _ _ _ _ _ _ _ _ _ _ (by omega) (by omega) hq' h4 h5
     | false=>
       rw [hq] at k5
       have hq':=of_decide_eq_false hq
       have ih':=ih lo (m - 1)
       simp only [go_sem,simprocAttr,Try.f29,boxT] at ih' ⊢
       rw [exec_loop]
       simp only [go_sem,simprocAttr,hd,r0,Int.toNat_natCast,w0,w1,w2,hm,w3,w4,k1,k2,k3,k5,k6',gs,ss,ls,hs,wr,hget',dR,hrl,z1,z2,Nat.zero_le,Nat.lt_add_one,List.length_set,List.map_cons,List.map_nil,scI,sc0,sc1,sc2]
       exact ih' _ _ _ _ _ _ _ _ _ _ _ _ _ _ _ _ _ _ _ _ _ _ _ _ _ _ _ _ _ _ _ _ _ _ _ _ _ _ _ _ _ _ _ _ _ _ _ _ _ _ _ _ _ _ _ _ _ _ _ _ _ _ _ _ _ _ _ _ _ _ _ _ _ _ _ _ _ _ _ _ _ (by omega) h2 h3 (by omega) (by omega)
   · have hd:decide (lo < hi)=false:=decide_eq_false hlt
     have:lo=v:=by omega
     subst this
     simp only [go_sem,simprocAttr,Try.f29]
     rw [exec_loop]
     simp only [go_sem,simprocAttr,hd]
     exact frP (by kernel_rfl)
theorem LeastF.range {t:Tab} {r:Nat} (hr:r < t.R) {v:Int} (h:LeastF t (rowF t r) v):(t.row r).lo≤v∧v≤(t.row r).hi:=by
 obtain ⟨s,hs,rfl⟩:=h.at_
 exact hs.row r hr
theorem GreatF.range {t:Tab} {r:Nat} (hr:r < t.R) {v:Int} (h:GreatF t (rowF t r) v):(t.row r).lo≤v∧v≤(t.row r).hi:=by
 obtain ⟨s,hs,rfl⟩:=h.at_
 exact hs.row r hr
theorem z9L {T:TabV} (hT:T.Wf) (i:Int) {v:AVal} (hv:EndsAns T.tab (askS T.tab i 0) [T.tab.R * T.tab.C+i.toNat] v) (ro:Nat) (H:Heap) (nx:Nat):callT env 29 [T.v,.int .i64 i] ro H nx=some (.ret v,.ups []):=by
 have hu:underL 0 [T.v,.int .i64 i]=true:=by simp [underL,AVal.under,TabV.under]
 have:∃ H',runT env 29 [T.v,.int .i64 i] [] 0=some (.ret v,H'):=by
  have rc:=z4P hT i 0
  rcases hv with ⟨hz,rfl⟩ | ⟨hz,hO,lo,hi,he,rfl⟩
  · have hz':decide (askS T.tab i 0=0)=false:=decide_eq_false hz
    rw [run_unfold fn29 rfl]
    simp only [go_sem,simprocAttr,Try.f29,rc,hz',unwind,modeEx,resultsOf,one]
    exact ⟨_,rfl⟩
  · obtain ⟨_,_,ho⟩:=z3T hz
    obtain ⟨r,c,rfl,_,hr,_⟩:=z1r ho
    rw [Int.toNat_natCast] at he
    obtain ⟨e1,e2⟩:=zFC hr he
    obtain ⟨v1,v2⟩:=e1.range hr
    obtain ⟨v3,v4⟩:=e2.range hr
    have r0:(0:Int)≤(r:Int):=by omega
    obtain ⟨q1,q2⟩:=TabV.rowAt hT hr
    have q2:=eq_true q2
    have hget:(T.rows.l.map spV)[r]?=some (spV (T.tab.row r)):=q1
    have bc:=hO.row_ok hr
    obtain ⟨ex,st,hx,hp⟩:=zKz hT hO hr e1 (((T.tab.row r).hi - (T.tab.row r).lo).toNat+1) (T.tab.row r).lo (T.tab.row r).hi _ _ _ _ _ _ _ _ _ _ _ _ _ _ _ _ _ _ _ _ _ _ _ _ _ _ _ _ _ _ _ _ _ _ _ _ _ _ _ _ _ _ _ _ _ _ _ _ _ _ _ _ _ _ _ _ _ _ _ _ _ _ _ _ _ _ _ _ _ _ _ _ _ _ _ _ _ _ _ _ _ _ (by omega) (Int.le_refl _) v1 v2 (Int.le_refl _)
    obtain ⟨rfl,jp,rfl⟩:=hp
    obtain ⟨ex2,st2,hx2,hp2⟩:=zKy hT hO hr e2 lo (((T.tab.row r).hi - (T.tab.row r).lo).toNat+1) (T.tab.row r).lo (T.tab.row r).hi _ _ _ _ _ _ _ _ _ _ _ _ _ _ _ _ _ _ _ _ _ _ _ _ _ _ _ _ _ _ _ _ _ _ _ _ _ _ _ _ _ _ _ _ _ _ _ _ _ _ _ _ _ _ _ _ _ _ _ _ _ _ _ _ _ _ _ _ _ _ _ _ _ _ _ _ _ _ _ _ _ (by omega) (Int.le_refl _) v3 v4 (Int.le_refl _)
    obtain ⟨rfl,jq,rfl⟩:=hp2
    have hsp:spV ⟨0,0⟩=.agg [.int .i64 0,.int .i64 0]:=rfl
    rw [hz] at rc
    simp only [go_sem,simprocAttr,Try.f29,boxT,hsp] at hx hx2
    rw [run_unfold fn29 rfl]
    simp only [go_sem,simprocAttr,Try.f29,rc,r0,Int.toNat_natCast,hget,q2]
    rw [hx]
    simp only [go_sem,simprocAttr]
    rw [hx2]
    simp only [go_sem,simprocAttr,unwind,modeEx,resultsOf,one]
    exact ⟨_,rfl⟩
 obtain ⟨H',h⟩:=this
 have hn:noRef v=true:=hv.pure.1
 exact call_pure rfl rfl rfl hu h hn ro H nx
set_option maxRecDepth 10000
set_option maxHeartbeats 4000000
theorem z9f {t:Tab} {i k:Nat} (hi:i < t.R) (hk:k < t.C):t.turn.cell k i=t.cell i k:=by
 show (((List.range t.C).map fun k=>colL t k t.R).getD k []).getD i ⟨0,0⟩=_
 have h1:((List.range t.C).map fun k=>colL t k t.R).getD k []=colL t k t.R:=by
  rw [List.getD_eq_getElem?_getD,List.getElem?_map,List.getElem?_range hk];rfl
 rw [h1]
 unfold colL
 rw [List.getD_eq_getElem?_getD,List.getElem?_map,List.getElem?_range hi];rfl
theorem z9g {t:Tab} (hO:t.Ok):t.turn.Ok where
 R1:=hO.C1
 C1:=hO.R1
 R8:=hO.C8
 C8:=hO.R8
 len:=by show ((List.range t.C).map _).length=t.C;simp
 row:=hO.col
 col:=hO.row
 wid l hl:=by
  obtain ⟨k,_,rfl⟩:=List.mem_map.1 hl
  exact z62 _ _ _
 cel l hl y hy:=by
  obtain ⟨k,hk,rfl⟩:=List.mem_map.1 hl
  obtain ⟨i,hi,rfl⟩:=List.mem_map.1 hy
  rw [List.mem_range] at hk hi
  have h:=hO.cell_ok hi hk
  simp [Spn.ok];omega
theorem z1I {t:Tab} (s:Nat→Nat→Int):Fits t.turn s ↔ Fits t fun i k=>s k i:=by
 constructor
 · intro h
   refine ⟨fun i k hi hk=>?_,fun i hi=>h.col i hi,fun k hk=>h.row k hk⟩
   have:=h.cell k i hk hi
   rwa [z9f hi hk] at this
 · intro h
   refine ⟨fun k i hk hi=>?_,fun k hk=>h.col k hk,fun i hi=>h.row i hi⟩
   rw [z9f hi hk]
   exact h.cell i k hi hk
theorem zK7 (t:Tab):canB t.turn=canB t:=by
 rw [Bool.eq_iff_iff,z0S,z0S]
 exact ⟨fun ⟨s,hs⟩=>⟨_,(z1I s).1 hs⟩,fun ⟨s,hs⟩=>⟨fun k i=>s i k,(z1I _).2 hs⟩⟩
theorem zAz {t:Tab} (hO:t.Ok) (i k:Int):askS t.turn k i=askS t i k:=by
 have e:outB t.turn k i=outB t i k:=by
  show (decide (k < 0) || (decide ((t.C:Int)≤k) || (decide (i < 0) || decide ((t.R:Int)≤i))))=(decide (i < 0) || (decide ((t.R:Int)≤i) || (decide (k < 0) || decide ((t.C:Int)≤k))))
  cases decide (k < 0) <;> cases decide ((t.C:Int)≤k) <;> cases decide (i < 0) <;> cases decide ((t.R:Int)≤i) <;> rfl
 unfold askS
 rw [Tab.ok_iff.2 hO,Tab.ok_iff.2 (z9g hO),zK7,e]
theorem zBF {t:Tab} {k:Nat} (hk:k < t.C) {lo hi:Int} (h:IsEnds t.net [t.R * t.C+t.R+k] lo hi):IsEnds t.turn.net [t.turn.R * t.turn.C+k] lo hi:=by
 obtain ⟨⟨x,hx,ex⟩,⟨y,hy,ey⟩,ha⟩:=z0y.1 h
 rw [z2A t _ hk] at ex ey
 refine z0y.2 ⟨⟨fun k i=>x i k,(z1I _).2 hx,?_⟩,⟨fun k i=>y i k,(z1I _).2 hy,?_⟩,fun s hs=>?_⟩
 · rw [z1N t.turn _ (show k < t.turn.R from hk)];exact ex
 · rw [z1N t.turn _ (show k < t.turn.R from hk)];exact ey
 · have:=ha _ ((z1I s).1 hs)
   rw [z2A t _ hk] at this
   rw [z1N t.turn _ (show k < t.turn.R from hk)];exact this
theorem zCr {T:TabV} (hT:T.Wf) (i:Int) {v:AVal} (hv:EndsAns T.tab (askS T.tab 0 i) [T.tab.R * T.tab.C+T.tab.R+i.toNat] v) (ro:Nat) (H:Heap) (nx:Nat):callT env 31 [T.v,.int .i64 i] ro H nx=some (.ret v,.ups []):=by
 have hu:underL 0 [T.v,.int .i64 i]=true:=by simp [underL,AVal.under,TabV.under]
 have:∃ H',runT env 31 [T.v,.int .i64 i] [] 0=some (.ret v,H'):=by
  have rc:=z4P hT 0 i
  rcases hv with ⟨hz,rfl⟩ | ⟨hz,hO,lo,hi,he,rfl⟩
  · have hz':decide (askS T.tab 0 i=0)=false:=decide_eq_false hz
    rw [run_unfold fn31 rfl]
    simp only [go_sem,simprocAttr,Try.f31,rc,hz',unwind,modeEx,resultsOf,one]
    exact ⟨_,rfl⟩
  · obtain ⟨_,_,ho⟩:=z3T hz
    obtain ⟨r,c,_,rfl,_,hc⟩:=z1r ho
    rw [Int.toNat_natCast] at he
    have hO2:=z9g hO
    have hW:=z1S hO2.R8 hO2.C8 hO2.len hO2.wid
    have hz2:askS T.tab.turn c 0=0:=by rw [zAz hO];exact hz
    have rr:=z9L hW c (v:=.tuple [.agg [.int .i64 lo,.int .i64 hi],.int .i64 0]) (by
     rw [z0P]
     exact .inr ⟨hz2,hO2,lo,hi,by rw [Int.toNat_natCast];exact zBF hc he,rfl⟩)
    have tc:=z9h hT hO
    rw [hz] at rc
    rw [run_unfold fn31 rfl]
    simp only [go_sem,simprocAttr,Try.f31,rc,tc,rr,unwind,modeEx,resultsOf,one]
    exact ⟨_,rfl⟩
 obtain ⟨H',h⟩:=this
 have hn:noRef v=true:=hv.pure.1
 exact call_pure rfl rfl rfl hu h hn ro H nx
set_option maxRecDepth 10000
set_option maxHeartbeats 4000000
def bldM (x y c:AVal):Blk:=.cells 0 3 false [.agg [x,y,c]]
def bldH (A:Heap) (x y:AVal) (r0:RowD) (rs:List RowD):Heap:=A++(bldM x y (.ref (A.length+3) rs.length 0 (rs.length+1) false) :: .cells r0.1 2 true r0.2 :: .cells 0 1 false [.ref (A.length+1) r0.1 0 r0.2.length false] :: .cells rs.length 1 false (.ref (A.length+1) r0.1 0 r0.2.length false :: rowR (A.length+4) rs) :: rowT 2 (A.length+4) rs)
section
variable {A:Heap} {x y:AVal} {r0:RowD} {rs:List RowD}
theorem z8f:(bldH A x y r0 rs).length=A.length+4+2 * rs.length:=by
 simp only [bldH,List.length_append,List.length_cons,z0z];omega
theorem zHh (Z:Heap):(bldH A x y r0 rs++Z)[A.length]?=some (bldM x y (.ref (A.length+3) rs.length 0 (rs.length+1) false)):=by
 simp [bldH]
theorem zDc (Z:Heap):(bldH A x y r0 rs++Z)[A.length+3]?=some (.cells rs.length 1 false (.ref (A.length+1) r0.1 0 r0.2.length false :: rowR (A.length+4) rs)):=by
 unfold bldH
 rw [List.append_assoc,List.getElem?_append_right (by omega),show A.length+3 - A.length=3 by omega];rfl
theorem zHf (Z:Heap) {i:Nat} (h:i < A.length):(bldH A x y r0 rs++Z)[i]?=A[i]?:=by
 unfold bldH
 rw [List.append_assoc,List.getElem?_append_left h]
theorem zFz {r:RowD} (hb:rs.length < 2 ^ 20) (nx:Nat):
    z0H env 0 nx 23 (.ref (A.length+3) rs.length 0 (rs.length+1) false) (.ref ((bldH A x y r0 rs).length+1) 0 0 1 false) ((bldH A x y r0 rs++[.cells r.1 2 true r.2])++[.cells 0 1 false [.ref (bldH A x y r0 rs).length r.1 0 r.2.length false]]) =
     some (.ref (A.length+3) (rs.length+1) 0 (rs.length+1+1) false,[(A.length+3,.cells (rs.length+1) 1 false ((.ref (A.length+1) r0.1 0 r0.2.length false :: rowR (A.length+4) rs)++[.ref (bldH A x y r0 rs).length r.1 0 r.2.length false]))]):=by
 have hel:z15 ((bldH A x y r0 rs++[.cells r.1 2 true r.2])++[.cells 0 1 false [.ref (bldH A x y r0 rs).length r.1 0 r.2.length false]]) (.ref ((bldH A x y r0 rs).length+1) 0 0 1 false)=some (1,[.ref (bldH A x y r0 rs).length r.1 0 r.2.length false]):=by
  have:=z08 (z06 (X:=bldH A x y r0 rs) rfl (.cells r.1 2 true r.2)) (.cells 0 1 false [.ref (bldH A x y r0 rs).length r.1 0 r.2.length false])
  simp only [z15,this]
  rfl
 have hH:((bldH A x y r0 rs++[.cells r.1 2 true r.2])++[Blk.cells 0 1 false [.ref (bldH A x y r0 rs).length r.1 0 r.2.length false]])[A.length+3]?=some (.cells rs.length 1 false (.ref (A.length+1) r0.1 0 r0.2.length false :: rowR (A.length+4) rs)):=by
  rw [List.append_assoc];exact zDc _
 exact append_ref (E:=env) (ro:=0) (nx:=nx) (g:=rs.length) (id:=A.length+3) (len:=rs.length+1) (fl:=false) (bs:=.ref (A.length+1) r0.1 0 r0.2.length false :: rowR (A.length+4) rs) ti23 ti22 hel ⟨by decide,rfl,rfl⟩ rfl (by simp) hH (by simp [z1K]) (by omega) (Nat.zero_le _) (by show (rs.length+1+[_].length) * 25≤2 ^ 45;simp only [List.length_singleton];omega) (fun h=>by cases h)
theorem zK1 (r:RowD):((((bldH A x y r0 rs++[Blk.cells r.1 2 true r.2])++[Blk.cells 0 1 false [.ref (bldH A x y r0 rs).length r.1 0 r.2.length false]]).set (A.length+3) (.cells (rs.length+1) 1 false ((.ref (A.length+1) r0.1 0 r0.2.length false :: rowR (A.length+4) rs)++[.ref (bldH A x y r0 rs).length r.1 0 r.2.length false]))).set A.length (.cells 0 3 false [.agg [x,y,.ref (A.length+3) (rs.length+1) 0 (rs.length+1+1) false]]))=bldH A x y r0 (rs++[r]):=by
 have hl:=z8f (A:=A) (x:=x) (y:=y) (r0:=r0) (rs:=rs)
 rw [hl]
 unfold bldH bldM
 rw [z3g,z4Q,show A.length+4+2 * rs.length=A.length+4+2 * rs.length from rfl,List.append_assoc,List.append_assoc,List.set_append_right _ _ (by omega),show A.length+3 - A.length=3 by omega,List.set_append_right _ _ (by omega),Nat.sub_self]
 simp
theorem zHi (r:RowD) (Tm:List AVal) (V:List Nat):trunc (bldH A x y r0 rs).length ⟨Tm,bldH A x y r0 (rs++[r]),[],0,V⟩=⟨Tm,bldH A x y r0 (rs++[r]),[],0,V⟩:=by
 have h:=zDc (A:=A) (x:=x) (y:=y) (r0:=r0) (rs:=rs++[r]) []
 rw [List.append_nil] at h
 have hm:AVal.ref (A.length+4+2 * rs.length) r.1 0 r.2.length false ∈ AVal.ref (A.length+1) r0.1 0 r0.2.length false :: rowR (A.length+4) (rs++[r]):=by rw [z3g];simp
 exact z3S (i:=A.length+3) (by rw [z8f];omega) h hm (by rw [z8f];exact Nat.le_refl _)
theorem zHe (r:RowD):z0H env 0 (A.length+1+1+1) 23 (.lit true 0 []) (.ref (A.length+1+1) 0 0 1 false) ((A++[bldM x y (.lit true 0 [])]++[.cells r.1 2 true r.2])++[.cells 0 1 false [.ref (A.length+1) r.1 0 r.2.length false]])=some (.ref (A.length+1+1+1) 0 0 1 false,[(A.length+1+1+1,.cells 0 1 false [.ref (A.length+1) r.1 0 r.2.length false])]):=by
 have hg:=z08 (z06 (z06 (X:=A) rfl (bldM x y (.lit true 0 []))) (.cells r.1 2 true r.2)) (.cells 0 1 false [.ref (A.length+1) r.1 0 r.2.length false])
 have hel:z15 ((A++[bldM x y (.lit true 0 [])]++[.cells r.1 2 true r.2])++[.cells 0 1 false [.ref (A.length+1) r.1 0 r.2.length false]]) (.ref (A.length+1+1) 0 0 1 false)=some (1,[.ref (A.length+1) r.1 0 r.2.length false]):=by
  simp only [z15,hg]
  rfl
 have h:=append_lit (E:=env) (ro:=0) (nx:=A.length+1+1+1) (sz:=0) (es:=[]) (H:=(A++[bldM x y (.lit true 0 [])]++[.cells r.1 2 true r.2])++[.cells 0 1 false [.ref (A.length+1) r.1 0 r.2.length false]]) (x:=.ref (A.length+1+1) 0 0 1 false) (nsz:=1) (new:=[.ref (A.length+1) r.1 0 r.2.length false]) ti23 ti22 hel ⟨by decide,rfl,rfl⟩ rfl (by simp) (.inl rfl) (show (0+1) * 25≤z04 by decide) (fun h=>by cases h)
 rw [h];rfl
theorem zHg (r:RowD):(((A++[bldM x y (.lit true 0 [])]++[Blk.cells r.1 2 true r.2])++[Blk.cells 0 1 false [.ref (A.length+1) r.1 0 r.2.length false]])++[Blk.cells 0 1 false [.ref (A.length+1) r.1 0 r.2.length false]]).set A.length (.cells 0 3 false [.agg [x,y,.ref (A.length+1+1+1) 0 0 1 false]])=bldH A x y r []:=by
 unfold bldH bldM
 simp only [List.append_assoc]
 rw [List.set_append_right _ _ (by omega),Nat.sub_self]
 rfl
theorem zG0 (r:RowD) (Tm:List AVal) (V:List Nat):trunc (A.length+1) ⟨Tm,bldH A x y r [],[],0,V⟩=⟨Tm,bldH A x y r [],[],0,V⟩:=by
 have h:(bldH A x y r [])[A.length]?=some (.cells 0 3 false [.agg [x,y,.ref (A.length+3) 0 0 1 false]]):=by simp [bldH,bldM]
 unfold trunc
 by_cases h1:(bldH A x y r []).length≤A.length+1
 · simp only [h1,if_true]
 · have h2:((bldH A x y r []).take (A.length+1)).all (underB (A.length+1))=false:=by
     cases h3:((bldH A x y r []).take (A.length+1)).all (underB (A.length+1)) with
     | false=>rfl
     | true=>
       have h4:((bldH A x y r []).take (A.length+1))[A.length]?=some (.cells 0 3 false [.agg [x,y,.ref (A.length+3) 0 0 1 false]]):=by rw [List.getElem?_take,if_pos (by omega),h]
       have h5:=List.all_eq_true.1 h3 _ (List.mem_of_getElem? h4)
       simp [underB,underL,AVal.under] at h5
   simp only [h1,if_false,h2,Bool.false_and,Bool.false_eq_true]
end
set_option maxRecDepth 10000
set_option maxHeartbeats 4000000
theorem zFp {t:Tab} (hO:t.Ok) {X:Heap} {nx p5 p6 ca cb cq ga gb g:Nat} {ps:Nat→Nat} (hX:X.length=nx) (h5:X[p5]?=some (.cells 0 3 false [memT t ca cb cq ga gb g])) (h5n:p5 < nx) (hat:TbAt X ca cb cq ga gb g ps t) {k:Nat} (hk:k < t.C) (z:Int):∀ (n i:Nat) (j0 j1 j3 j4 j9 j10 j11 j12 j13 j14 j15 j16 j17 j18 j19 j20 j21 j22 j23 j24 j27 j28 j29 j30 j33 j34 j35 j36 j37 j38 j39 j40 j41 j42 j43 j44 j45 j46 j47 j48 j49 j50 j51 j52 j53 j54:AVal),i+n=t.R →
    Goes (execT env (Try.f51.at [1,1,1,1,0,1,0,0,1,1,0,0,1,1,0,1,0]) ⟨[j0,j1,.ptr 1 0 0 0,j3,j4,.ptr p5 0 0 0,.ptr p6 0 0 0,.int .i64 k,.ref nx i 0 i false,j9,j10,j11,j12,j13,j14,j15,j16,j17,j18,j19,j20,j21,j22,j23,j24,.int .i64 z,.int .i64 k,j27,j28,j29,j30,.int .i64 t.R,.int .i64 i,j33,j34,j35,j36,j37,j38,j39,j40,j41,j42,j43,j44,j45,j46,j47,j48,j49,j50,j51,j52,j53,j54],X++[accN (colN t k i)],[],0,[6,8,50]⟩) fun ex s=>
     ex=.exit 2∧FrP 55 [(2,.ptr 1 0 0 0),(5,.ptr p5 0 0 0),(6,.ptr p6 0 0 0),(8,.ref nx t.R 0 t.R false),(25,.int .i64 z),(26,.int .i64 k)] (X++[accN (colN t k t.R)]) [] 0 [6,8,50] s:=by
 have hR8:=hO.R8
 have hC8:=hO.C8
 intro n
 induction n with
 | zero=>
   intro i;intros;rename_i hi
   have hd:decide ((i:Int) < (t.R:Int))=false:=by simp;omega
   have:i=t.R:=by omega
   subst this
   simp only [go_sem,simprocAttr,Try.f51]
   rw [exec_loop]
   simp only [go_sem,simprocAttr,hd]
   exact frP (by kernel_rfl)
 | succ n ih=>
   intro i;intros;rename_i hi
   have hiR:i < t.R:=by omega
   have hd:decide ((i:Int) < (t.R:Int))=true:=by simp;omega
   have i0:(0:Int)≤(i:Int):=by omega
   have k0:(0:Int)≤(k:Int):=by omega
   have h5':∀ b,(X++[b])[p5]?=some (.cells 0 3 false [memT t ca cb cq ga gb g]):=fun b=>by rw [z4d hX _ h5n,h5]
   have hacc:=fun b=>(hat.more [b]).acc
   have hrow:=fun b=>(hat.more [b]).row i hiR
   have hva:(vecA t.R fun i=>AVal.ref (ps i) 0 0 t.C false)[i]?=some (.ref (ps i) 0 0 t.C false):=vecA_get _ hiR
   have hget:=z2m hO hiR hk
   have dR:decide ((i:Int) < (t.R:Int))=true:=hd
   have dC:decide ((k:Int) < (t.C:Int))=true:=by simp;omega
   have ap:=z2M (H:=X++[accN (colN t k i)]) (id:=nx) (n:=i) (es:=colN t k i) (x:=t.cell i k) (z08 hX _) (z0x _ _ _) (by omega) (nx+1) (ro:=0) (Nat.zero_le _)
   rw [← zCG] at ap
   have hL:∀ b,(X++[b]).length=nx+1:=fun b=>z06 hX b
   have hst:∀ b b',(X++[b]).set nx b'=X++[b']:=fun b b'=>z0d hX b b'
   have lt1:(nx < nx+1)=True:=eq_true (by omega)
   have htr:∀ Tm b,trunc (nx+1) ⟨Tm,X++[b],[],0,[6,8,50]⟩=⟨Tm,X++[b],[],0,[6,8,50]⟩:=fun Tm b=>by
    unfold trunc
    rw [if_pos (by rw [z06 hX];exact Nat.le_refl _)]
   have ih':=ih (i+1)
   simp only [memT] at h5'
   simp only [go_sem,simprocAttr,Try.f51] at ih' ⊢
   rw [exec_loop]
   simp only [go_sem,simprocAttr,h5',hacc,hrow,hva,hget,dR,dC,i0,k0,Int.toNat_natCast,z0V hO.len hO.wid hiR,hL,ap,hst,lt1,htr,Nat.zero_add,z00 (show i < 2 ^ 63 - 1 by omega)]
   exact ih' _ _ _ _ _ _ _ _ _ _ _ _ _ _ _ _ _ _ _ _ _ _ _ _ _ _ _ _ _ _ _ _ _ _ _ _ _ _ _ _ _ _ _ _ _ _ (by omega)
theorem zLO {t:Tab} (hO:t.Ok) {A:Heap} {p5 ca cb cq ga gb g:Nat} {ps:Nat→Nat} (h5:A[p5]?=some (.cells 0 3 false [memT t ca cb cq ga gb g])) (h5n:p5 < A.length) (hat:TbAt A ca cb cq ga gb g ps t):∀ (n m:Nat) (j0 j1 j3 j4 j7 j8 j9 j10 j11 j12 j13 j14 j15 j16 j17 j18 j19 j20 j21 j22 j23 j24 j27 j28 j29 j30 j31 j32 j33 j34 j35 j36 j37 j38 j39 j40 j41 j42 j43 j44 j45 j46 j47 j48 j49 j50 j51 j52 j53 j54:AVal),m+1+n=t.C →
    Goes (execT env (Try.f51.at [1,1,1,1,0,1,0]) ⟨[j0,j1,.ptr 1 0 0 0,j3,j4,.ptr p5 0 0 0,.ptr A.length 0 0 0,j7,j8,j9,j10,j11,j12,j13,j14,j15,j16,j17,j18,j19,j20,j21,j22,j23,j24,.int .i64 t.C,.int .i64 (m+1:Nat),j27,j28,j29,j30,j31,j32,j33,j34,j35,j36,j37,j38,j39,j40,j41,j42,j43,j44,j45,j46,j47,j48,j49,j50,j51,j52,j53,j54],bldH A (.ref cb gb 0 t.C false) (.ref ca ga 0 t.R false) (t.R,colN t 0 t.R) (tuD t m),[],0,[6,8,50]⟩) fun ex s=>
     ex=.exit 0∧FrP 55 [(2,.ptr 1 0 0 0),(6,.ptr A.length 0 0 0)] (bldH A (.ref cb gb 0 t.C false) (.ref ca ga 0 t.R false) (t.R,colN t 0 t.R) (tuD t (t.C - 1))) [] 0 [6,8,50] s:=by
 have hR8:=hO.R8
 have hC8:=hO.C8
 have hR1:=hO.R1
 intro n
 induction n with
 | zero=>
   intro m;intros;rename_i hm
   have hd:decide (((m+1:Nat):Int) < (t.C:Int))=false:=by simp;omega
   have e:t.C - 1=m:=by omega
   rw [e]
   simp only [go_sem,simprocAttr,Try.f51]
   rw [exec_loop]
   simp only [go_sem,simprocAttr,hd]
   exact frP (by kernel_rfl)
 | succ n ih=>
   intro m;intros;rename_i hm
   have hmC:m+1 < t.C:=by omega
   have hd:decide (((m+1:Nat):Int) < (t.C:Int))=true:=by simp;omega
   have hlen:=z8f (A:=A) (x:=.ref cb gb 0 t.C false) (y:=.ref ca ga 0 t.R false) (r0:=(t.R,colN t 0 t.R)) (rs:=tuD t m)
   have htab:=fun Z=>zHh (A:=A) (x:=.ref cb gb 0 t.C false) (y:=.ref ca ga 0 t.R false) (r0:=(t.R,colN t 0 t.R)) (rs:=tuD t m) Z
   have hlow:=fun i h=>zHf (A:=A) (x:=.ref cb gb 0 t.C false) (y:=.ref ca ga 0 t.R false) (r0:=(t.R,colN t 0 t.R)) (rs:=tuD t m) [] (i:=i) h
   have hap:=zFz (A:=A) (x:=.ref cb gb 0 t.C false) (y:=.ref ca ga 0 t.R false) (r0:=(t.R,colN t 0 t.R)) (rs:=tuD t m) (r:=(t.R,colN t (m+1) t.R)) (by rw [tuD_length];omega)
   have hpush:=zK1 (A:=A) (x:=.ref cb gb 0 t.C false) (y:=.ref ca ga 0 t.R false) (r0:=(t.R,colN t 0 t.R)) (rs:=tuD t m) (t.R,colN t (m+1) t.R)
   have htr:=zHi (A:=A) (x:=.ref cb gb 0 t.C false) (y:=.ref ca ga 0 t.R false) (r0:=(t.R,colN t 0 t.R)) (rs:=tuD t m) (t.R,colN t (m+1) t.R)
   rw [← zBs] at hpush htr
   simp only [List.append_nil] at hlow
   rw [tuD_length] at hlen
   have ih':=ih (m+1)
   generalize hY:bldH A (.ref cb gb 0 t.C false) (.ref ca ga 0 t.R false) (t.R,colN t 0 t.R) (tuD t m)=Y at hlen htab hlow hap hpush htr ⊢
   obtain ⟨L,hL⟩:∃ L,Y.length=L:=⟨_,rfl⟩
   rw [hL] at hlen
   have hatY:TbAt Y ca cb cq ga gb g ps t:=hat.mono fun i hi=>hlow i (by
    obtain ⟨l1,l2,l3,l4⟩:=hat.lt
    rcases hi with rfl | rfl | rfl | ⟨j,hj,rfl⟩
    · exact l1
    · exact l2
    · exact l3
    · exact l4 j hj)
   obtain ⟨ex,st,hx,hp⟩:=zFp hO hL (by rw [hlow _ h5n];exact h5) (p6:=A.length) (by omega) hatY hmC t.C t.R 0 _ _ _ _ _ _ _ _ _ _ _ _ _ _ _ _ _ _ _ _ _ _ _ _ _ _ _ _ _ _ _ _ _ _ _ _ _ _ _ _ _ _ _ _ _ _ (by omega)
   obtain ⟨rfl,jp,rfl⟩:=hp
   have hcne:colN t (m+1) t.R ≠ []:=fun e=>by have:=z0x t (m+1) t.R;rw [e] at this;simp at this;omega
   have hrl:=z0x t (m+1) t.R
   have c0:colN t (m+1) 0=[]:=rfl
   have a0:accN []=.cells 0 0 false []:=rfl
   rw [c0,a0,z2c hcne,hrl] at hx
   simp only [hL,hrl,tuD_length,List.cons_append] at hap hpush htr htab
   have hl1:∀ b,(Y++[b]).length=L+1:=fun b=>z06 hL b
   have hl2:∀ b c,(Y++[b]++[c]).length=L+1+1:=fun b c=>z06 (z06 hL b) c
   have htab2:∀ b c,(Y++[b]++[c])[A.length]?=some (bldM (.ref cb gb 0 t.C false) (.ref ca ga 0 t.R false) (.ref (A.length+3) m 0 (m+1) false)):=fun b c=>by rw [List.append_assoc];exact htab _
   have wi:IntKind.i64.wrap (((m+1:Nat):Int)+1)=((m+1+1:Nat):Int):=z00 (by omega)
   have z1:(A.length < L+1+1)=True:=eq_true (by omega)
   have z2:(A.length+3 < L+1+1)=True:=eq_true (by omega)
   have hs1:∀ b c d,(((Y++[b]++[c]).set (A.length+3) d))[A.length]?=some (bldM (.ref cb gb 0 t.C false) (.ref ca ga 0 t.R false) (.ref (A.length+3) m 0 (m+1) false)):=fun b c d=>by
    rw [List.getElem?_set_ne (by omega)];exact htab2 b c
   simp only [bldM] at htab htab2 hs1
   simp only [go_sem,simprocAttr,Try.f51,Int.ofNat_zero,Int.natCast_zero] at hx
   simp only [go_sem,simprocAttr,Try.f51] at ih' ⊢
   rw [exec_loop]
   simp only [go_sem,simprocAttr,hd,hL,htab]
   rw [hx]
   simp only [go_sem,simprocAttr,Nat.zero_le,hl1,hl2,htab,htab2,hap,hs1,hpush,htr,z1,z2,wi,List.length_set]
   exact ih' _ _ _ _ _ _ _ _ _ _ _ _ _ _ _ _ _ _ _ _ _ _ _ _ _ _ _ _ _ _ _ _ _ _ _ _ _ _ _ _ _ _ _ _ _ _ _ _ _ _ (by omega)
set_option maxRecDepth 10000
set_option maxHeartbeats 4000000
theorem zK0 {H:Heap} {ok:Nat→Bool} {p:Nat} {r0:RowD} {rs:List RowD} (hok:∀ j,ok j=true) (h0:H[p+1]?=some (.cells r0.1 2 true r0.2)) (h:∀ i r,rs[i]?=some r→H[p+4+2 * i]?=some (.cells r.1 2 true r.2)):
    mapO (toLit ok H 7) (.ref (p+1) r0.1 0 r0.2.length false :: rowR (p+4) rs)=some ((r0 :: rs).map fun r=>.lit false 2 r.2):=by
 have hm:=z6o (H:=H) (ok:=ok) (sz:=2) (n:=6) rs (p+4) h (fun j _=>hok j)
 have e0:toLit ok H 7 (.ref (p+1) r0.1 0 r0.2.length false)=some (.lit false 2 r0.2):=by
  simp [toLit,noRef,AVal.under,h0,hok]
 simp only [mapO,e0,hm,List.map_cons]
theorem zLy {H:Heap} {t:Tab} {p1 g1 p2 g2 q g n:Nat} {es:List AVal} (h1:H[p1]?=some (.cells g1 2 true (t.rows.map spV))) (h2:H[p2]?=some (.cells g2 2 true (t.cols.map spV))) (h3:H[q]?=some (.cells g 1 false es))
    (hes:mapO (toLit (fun j=>decide (0≤j) && !([]:List Nat).contains j) H 7) es=some (t.cells.map fun l=>.lit false 2 (l.map spV))) (hl:es.length=t.R):
    handBack H 0 [] (n+1+1) (.agg [.ref p1 g1 0 t.R false,.ref p2 g2 0 t.C false,.ref q g 0 t.R false])=some (canon t).v:=by
 have t1:(t.rows.map spV).take t.R=t.rows.map spV:=List.take_of_length_le (by rw [List.length_map];exact Nat.le_refl _)
 have t2:(t.cols.map spV).take t.C=t.cols.map spV:=List.take_of_length_le (by rw [List.length_map];exact Nat.le_refl _)
 have t3:es.take t.R=es:=List.take_of_length_le (by omega)
 have lr:t.rows.length=t.R:=rfl
 have lc:t.cols.length=t.C:=rfl
 have e1:toLit (fun j=>decide (0≤j) && !([]:List Nat).contains j) H 8 (.ref p1 g1 0 t.R false)=some (.lit false 2 (t.rows.map spV)):=by
  simp [toLit,noRef,AVal.under,h1,t1,lr]
 have e2:toLit (fun j=>decide (0≤j) && !([]:List Nat).contains j) H 8 (.ref p2 g2 0 t.C false)=some (.lit false 2 (t.cols.map spV)):=by
  simp [toLit,noRef,AVal.under,h2,t2,lc]
 have e3:toLit (fun j=>decide (0≤j) && !([]:List Nat).contains j) H 8 (.ref q g 0 t.R false)=some (.lit false 1 (t.cells.map fun l=>.lit false 2 (l.map spV))):=by
  unfold toLit
  simp only [noRef,AVal.under,Nat.not_lt_zero,decide_false,Bool.false_eq_true,if_false,h3,decide_true,Nat.zero_add,hl,Nat.le_refl,Bool.and_true,if_true,List.drop_zero,t3]
  rw [hes]
  simp
 have ec:(canon t).v=.agg [.lit false 2 (t.rows.map spV),.lit false 2 (t.cols.map spV),.lit false 1 (t.cells.map fun l=>.lit false 2 (l.map spV))]:=by
  unfold canon TabV.v
  simp only [List.map_map]
  rfl
 have hk:∀ (i:Nat) (v:AVal) (n:Nat),(∃ g o l c,v=.ref i g o l c)→handBack H 0 [] (n+1) v=toLit (fun j=>decide (0≤j) && !([]:List Nat).contains j) H 8 v:=by
  rintro i v n ⟨g,o,l,c,rfl⟩
  simp [handBack]
 rw [ec]
 unfold handBack
 simp only [mapO,hk p1 _ n ⟨_,_,_,_,rfl⟩,hk p2 _ n ⟨_,_,_,_,rfl⟩,hk q _ n ⟨_,_,_,_,rfl⟩,e1,e2,e3]
 rfl
theorem zK2 {A:Heap} {x y:AVal} {r0:RowD} {rs:List RowD}:(bldH A x y r0 rs)[A.length+1]?=some (.cells r0.1 2 true r0.2):=by
 unfold bldH
 rw [List.getElem?_append_right (by omega),show A.length+1 - A.length=1 by omega];rfl
theorem zMl {A:Heap} {x y:AVal} {r0:RowD} {rs:List RowD} {i:Nat} {r:RowD} (h:rs[i]?=some r):(bldH A x y r0 rs)[A.length+4+2 * i]?=some (.cells r.1 2 true r.2):=by
 unfold bldH
 rw [List.getElem?_append_right (by omega),show A.length+4+2 * i - A.length=2 * i+1+1+1+1 by omega]
 exact z5g 2 rs _ i r h
def noTab:AVal:=.agg [.lit true 0 [],.lit true 0 [],.lit true 0 []]
noncomputable def z9e (t:Tab):AVal:=if t.ok then .tuple [(canon t.turn).v,.int .i64 0] else .tuple [noTab,.int .i64 60]
theorem zHA {t:Tab} (hC:1≤t.C):t.turn.cells.map (fun l=>AVal.lit false 2 (l.map spV))=((t.R,colN t 0 t.R) :: tuD t (t.C - 1)).map fun r=>.lit false 2 r.2:=by
 have hr:List.range t.C=0 :: (List.range (t.C - 1)).map Nat.succ:=by
  rw [← List.range_succ_eq_map];congr 1;omega
 unfold Tab.turn tuD
 simp only [hr,List.map_cons,List.map_map]
 rfl
theorem zFw {T:TabV} (hT:T.Wf) (hO:T.tab.Ok):∃ v H',runT env 51 [T.v] [] 0=some (.ret v,H')∧handBack H' 0 [] 4 v=some (.tuple [(canon T.tab.turn).v,.int .i64 0]):=by
 have hR8:=hO.R8
 have hC8:=hO.C8
 have hR1:=hO.R1
 have hC1:=hO.C1
 have ck:=z0w T hT
 obtain ⟨g,cl⟩:=z3L hT hO
 have cl:=cl 0 [boxT T,.cells 0 3 false [.agg [.lit true 0 [],.lit true 0 [],.lit true 0 []]]] 2
 have at0:=z5U hO [boxT T,.cells 0 3 false [.agg [.lit true 0 [],.lit true 0 [],.lit true 0 []]]] g
 have hpu:=z0g (clX T 2 g) [boxT T,.cells 0 3 false [.agg [.lit true 0 [],.lit true 0 [],.lit true 0 []]]]
 have H1:([boxT T,.cells 0 3 false [.agg [.lit true 0 [],.lit true 0 [],.lit true 0 []]]]:Heap).length=2:=rfl
 rw [H1] at at0 hpu
 have hXl:=z61 T 2 g hR1
 have hXb:(clX T 2 g)[2]?=some (.cells 0 2 true (T.rows.l.map spV))∧(clX T 2 g)[3]?=some (.cells 0 2 true (T.cols.l.map spV)):=⟨rfl,rfl⟩
 generalize hX:clX T 2 g=X at cl at0 hpu hXl hXb
 generalize hp:clP' 2=ps at at0
 have at1:=at0.more [.cells 0 3 false [memT T.tab 4 5 12 0 0 g],.cells 0 0 false [],.cells 0 0 false [],.cells 0 0 false []]
 obtain ⟨A,hA⟩:∃ A:Heap,A=([boxT T,.cells 0 3 false [.agg [.lit true 0 [],.lit true 0 [],.lit true 0 []]]]++X)++[.cells 0 3 false [memT T.tab 4 5 12 0 0 g],.cells 0 0 false [],.cells 0 0 false [],.cells 0 0 false []]:=⟨_,rfl⟩
 have hAl:A.length=X.length+1+1+1+1+1+1:=by rw [hA];simp only [List.length_append,List.length_cons,List.length_nil];omega
 have hA5:A[X.length+1+1]?=some (.cells 0 3 false [memT T.tab 4 5 12 0 0 g]):=by
  rw [hA,List.getElem?_append_right (by simp only [List.length_append,List.length_cons,List.length_nil];omega)]
  simp only [List.length_append,List.length_cons,List.length_nil]
  rw [show X.length+1+1 - (0+1+1+X.length)=0 by omega];rfl
 have hAs:∀ b,boxT T :: .cells 0 3 false [.agg [.lit true 0 [],.lit true 0 [],.lit true 0 []]] :: (X++[.cells 0 3 false [memT T.tab 4 5 12 0 0 g]]++[.cells 0 0 false []]++[.cells 0 0 false []]++[.cells 0 0 false []]++[b])=A++[b]:=fun b=>by
  rw [hA];simp
 have hA1:1 < A.length:=by omega
 have hAz:A[1]?=some (.cells 0 3 false [.agg [.lit true 0 [],.lit true 0 [],.lit true 0 []]]):=by rw [hA];rfl
 rw [← hA] at at1
 clear hA
 have hk0:(0:Nat) < T.tab.C:=hC1
 have hXX:(A++[bldM (.ref 5 0 0 T.tab.C false) (.ref 4 0 0 T.tab.R false) (.lit true 0 [])]).length=X.length+1+1+1+1+1+1+1:=by rw [List.length_append,hAl];rfl
 obtain ⟨ex,st,hx,hpp⟩:=zFp hO hXX (p5:=X.length+1+1) (p6:=X.length+1+1+1+1+1+1) (by rw [List.getElem?_append_left (by omega)];exact hA5) (by omega) (at1.more _) hk0 T.tab.C T.tab.R 0 _ _ _ _ _ _ _ _ _ _ _ _ _ _ _ _ _ _ _ _ _ _ _ _ _ _ _ _ _ _ _ _ _ _ _ _ _ _ _ _ _ _ _ _ _ _ (by omega)
 obtain ⟨rfl,jp,rfl⟩:=hpp
 obtain ⟨ex2,st2,hx2,hpp2⟩:=zLO hO (A:=A) (p5:=X.length+1+1) hA5 (by omega) at1 (T.tab.C - 1) 0 _ _ _ _ _ _ _ _ _ _ _ _ _ _ _ _ _ _ _ _ _ _ _ _ _ _ _ _ _ _ _ _ _ _ _ _ _ _ _ _ _ _ _ _ _ _ _ _ _ _ (by omega)
 obtain ⟨rfl,jq,rfl⟩:=hpp2
 have hcne:colN T.tab 0 T.tab.R ≠ []:=fun e=>by have:=z0x T.tab 0 T.tab.R;rw [e] at this;simp at this;omega
 have c0:colN T.tab 0 0=[]:=rfl
 have a0:accN []=.cells 0 0 false []:=rfl
 rw [c0,a0,z2c hcne,z0x] at hx
 have e0:tuD T.tab 0=[]:=rfl
 have e1:((0+1:Nat):Int)=1:=rfl
 have hd:decide ((0:Int) < (T.tab.C:Int))=true:=by simp;omega
 have w1:IntKind.i64.wrap 1=1:=by decide
 have ls1:=fun b:Blk=>z06 (X:=X) rfl b
 have ls2:=fun b c:Blk=>z06 (ls1 b) c
 have ls3:=fun b c d:Blk=>z06 (ls2 b c) d
 have ls4:=fun b c d e:Blk=>z06 (ls3 b c d) e
 have gs1:=fun b:Blk=>z08 (X:=X) rfl b
 have ss4:=fun b c d e f f':Blk=>z0d (ls4 b c d e) f f'
 have fi:=zHe (A:=A) (x:=.ref 5 0 0 T.tab.C false) (y:=.ref 4 0 0 T.tab.R false) (T.tab.R,colN T.tab 0 T.tab.R)
 have fs:=zHg (A:=A) (x:=.ref 5 0 0 T.tab.C false) (y:=.ref 4 0 0 T.tab.R false) (T.tab.R,colN T.tab 0 T.tab.R)
 have ft:=zG0 (A:=A) (x:=.ref 5 0 0 T.tab.C false) (y:=.ref 4 0 0 T.tab.R false) (T.tab.R,colN T.tab 0 T.tab.R)
 have hAlen:=fun b:Blk=>z06 (X:=A) hAl b
 have hAlen2:=fun b c:Blk=>z06 (hAlen b) c
 have hAlen3:=fun b c d:Blk=>z06 (hAlen2 b c) d
 have hAlen4:=fun b c d e:Blk=>z06 (hAlen3 b c d) e
 have hAg:=fun b:Blk=>z08 (X:=A) hAl b
 have hAt:=fun b b':Blk=>z0d (X:=A) hAl b b'
 have hAg2:∀ b c:Blk,(A++[b]++[c])[X.length+1+1+1+1+1+1]?=some b:=fun b c=>by rw [List.getElem?_append_left (by rw [hAlen];omega)];exact hAg b
 have hAg3:∀ b c d:Blk,(A++[b]++[c]++[d])[X.length+1+1+1+1+1+1]?=some b:=fun b c d=>by rw [List.getElem?_append_left (by rw [hAlen2];omega)];exact hAg2 b c
 have hAg4:∀ b c d e:Blk,(A++[b]++[c]++[d]++[e])[X.length+1+1+1+1+1+1]?=some b:=fun b c d e=>by rw [List.getElem?_append_left (by rw [hAlen3];omega)];exact hAg3 b c d
 have z1:(X.length+1+1+1+1+1+1 < X.length+1+1+1+1+1+1+1+1+1+1)=True:=eq_true (by omega)
 have bm:∀ x y c,bldM x y c=.cells 0 3 false [.agg [x,y,c]]:=fun _ _ _=>rfl
 simp only [hAl,bm,z0x] at fi fs ft hx
 have ss1:=fun b b':Blk=>z0d (X:=X) rfl b b'
 simp only [boxT,memT,Nat.reduceAdd,List.cons_append,List.nil_append] at cl hpu hAs
 simp only [go_sem,simprocAttr,Try.f51,Int.ofNat_zero,Int.natCast_zero] at hx
 simp only [go_sem,simprocAttr,Try.f51,hAl,e0,e1] at hx2
 have yt:=zHh (A:=A) (x:=.ref 5 0 0 T.tab.C false) (y:=.ref 4 0 0 T.tab.R false) (r0:=(T.tab.R,colN T.tab 0 T.tab.R)) (rs:=tuD T.tab (T.tab.C - 1)) []
 have ya:=zDc (A:=A) (x:=.ref 5 0 0 T.tab.C false) (y:=.ref 4 0 0 T.tab.R false) (r0:=(T.tab.R,colN T.tab 0 T.tab.R)) (rs:=tuD T.tab (T.tab.C - 1)) []
 have yl:=fun i h=>zHf (A:=A) (x:=.ref 5 0 0 T.tab.C false) (y:=.ref 4 0 0 T.tab.R false) (r0:=(T.tab.R,colN T.tab 0 T.tab.R)) (rs:=tuD T.tab (T.tab.C - 1)) [] (i:=i) h
 have y0:=zK2 (A:=A) (x:=.ref 5 0 0 T.tab.C false) (y:=.ref 4 0 0 T.tab.R false) (r0:=(T.tab.R,colN T.tab 0 T.tab.R)) (rs:=tuD T.tab (T.tab.C - 1))
 have yr:=fun i r h=>zMl (A:=A) (x:=.ref 5 0 0 T.tab.C false) (y:=.ref 4 0 0 T.tab.R false) (r0:=(T.tab.R,colN T.tab 0 T.tab.R)) (rs:=tuD T.tab (T.tab.C - 1)) (i:=i) (r:=r) h
 have yn:=z8f (A:=A) (x:=.ref 5 0 0 T.tab.C false) (y:=.ref 4 0 0 T.tab.R false) (r0:=(T.tab.R,colN T.tab 0 T.tab.R)) (rs:=tuD T.tab (T.tab.C - 1))
 have eC:T.tab.C - 1+1=T.tab.C:=by omega
 generalize bldH A (.ref 5 0 0 T.tab.C false) (.ref 4 0 0 T.tab.R false) (T.tab.R,colN T.tab 0 T.tab.R) (tuD T.tab (T.tab.C - 1))=Y at hx2 yt ya yl y0 yr yn
 have y1:Y[1]?=some (.cells 0 3 false [.agg [.lit true 0 [],.lit true 0 [],.lit true 0 []]]):=by
  have:=yl 1 hA1
  rw [List.append_nil] at this
  rw [this,hAz]
 have y1':∀ b,(Y.set 1 b)[1]?=some b:=fun b=>List.getElem?_set_self (by rw [yn];omega)
 have ylt:(1 < Y.length)=True:=eq_true (by rw [yn];omega)
 simp only [hAl,bm,tuD_length,eC,List.append_nil] at yt ya
 have key:runT env 51 [T.v] [] 0=some (.ret (.tuple [.agg [.ref 5 0 0 T.tab.C false,.ref 4 0 0 T.tab.R false,.ref (X.length+1+1+1+1+1+1+3) (T.tab.C - 1) 0 T.tab.C false],.int .i64 0]),Y.set 1 (.cells 0 3 false [.agg [.ref 5 0 0 T.tab.C false,.ref 4 0 0 T.tab.R false,.ref (X.length+1+1+1+1+1+1+3) (T.tab.C - 1) 0 T.tab.C false]])):=by
  rw [run_unfold fn51 rfl]
  simp only [go_sem,simprocAttr,Try.f51,ck,z0O (Tab.ok_iff.2 hO),cl,hpu,z0E,ls1,ls2,ls3,ls4,gs1,ss1,ss4,Nat.lt_add_one,bd25,hAs,hAlen,hAg,hAt,List.length_map]
  rw [exec_loop]
  simp only [go_sem,simprocAttr,hd,hAlen,hAlen2,hAg,hAg2]
  rw [hx]
  simp only [go_sem,simprocAttr,hAlen,hAlen2,hAlen3,hAlen4,hAg,hAg2,hAg3,hAg4,fi,fs,ft,z1,w1,Nat.zero_le]
  rw [hx2]
  simp only [go_sem,simprocAttr,yt,y1,y1',ylt,unwind,modeEx,resultsOf,one]
 refine ⟨_,_,key,?_⟩
 have hne:∀ i b,i ≠ 1→(Y.set 1 b)[i]?=Y[i]?:=fun i b h=>List.getElem?_set_ne (Ne.symm h)
 have yl':∀ i,i < A.length→Y[i]?=A[i]?:=fun i h=>by have:=yl i h;rwa [List.append_nil] at this
 have hb:=zLy (H:=Y.set 1 (.cells 0 3 false [.agg [.ref 5 0 0 T.tab.C false,.ref 4 0 0 T.tab.R false,.ref (X.length+1+1+1+1+1+1+3) (T.tab.C - 1) 0 T.tab.C false]])) (t:=T.tab.turn) (p1:=5) (g1:=0) (p2:=4) (g2:=0) (q:=X.length+1+1+1+1+1+1+3) (g:=T.tab.C - 1) (n:=1)
  (by rw [hne _ _ (by omega),yl' 5 (by omega)];exact at1.cols) (by rw [hne _ _ (by omega),yl' 4 (by omega)];exact at1.rows) (by rw [hne _ _ (by omega)];exact ya)
  (by
    have:=zK0 (H:=Y.set 1 (.cells 0 3 false [.agg [.ref 5 0 0 T.tab.C false,.ref 4 0 0 T.tab.R false,.ref (X.length+1+1+1+1+1+1+3) (T.tab.C - 1) 0 T.tab.C false]])) (ok:=fun j=>decide (0≤j) && !([]:List Nat).contains j) (p:=A.length) (r0:=(T.tab.R,colN T.tab 0 T.tab.R)) (rs:=tuD T.tab (T.tab.C - 1)) (fun j=>by simp) (by rw [hne _ _ (by omega)];exact y0) (fun i r h=>by rw [hne _ _ (by omega)];exact yr i r h)
    rw [zHA hC1,← this,hAl]) (by rw [List.length_cons,z1K,tuD_length];exact eC)
 unfold handBack
 simp only [mapO]
 have hb:handBack _ 0 [] 3 (.agg [.ref 5 0 0 T.tab.C false,.ref 4 0 0 T.tab.R false,.ref (X.length+1+1+1+1+1+1+3) (T.tab.C - 1) 0 T.tab.C false])=_:=hb
 rw [hb]
 rfl
theorem z4U {T:TabV} (hT:T.Wf) (ro:Nat) (H:Heap) (nx:Nat):callT env 51 [T.v] ro H nx=some (.ret (z9e T.tab),.ups []):=by
 unfold z9e
 cases hok:T.tab.ok with
 | false=>
   have ck:=z0w T hT
   have:∃ H',runT env 51 [T.v] [] 0=some (.ret (.tuple [noTab,.int .i64 60]),H'):=by
    rw [run_unfold fn51 rfl]
    simp only [go_sem,simprocAttr,Try.f51,ck,z22 hok,unwind,modeEx,resultsOf,one]
    exact ⟨_,rfl⟩
   obtain ⟨H',h⟩:=this
   exact call_pure rfl rfl rfl z0b h rfl ro H nx
 | true=>
   obtain ⟨v,H',h,hb⟩:=zFw hT (Tab.ok_iff.1 hok)
   exact z0r rfl rfl rfl z0b h hb rfl ro H nx
theorem zCt {T:TabV} (hT:T.Wf) (ro:Nat) (H:Heap) (nx:Nat):callT env 70 [T.v] ro H nx=some (.ret (z9e T.tab),.ups []):=by
 have ck:=z1X T hT
 have:∃ H',runT env 70 [T.v] [] 0=some (.ret (z9e T.tab),H'):=by
  unfold z9e
  cases hok:T.tab.ok with
  | false=>
    rw [run_unfold fn70 rfl]
    simp only [go_sem,simprocAttr,Try.f70,ck,z22 hok,unwind,modeEx,resultsOf,one]
    exact ⟨_,rfl⟩
  | true=>
    have tc:=z9h hT (Tab.ok_iff.1 hok)
    have hV:∃ a b c,(canon T.tab.turn).v=.agg [a,b,c]:=⟨_,_,_,rfl⟩
    rw [run_unfold fn70 rfl]
    simp only [go_sem,simprocAttr,Try.f70,ck,z0O hok,tc,unwind,modeEx,resultsOf,one]
    exact ⟨_,rfl⟩
 obtain ⟨H',h⟩:=this
 have hn:noRef (z9e T.tab)=true:=by unfold z9e;split <;> rfl
 exact call_pure rfl rfl rfl z0b h hn ro H nx
set_option maxRecDepth 10000
set_option maxHeartbeats 4000000
theorem zBh {t:Tab} (hl:t.cells.length=t.R):(vecA t.R fun i=>AVal.lit false 2 (rowA t i))=t.cells.map fun l=>.lit false 2 (l.map spV):=by
 unfold vecA
 apply List.ext_getElem
 · simp [hl]
 · intro i h1 h2
   have hi:i < t.cells.length:=by simpa using h2
   simp [rowA,hi]
theorem TbAt.back {H:Heap} {a b q ga gb g n:Nat} {ps:Nat→Nat} {t:Tab} (h:TbAt H a b q ga gb g ps t) (hl:t.cells.length=t.R) (hw:∀ l ∈ t.cells,l.length=t.C):handBack H 0 [] (n+1+1) (memT t a b q ga gb g)=some (canon t).v:=by
 refine zLy h.rows h.cols h.acc ?_ (z0C _ _)
 rw [← zBh hl]
 have gen:∀ l:List Nat,(∀ i ∈ l,i < t.R)→mapO (Tidy.toLit (fun j=>decide (0≤j) && !([]:List Nat).contains j) H 7) (l.map fun i=>AVal.ref (ps i) 0 0 t.C false)=some (l.map fun i=>AVal.lit false 2 (rowA t i)):=by
  intro l
  induction l with
  | nil=>intro _;rfl
  | cons i l ih=>
    intro hl'
    have hi:=hl' i (by simp)
    have hr:=h.row i hi
    have hrl:=z0V hl hw hi
    have htk:(rowA t i).take t.C=rowA t i:=List.take_of_length_le (by omega)
    simp only [List.map_cons,mapO,ih fun j hj=>hl' j (by simp [hj])]
    simp [Tidy.toLit,noRef,AVal.under,hr,hrl,htk]
 exact gen _ fun i hi=>List.mem_range.1 hi
theorem zKC {T:TabV} (hT:T.Wf) (hO:T.tab.Ok) {r c:Nat} (hr:r < T.tab.R) (x:Spn) (H0:Heap):
    ∃ (g:Nat) (X:Heap) (p:Nat) (acc:List AVal) (ps:Nat→Nat),callT env 96 [T.v] 0 H0 H0.length=some (.ret (memT T.tab (H0.length+2) (H0.length+3) (H0.length+10) 0 0 g),.ups (numbered H0.length X)) ∧
     putU H0 (numbered H0.length X)=H0++X∧(∀ Z:Heap,((H0++X)++Z)[H0.length+10]?=some (.cells g 1 false acc))∧acc[r]?=some (.ref p 0 0 T.tab.C false)∧(∀ Z:Heap,((H0++X)++Z)[p]?=some (.cells 0 2 true (rowA T.tab r)))∧H0.length≤p∧p < H0.length+X.length∧10 < X.length∧(∀ i,H0.length≤ps i) ∧
     ∀ Z:Heap,TbAt (((H0++X)++Z).set p (.cells 0 2 true ((rowA T.tab r).set c (spV x)))) (H0.length+2) (H0.length+3) (H0.length+10) 0 0 g ps (T.tab.setCell r c x):=by
 obtain ⟨g,cl⟩:=z3L hT hO
 have at0:=z5U hO H0 g
 have hl:=z61 T H0.length g hO.R1
 have hR1:=hO.R1
 have hps:∀ i,H0.length≤clP' H0.length i:=fun i=>by unfold clP';split <;> omega
 refine ⟨g,_,clP' H0.length r,_,clP' H0.length,cl 0 H0 H0.length,z0g _ _,fun Z=>(at0.more Z).acc,vecA_get _ hr,fun Z=>(at0.more Z).row r hr,hps r,?_,by omega,hps,fun Z=>(at0.more Z).write hO.len hr x⟩
 have:=at0.lt.2.2.2 r hr
 rwa [List.length_append] at this
theorem zKI {T:TabV} (hT:T.Wf) (hO:T.tab.Ok) {r c:Nat} (hr:r < T.tab.R) (x:Spn) (H0:Heap):
    ∃ (g:Nat) (X:Heap) (p:Nat) (acc:List AVal) (ps:Nat→Nat),callT env 89 [T.v] 0 H0 H0.length=some (.ret (memT T.tab (H0.length+2) (H0.length+3) (H0.length+4) 1 1 g),.ups (numbered H0.length X)) ∧
     putU H0 (numbered H0.length X)=H0++X∧(∀ Z:Heap,((H0++X)++Z)[H0.length+4]?=some (.cells g 1 false acc))∧acc[r]?=some (.ref p 0 0 T.tab.C false)∧(∀ Z:Heap,((H0++X)++Z)[p]?=some (.cells 0 2 true (rowA T.tab r)))∧H0.length≤p∧p < H0.length+X.length∧4 < X.length∧(∀ i,H0.length≤ps i) ∧
     ∀ Z:Heap,TbAt (((H0++X)++Z).set p (.cells 0 2 true ((rowA T.tab r).set c (spV x)))) (H0.length+2) (H0.length+3) (H0.length+4) 1 1 g ps (T.tab.setCell r c x):=by
 obtain ⟨g,cl⟩:=z2s hT hO
 have at0:=z4F hO H0 g
 have hl:=zDo T H0.length g
 have hps:∀ i,H0.length≤cpP H0.length i:=fun i=>by unfold cpP;omega
 refine ⟨g,_,cpP H0.length r,_,cpP H0.length,cl 0 H0 H0.length,z0g _ _,fun Z=>(at0.more Z).acc,vecA_get _ hr,fun Z=>(at0.more Z).row r hr,hps r,?_,by omega,hps,fun Z=>(at0.more Z).write hO.len hr x⟩
 have:=at0.lt.2.2.2 r hr
 rwa [List.length_append] at this
def z0t (x y:Spn):Spn:=⟨max x.lo y.lo,min x.hi y.hi⟩
def zEm (t:Tab) (i k:Int) (x:Spn):AVal:=
 if t.ok then (if outB t i k || !x.ok then .tuple [noTab,.int .i64 1] else
  if (z0t x (t.cell i.toNat k.toNat)).hi < (z0t x (t.cell i.toNat k.toNat)).lo then .tuple [noTab,.int .i64 4] else .tuple [(canon (t.setCell i.toNat k.toNat (z0t x (t.cell i.toNat k.toNat)))).v,.int .i64 0]) else .tuple [noTab,.int .i64 60]
theorem zBU {x y:Spn} (hx:x.ok=true) (h:(z0t x y).lo≤(z0t x y).hi):(z0t x y).ok=true:=by
 have e:∀ z:Spn,z.ok=true ↔ 0≤z.lo∧z.hi≤2 ^ 30∧z.lo≤z.hi:=fun z=>by simp [Spn.ok,and_assoc]
 rw [e] at hx ⊢
 have h1:(z0t x y).lo=max x.lo y.lo:=rfl
 have h2:(z0t x y).hi=min x.hi y.hi:=rfl
 rw [h1,h2] at *
 refine ⟨by omega,by omega,h⟩
set_option maxRecDepth 10000
set_option maxHeartbeats 2000000
end Go.Proofs.Ytgfejpngfikjiaa.Tidy
namespace Go.Proofs.Ytgfejpngfikjiaa.Tidy
open Go
def EndsP (t:Tab) (μ:(Nat→Nat→Int)→Int) (x:Spn):Prop:=(∃ s,Fits t s∧μ s=x.lo)∧(∃ s,Fits t s∧μ s=x.hi)∧∀ s,Fits t s→x.lo≤μ s∧μ s≤x.hi
theorem EndsP.of {t:Tab} {l:List Nat} {lo hi:Int} (h:IsEnds t.net l lo hi) {μ:(Nat→Nat→Int)→Int} (e:∀ s,t.brings l s=μ s):EndsP t μ ⟨lo,hi⟩:=by
 obtain ⟨⟨s1,h1,e1⟩,⟨s2,h2,e2⟩,h3⟩:=z0y.1 h
 exact ⟨⟨s1,h1,by rw [← e,e1]⟩,⟨s2,h2,by rw [← e,e2]⟩,fun s hs=>by rw [← e];exact h3 s hs⟩
theorem EndsP.unique {t:Tab} {μ ν:(Nat→Nat→Int)→Int} {x y:Spn} (h:EndsP t μ x) (h':EndsP t ν y) (e:∀ s,Fits t s→μ s=ν s):x=y:=by
 obtain ⟨⟨s1,a1,b1⟩,⟨s2,a2,b2⟩,c⟩:=h
 obtain ⟨⟨s3,a3,b3⟩,⟨s4,a4,b4⟩,c'⟩:=h'
 have e1:=c' s1 a1
 have e2:=c' s2 a2
 have e3:=c s3 a3
 have e4:=c s4 a4
 rw [← e _ a1] at e1
 rw [← e _ a2] at e2
 rw [e _ a3] at e3
 rw [e _ a4] at e4
 have q1:x.lo=y.lo:=by omega
 have q2:x.hi=y.hi:=by omega
 cases x;cases y
 simp only at q1 q2
 rw [q1,q2]
theorem EndsP.le {t:Tab} {μ:(Nat→Nat→Int)→Int} {x:Spn} (h:EndsP t μ x):x.lo≤x.hi:=by
 obtain ⟨⟨s1,a1,b1⟩,_,c⟩:=h
 have:=c s1 a1
 omega
def blkM (t:Tab) (p q:Nat→Bool) (x:Nat→Nat→Int):Int:=sumN t.R fun i=>sumN t.C fun k=>if p i && q k then x i k else 0
end Go.Proofs.Ytgfejpngfikjiaa.Tidy
namespace Go.Proofs.Ytgfejpngfikjiaa.Tidy
open Go Go.IntWalk
set_option maxRecDepth 10000
set_option linter.unusedSimpArgs false
set_option maxHeartbeats 2000000
set_option maxRecDepth 10000
set_option maxHeartbeats 2000000
theorem EndsAns.zero {t:Tab} {code:Int} {l:List Nat} {v:AVal} (h:EndsAns t code l v) (hc:code=0):∃ lo hi,IsEnds t.net l lo hi∧v=.tuple [.agg [.int .i64 lo,.int .i64 hi],.int .i64 0]:=by
 rcases h with ⟨h1,_⟩ | ⟨_,_,lo,hi,h2,rfl⟩
 · exact absurd hc h1
 · exact ⟨lo,hi,h2,rfl⟩
theorem zHj {t:Tab} (hO:t.Ok) {s:Nat→Nat→Int} (h:Fits t s) (p q:Nat→Bool):0≤blkM t p q s∧blkM t p q s≤2 ^ 36:=by
 have hR8:=hO.R8
 have hC8:=hO.C8
 have h1:∀ i,i < t.R→0≤(sumN t.C fun k=>if p i && q k then s i k else 0)∧(sumN t.C fun k=>if p i && q k then s i k else 0)≤2 ^ 33:=fun i hi=>by
  have:=z2S (n:=t.C) (f:=fun k=>if p i && q k then s i k else 0) (B:=2 ^ 30) fun k hk=>by
   have h2:=h.cell i k hi hk
   have h3:=hO.cell_ok hi hk
   cases p i && q k <;> simp <;> omega
  omega
 have:=z2S (n:=t.R) (f:=fun i=>sumN t.C fun k=>if p i && q k then s i k else 0) (B:=2 ^ 33) h1
 unfold blkM
 omega
theorem EndsP.bd {t:Tab} (hO:t.Ok) {p q:Nat→Bool} {x:Spn} (h:EndsP t (blkM t p q) x):(0≤x.lo∧x.lo≤2 ^ 36)∧0≤x.hi∧x.hi≤2 ^ 36:=by
 obtain ⟨⟨s1,a1,b1⟩,⟨s2,a2,b2⟩,_⟩:=h
 have c1:=zHj hO a1 p q
 have c2:=zHj hO a2 p q
 omega
set_option maxRecDepth 10000
set_option maxHeartbeats 4000000
theorem z2e {t:Tab} {i k:Int} (hok:t.ok=true) (hcan:canB t=true) (h:outB t i k=false):askS t i k=0:=by
 unfold askS;rw [hok,hcan,h];rfl
theorem z2P {t:Tab} {i k:Nat} (hi:i < t.R) (hk:k < t.C):outB t i k=false:=by
 unfold outB
 rw [decide_eq_false (p:=(i:Int) < 0) (by omega),decide_eq_false (p:=(t.R:Int)≤i) (by omega),decide_eq_false (p:=(k:Int) < 0) (by omega),decide_eq_false (p:=(t.C:Int)≤k) (by omega)];rfl
set_option maxRecDepth 10000
set_option maxHeartbeats 4000000
theorem zIA {R C gn:Nat} {G:Net} (h:NetOk G R C) (hn:0 < G.n) {f:Nat→Int} (hf:G.In f) (hc:G.Circ f) {cl:Bool} {sz:Nat} {l:List Nat} (hsz:l=[] ∨ sz=1) (hl:∀ j ∈ l,j < G.n) (hlen:l.length < 2 ^ 30):
    ∃ lo hi,EndsOf G l lo hi∧∃ (f':Nat→Int),G.In f'∧G.Circ f'∧∃ X:Heap,runT env 82 [.ptr 0 0 0 0,.lit cl sz (natsV l)] [netB R C 1 gn G.n,arcB gn G f] 0=some (.ret (.agg [.int .i64 lo,.int .i64 hi]),netB R C 1 gn G.n :: arcB gn G f' :: X):=by
 have hn8:=h.n
 have N0:(0:Int)≤(G.n:Int):=by omega
 have m1:G.n * 9≤z04:=by unfold z04;omega
 have r1:List.replicate G.n (AVal.int .i64 0)=intsV G.n (z0c []):=by
  rw [z1x]
  exact z17 fun i _=>by unfold z0c;simp
 have p1:∀ j,j < G.n→-1≤z0c l j∧z0c l j≤1:=fun j _=>by unfold z0c;split <;> omega
 have p2:∀ j,j < G.n→-1≤-(z0c l j)∧-(z0c l j)≤1:=fun j hj=>by have:=p1 j hj;omega
 obtain ⟨f1,hm1,gc1⟩:=z5Y (gn:=gn) h hn p1 hf hc
 obtain ⟨f2,hm2,gc2⟩:=z5Y (gn:=gn) h hn p2 hm1.1 hm1.2.1
 have g1:=gc1 (H:=z4H R C gn G f (z0c l)) (p:=0) (a:=1) (q:=3) (gq:=0) ⟨rfl,rfl,by decide,z0Y _ _ _⟩ rfl (by decide) (by decide) 4
 have g2:=gc2 (H:=z4H R C gn G f1 fun j=>-(z0c l j)) (p:=0) (a:=1) (q:=3) (gq:=0) ⟨rfl,rfl,by decide,z0Y _ _ _⟩ rfl (by decide) (by decide) 4
 have bd:-(G.n * 2 ^ 30:Int)≤brings G (fun j=>-(z0c l j)) f2∧brings G (fun j=>-(z0c l j)) f2≤G.n * 2 ^ 30:=z4C (g:=fun j=>-(z0c l j)) (z5E h hm2.1 p2).f p2 G.n (Nat.le_refl _)
 have w1:IntKind.i64.wrap (0 - brings G (fun j=>-(z0c l j)) f2)=-(brings G (fun j=>-(z0c l j)) f2):=by
  rw [i64_in _ (by omega)];omega
 refine ⟨-(brings G (fun j=>-(z0c l j)) f2),brings G (z0c l) f1,⟨⟨f1,hm1,rfl⟩,f2,hm2,rfl⟩,f2,hm2.1,hm2.2.1,?_⟩
 obtain ⟨e1,t1,hx1,hp1⟩:=zAL (R:=R) (C:=C) (gn:=gn) (G:=G) (f:=f) (cl:=cl) hsz hl hlen l.length 0 _ _ _ _ _ _ _ _ _ _ _ _ _ _ _ _ _ _ _ _ _ _ _ _ _ _ _ _ _ _ _ _ _ _ _ _ _ _ _ (by omega)
 obtain ⟨rfl,jp,rfl⟩:=hp1
 obtain ⟨e2,t2,hx2,hp2⟩:=z8o (R:=R) (C:=C) (gn:=gn) (G:=G) (f:=f1) (cl:=cl) hsz hl hlen (brings G (z0c l) f1) l.length 0 _ _ _ _ _ _ _ _ _ _ _ _ _ _ _ _ _ _ _ _ _ _ _ _ _ _ _ _ _ _ _ _ _ _ _ _ _ _ _ (by omega)
 obtain ⟨rfl,jq,rfl⟩:=hp2
 have m0:z99 l 0=z0c l:=by funext j;unfold z99;simp
 simp only [z4H,netB,arcB] at g1 g2
 simp only [go_sem,simprocAttr,Try.f82,z4H,netB,arcB,List.take_zero,Int.natCast_zero,Int.ofNat_zero] at hx1
 simp only [go_sem,simprocAttr,Try.f82,z4H,netB,arcB,m0,Int.natCast_zero,Int.ofNat_zero] at hx2
 rw [run_unfold fn82 rfl]
 simp only [go_sem,simprocAttr,Try.f82,netB,arcB,N0,m1,z1Q,Int.toNat_natCast,r1]
 rw [hx1]
 simp only [go_sem,simprocAttr,z4H,netB,arcB,g1]
 rw [hx2]
 simp only [go_sem,simprocAttr,z4H,netB,arcB,g2,w1,unwind,modeEx,resultsOf,one]
 exact ⟨_,rfl⟩
theorem zGI {R C gn:Nat} {G:Net} (h:NetOk G R C) (hn:0 < G.n) {f:Nat→Int} (hf:G.In f) (hc:G.Circ f) {cl:Bool} {sz:Nat} {l:List Nat} (hsz:l=[] ∨ sz=1) (hl:∀ j ∈ l,j < G.n) (hlen:l.length < 2 ^ 30):
    ∃ lo hi,IsEnds G l lo hi∧∃ (f':Nat→Int),G.In f'∧G.Circ f'∧∀ {H:Heap} {p a:Nat} {v:AVal} {lent:List Nat},NetAt H p a R C gn G.n (arcB gn G f)→lend H [1] [.ptr p 0 0 0,v] 0=some ([.ptr p 0 0 0,.lit cl sz (natsV l)],lent)→p ∉ lent∧a ∉ lent→∀ nx,
     callT env 82 [.ptr p 0 0 0,v] 0 H nx=some (.ret (.agg [.int .i64 lo,.int .i64 hi]),.ups [(p,netB R C a gn G.n),(a,arcB gn G f')]):=by
 obtain ⟨lo,hi,he,f',i1,i2,X,hr⟩:=zIA (gn:=gn) (cl:=cl) h hn hf hc hsz hl hlen
 refine ⟨lo,hi,he.is,f',i1,i2,fun {H p a v lent} hA hle hne nx=>?_⟩
 have hu:underL 0 [AVal.lit cl sz (natsV l)]=true:=by
  have:∀ l:List Nat,underL 0 (natsV l)=true:=by
   intro l
   induction l with
   | nil=>rfl
   | cons x l ih=>show (AVal.under 0 _ && underL 0 (natsV l))=true;rw [ih];rfl
  simp [underL,AVal.under,this]
 exact z4x (X:=X) (v:=.agg [.int .i64 lo,.int .i64 hi]) (lent:=lent) rfl rfl rfl rfl hA hle hu hne hr (fun _=>rfl) rfl rfl (.inr ⟨rfl,z5A _ _ _⟩)
def Tab.setCol (t:Tab) (i:Nat) (x:Spn):Tab:=⟨t.rows,t.cols.set i x,t.cells⟩
theorem zFl (t:Tab) (i:Nat) (x:Spn):(t.setCol i x).C=t.C:=List.length_set
theorem zGt {t:Tab} {i:Nat} (x:Spn) (hi:i < t.C) (j:Nat):(t.setCol i x).col j=if j=i then x else t.col j:=by
 unfold Tab.col Tab.setCol
 simp only
 by_cases h:j=i
 · subst h
   rw [if_pos rfl,List.getD_eq_getElem?_getD,List.getElem?_set_self hi];rfl
 · rw [if_neg h,List.getD_eq_getElem?_getD,List.getElem?_set_ne (Ne.symm h),← List.getD_eq_getElem?_getD]
theorem TbAt.writeCol {H:Heap} {a b q ga gb g:Nat} {ps:Nat→Nat} {t:Tab} (h:TbAt H a b q ga gb g ps t) (i:Nat) (x:Spn):
    TbAt (H.set b (.cells gb 2 true ((t.cols.map spV).set i (spV x)))) a b q ga gb g ps (t.setCol i x):=by
 obtain ⟨l1,l2,l3,l4⟩:=h.lt
 have e:=zFl t i x
 refine ⟨?_,?_,?_,fun j hj=>?_,h.ab,h.aq,h.bq,h.pa,h.pp⟩
 · rw [List.getElem?_set_ne h.ab.symm];exact h.rows
 · rw [List.getElem?_set_self l2]
   show _=some (Blk.cells gb 2 true ((t.cols.set i x).map spV))
   rw [List.map_set]
 · rw [List.getElem?_set_ne h.bq,e];exact h.acc
 · rw [List.getElem?_set_ne (h.pa j hj).2.1.symm];exact h.row j hj
structure Clo (t t':Tab) (P:Nat→Prop) (Q:Nat→Nat→Prop) (S:Nat→Prop):Prop where
 R:t'.R=t.R
 C:t'.C=t.C
 len:t'.cells.length=t.R
 wid:∀ l ∈ t'.cells,l.length=t.C
 row:∀ i,i < t.R→P i→EndsP t (rowF t i) (t'.row i)
 cell:∀ i k,i < t.R→k < t.C→Q i k→EndsP t (fun s=>s i k) (t'.cell i k)
 col:∀ k,k < t.C→S k→EndsP t (fun s=>sumN t.R fun i=>s i k) (t'.col k)
theorem Clo.start {t:Tab} (hO:t.Ok):Clo t t (fun _=>False) (fun _ _=>False) fun _=>False:=
 ⟨rfl,rfl,hO.len,hO.wid,fun _ _ h=>h.elim,fun _ _ _ _ h=>h.elim,fun _ _ h=>h.elim⟩
theorem Clo.mono {t t':Tab} {P P':Nat→Prop} {Q Q':Nat→Nat→Prop} {S S':Nat→Prop} (h:Clo t t' P Q S) (h1:∀ i,P' i→P i) (h2:∀ i k,k < t.C→Q' i k→Q i k) (h3:∀ k,S' k→S k):Clo t t' P' Q' S':=
 ⟨h.R,h.C,h.len,h.wid,fun i a b=>h.row i a (h1 i b),fun i k a b c=>h.cell i k a b (h2 i k b c),fun k a b=>h.col k a (h3 k b)⟩
theorem Clo.setRow {t t':Tab} {P:Nat→Prop} {Q:Nat→Nat→Prop} {S:Nat→Prop} (h:Clo t t' P Q S) {i:Nat} (hi:i < t.R) {x:Spn} (hx:EndsP t (rowF t i) x):Clo t (t'.setRow i x) (fun j=>P j ∨ j=i) Q S where
 R:=by rw [z3H];exact h.R
 C:=h.C
 len:=h.len
 wid:=h.wid
 row j hj hp:=by
  rw [z3N x (by rw [h.R];exact hi)]
  by_cases e:j=i
  · subst e;rw [if_pos rfl];exact hx
  · rw [if_neg e];exact h.row j hj (hp.resolve_right e)
 cell:=h.cell
 col:=h.col
theorem Clo.setCol {t t':Tab} {P:Nat→Prop} {Q:Nat→Nat→Prop} {S:Nat→Prop} (h:Clo t t' P Q S) {i:Nat} (hi:i < t.C) {x:Spn} (hx:EndsP t (fun s=>sumN t.R fun j=>s j i) x):Clo t (t'.setCol i x) P Q fun j=>S j ∨ j=i where
 R:=h.R
 C:=by rw [zFl];exact h.C
 len:=h.len
 wid:=h.wid
 row:=h.row
 cell:=h.cell
 col j hj hp:=by
  rw [zGt x (by rw [h.C];exact hi)]
  by_cases e:j=i
  · subst e;rw [if_pos rfl];exact hx
  · rw [if_neg e];exact h.col j hj (hp.resolve_right e)
theorem zER (t:Tab) (i k:Nat) (x:Spn):(t.setCell i k x).cells.length=t.cells.length:=List.length_set
theorem zES {t:Tab} {n:Nat} (hw:∀ l ∈ t.cells,l.length=n) {i k:Nat} (hi:i < t.cells.length) (x:Spn):∀ l ∈ (t.setCell i k x).cells,l.length=n:=fun l hl=>by
 rcases List.mem_or_eq_of_mem_set hl with h | rfl
 · exact hw l h
 · rw [List.length_set]
   exact hw _ (z1D hi _)
theorem zBj {t:Tab} {n:Nat} (hw:∀ l ∈ t.cells,l.length=n) {i k:Nat} (hi:i < t.cells.length) (hk:k < n) (x:Spn) (i' k':Nat):(t.setCell i k x).cell i' k'=if i'=i∧k'=k then x else t.cell i' k':=by
 have hwi:=hw _ (z1D hi [])
 unfold Tab.cell Tab.setCell
 simp only
 by_cases e:i'=i
 · subst e
   rw [List.getD_eq_getElem?_getD (l:=t.cells.set _ _),List.getElem?_set_self hi,Option.getD_some]
   by_cases e':k'=k
   · subst e'
     rw [if_pos ⟨rfl,rfl⟩,List.getD_eq_getElem?_getD,List.getElem?_set_self (by omega)];rfl
   · rw [if_neg (fun h=>e' h.2),List.getD_eq_getElem?_getD,List.getElem?_set_ne (Ne.symm e'),← List.getD_eq_getElem?_getD]
 · rw [if_neg (fun h=>e h.1),List.getD_eq_getElem?_getD (l:=t.cells.set _ _),List.getElem?_set_ne (Ne.symm e),← List.getD_eq_getElem?_getD]
theorem Clo.setCell {t t':Tab} {P:Nat→Prop} {Q:Nat→Nat→Prop} {S:Nat→Prop} (h:Clo t t' P Q S) {i k:Nat} (hi:i < t.R) (hk:k < t.C) {x:Spn} (hx:EndsP t (fun s=>s i k) x):Clo t (t'.setCell i k x) P (fun a b=>Q a b ∨ (a=i∧b=k)) S where
 R:=h.R
 C:=h.C
 len:=by rw [zER];exact h.len
 wid:=zES h.wid (by rw [h.len];exact hi) x
 row:=h.row
 cell a b ha hb hq:=by
  rw [zBj h.wid (by rw [h.len];exact hi) hk]
  by_cases e:a=i∧b=k
  · obtain ⟨rfl,rfl⟩:=e;rw [if_pos ⟨rfl,rfl⟩];exact hx
  · rw [if_neg e];exact h.cell a b ha hb (hq.resolve_right e)
 col:=h.col
def ClosedT (t t':Tab):Prop:=Clo t t' (fun _=>True) (fun _ _=>True) fun _=>True
theorem zO5 {t t':Tab} (hR:t'.R=t.R) (hC:t'.C=t.C) {n:Nat} (l1:t.cells.length=n) (l2:t'.cells.length=n) {m:Nat} (w1:∀ l ∈ t.cells,l.length=m) (w2:∀ l ∈ t'.cells,l.length=m)
    (er:∀ i,i < t.R→t'.row i=t.row i) (ec:∀ k,k < t.C→t'.col k=t.col k) (ex:∀ i k,i < n→k < m→t'.cell i k=t.cell i k):t'=t:=by
 have gd:∀ {l l':List Spn},l'.length=l.length→(∀ i,i < l.length→l'.getD i sp0=l.getD i sp0)→l'=l:=by
  intro l l' h e
  apply List.ext_getElem h
  intro i h1 h2
  have:=e i h2
  rwa [List.getD_eq_getElem?_getD,List.getD_eq_getElem?_getD,List.getElem?_eq_getElem h1,List.getElem?_eq_getElem h2] at this
 have e1:t'.rows=t.rows:=gd hR er
 have e2:t'.cols=t.cols:=gd hC ec
 have e3:t'.cells=t.cells:=by
  apply List.ext_getElem (by rw [l1,l2])
  intro i h1 h2
  have a1:=w2 _ (List.getElem_mem h1)
  have a2:=w1 _ (List.getElem_mem h2)
  refine gd (by rw [a1,a2]) fun k hk=>?_
  have:=ex i k (by omega) (by omega)
  unfold Tab.cell at this
  rwa [List.getD_eq_getElem?_getD (l:=t'.cells),List.getD_eq_getElem?_getD (l:=t.cells),List.getElem?_eq_getElem h1,List.getElem?_eq_getElem h2] at this
 cases t;cases t'
 simp only at e1 e2 e3
 rw [e1,e2,e3]
theorem ClosedT.unique {t a b:Tab} (ha:ClosedT t a) (hb:ClosedT t b):b=a:=by
 refine zO5 (hb.R.trans ha.R.symm) (hb.C.trans ha.C.symm) ha.len hb.len ha.wid hb.wid (fun i hi=>?_) (fun k hk=>?_) fun i k hi hk=>?_
 · rw [ha.R] at hi
   exact (hb.row i hi trivial).unique (ha.row i hi trivial) fun _ _=>rfl
 · rw [ha.C] at hk
   exact (hb.col k hk trivial).unique (ha.col k hk trivial) fun _ _=>rfl
 · exact (hb.cell i k hi hk trivial).unique (ha.cell i k hi hk trivial) fun _ _=>rfl
set_option maxRecDepth 10000
set_option maxHeartbeats 4000000
theorem zJD {T:TabV} (hT:T.Wf) (hO:T.tab.Ok) (hcan:canB T.tab=true) {r:Nat} (hr:r < T.tab.R):∃ x:Spn,EndsP T.tab (rowF T.tab r) x∧∀ ro H nx,callT env 29 [T.v,.int .i64 (r:Int)] ro H nx=some (.ret (.tuple [spV x,.int .i64 0]),.ups []):=by
 obtain ⟨v,hv,_⟩:=z5H hT (r:Int)
 have hc:=z9L hT (r:Int) hv
 obtain ⟨lo,hi,he,rfl⟩:=hv.zero (z2e (Tab.ok_iff.2 hO) hcan (z2P hr hO.C1))
 exact ⟨⟨lo,hi⟩,EndsP.of he fun s=>by rw [Int.toNat_natCast,z1N _ _ hr];rfl,hc⟩
theorem zJ9 {T:TabV} (hT:T.Wf) (hO:T.tab.Ok) (hcan:canB T.tab=true) {c:Nat} (hc':c < T.tab.C):∃ x:Spn,EndsP T.tab (fun s=>sumN T.tab.R fun i=>s i c) x∧∀ ro H nx,callT env 31 [T.v,.int .i64 (c:Int)] ro H nx=some (.ret (.tuple [spV x,.int .i64 0]),.ups []):=by
 obtain ⟨v,hv,_⟩:=z4z hT (c:Int)
 have hc:=zCr hT (c:Int) hv
 obtain ⟨lo,hi,he,rfl⟩:=hv.zero (z2e (Tab.ok_iff.2 hO) hcan (z2P (i:=0) hO.R1 hc'))
 exact ⟨⟨lo,hi⟩,EndsP.of he fun s=>by rw [Int.toNat_natCast,z2A _ _ hc'],hc⟩
theorem zGo {T:TabV} (hT:T.Wf) (hO:T.tab.Ok) (hcan:canB T.tab=true) {r c:Nat} (hr:r < T.tab.R) (hc':c < T.tab.C):∃ x:Spn,EndsP T.tab (fun s=>s r c) x∧∀ ro H nx,callT env 27 [T.v,.int .i64 (r:Int),.int .i64 (c:Int)] ro H nx=some (.ret (.tuple [spV x,.int .i64 0]),.ups []):=by
 obtain ⟨v,hv,_⟩:=z1e hT (r:Int) (c:Int)
 have hc:=z7m hT (r:Int) (c:Int) hv
 obtain ⟨lo,hi,he,rfl⟩:=hv.zero (z2e (Tab.ok_iff.2 hO) hcan (z2P hr hc'))
 exact ⟨⟨lo,hi⟩,EndsP.of he fun s=>by rw [Int.toNat_natCast,Int.toNat_natCast,z0i _ _ hr hc'],hc⟩
theorem zD1 {t:Tab} {n:Nat} (hw:∀ l ∈ t.cells,l.length=n) {i k:Nat} (hi:i < t.cells.length) (hk:k < n):(rowA t i)[k]?=some (spV (t.cell i k)):=by
 have:=hw _ (z1D hi [])
 unfold rowA Tab.cell
 rw [List.getElem?_map,List.getElem?_eq_getElem (by omega),List.getD_eq_getElem?_getD (l:=t.cells.getD i []),List.getElem?_eq_getElem (by omega)]
 rfl
structure RcAt (T:TabV) (H:Heap) (B g:Nat) (ps:Nat→Nat) (t:Tab):Prop where
 own:H[0]?=some (.cells 0 3 false [T.v])
 res:H[1]?=some (.cells 0 3 false [noTab])
 tab:TbAt H 4 5 6 1 1 g ps t
 box:H[B]?=some (.cells 0 3 false [memT T.tab 4 5 6 1 1 g])
 len:H.length=B+1
 lt:6 < B
 ps:∀ i,i < T.tab.R→6 < ps i∧ps i ≠ B
theorem RcAt.step {T:TabV} {H:Heap} {B g:Nat} {ps:Nat→Nat} {t t':Tab} (h:RcAt T H B g ps t) {j:Nat} {b:Blk} (ht:TbAt (H.set j b) 4 5 6 1 1 g ps t') (h1:j ≠ 0) (h2:j ≠ 1) (h3:j ≠ B):RcAt T (H.set j b) B g ps t':=
 ⟨by rw [List.getElem?_set_ne h1];exact h.own,by rw [List.getElem?_set_ne h2];exact h.res,ht,by rw [List.getElem?_set_ne h3];exact h.box,by rw [List.length_set];exact h.len,h.lt,h.ps⟩
theorem zKq {T:TabV} (hT:T.Wf) (hO:T.tab.Ok) (hcan:canB T.tab=true) {B g:Nat} {ps:Nat→Nat} {i:Nat} (hi:i < T.tab.R):∀ (n k:Nat) (H:Heap) (t:Tab) (j0 j3 j4 j8 j9 j10 j11 j12 j13 j14 j15 j16 j17 j18 j19 j20 j21 j22 j23 j24 j25 j26 j27 j28 j29 j30 j31 j32 j33 j34 j35 j36 j37 j38 j39 j40 j41 j42 j43 j44 j45 j46 j47 j48 j49 j50 j51 j52 j53 j54 j55 j56 j57 j58 j59 j60 j61 j62 j63 j64 j65 j66 j67 j68 j69 j70 j71 j72:AVal),k+n=T.tab.C→RcAt T H B g ps t→Clo T.tab t (fun j=>j < i+1) (fun j m=>j < i ∨ (j=i∧m < k)) (fun _=>False) →
    Goes (execT env (Try.f68.at [1,1,1,0,1,0,0,1,0,0,1,1,0]) ⟨[j0,.ptr 0 0 0 0,.ptr 1 0 0 0,j3,j4,.ptr B 0 0 0,.int .i64 i,.int .i64 k,j8,j9,j10,j11,j12,j13,j14,j15,j16,j17,j18,j19,j20,j21,j22,j23,j24,j25,j26,j27,j28,j29,j30,j31,j32,j33,j34,j35,j36,j37,j38,j39,j40,j41,j42,j43,j44,j45,j46,j47,j48,j49,j50,j51,j52,j53,j54,j55,j56,j57,j58,j59,j60,j61,j62,j63,j64,j65,j66,j67,j68,j69,j70,j71,j72],H,[],0,[]⟩) fun ex st=>
     ex=.exit 2∧∃ (H:Heap) (t:Tab),(RcAt T H B g ps t∧Clo T.tab t (fun j=>j < i+1) (fun j m=>j < i+1) (fun _=>False))∧FrP 73 [(1,.ptr 0 0 0 0),(2,.ptr 1 0 0 0),(5,.ptr B 0 0 0),(6,.int .i64 i)] H [] 0 [] st:=by
 have hR8:=hO.R8
 have hC8:=hO.C8
 have lc:(T.cols.l.map spV).length=T.tab.C:=by rw [List.length_map];rfl
 intro n
 induction n with
 | zero=>
   intro k H t;intros;rename_i hk hA hC
   have hd:decide ((k:Int) < (T.tab.C:Int))=false:=by simp;omega
   have h0:=hA.own
   have hk':k=T.tab.C:=by omega
   subst hk'
   simp only [go_sem,simprocAttr,Try.f68]
   rw [exec_loop]
   simp only [go_sem,simprocAttr,h0,lc,hd]
   exact ⟨H,t,⟨hA,hC.mono (P':=fun j=>j < i+1) (Q':=fun j _=>j < i+1) (S':=fun _=>False) (fun _ h=>h) (fun j m hm h=>by
    have h:j < i+1:=h
    show j < i ∨ (j=i∧m < T.tab.C)
    omega) fun _ h=>h⟩,frP (by kernel_rfl)⟩
 | succ n ih=>
   intro k H t;intros;rename_i hk hA hC
   have hkC:k < T.tab.C:=by omega
   have hd:decide ((k:Int) < (T.tab.C:Int))=true:=by simp;omega
   have k0:(0:Int)≤(k:Int):=by omega
   have i0:(0:Int)≤(i:Int):=by omega
   have dR:decide ((i:Int) < (T.tab.R:Int))=true:=by simp;omega
   obtain ⟨x,hx,cc⟩:=zGo hT hO hcan hi hkC
   have h0:=hA.own
   have hB:=hA.box
   have hlen:=hA.len
   have hlt:=hA.lt
   have hps:=hA.ps i hi
   have tR:=hC.R
   have tC:=hC.C
   have hit:i < t.R:=by omega
   have hacc:=hA.tab.acc
   rw [tR,tC] at hacc
   have hva:(vecA T.tab.R fun i=>AVal.ref (ps i) 0 0 T.tab.C false)[i]?=some (.ref (ps i) 0 0 T.tab.C false):=vecA_get _ hi
   have hrow:=hA.tab.row i hit
   have l4:=hA.tab.lt.2.2.2 i hit
   have z1:(ps i < H.length)=True:=eq_true l4
   have hrl:(rowA t i).length=T.tab.C:=by rw [z0V (by rw [hC.len,tR]) (by rw [tC];exact hC.wid) hit,tC]
   have hget:=zD1 hC.wid (i:=i) (by rw [hC.len];exact hi) hkC
   have wr:∀ y:Spn,z0K (spV y) 0 (spV x)=some (spV x):=fun _=>rfl
   have hat:=hA.tab.write (k:=k) (by rw [hC.len,tR]) hit x
   have hA':=hA.step hat (by omega) (by omega) hps.2
   have hC':=(hC.setCell hi hkC hx).mono (P':=fun j=>j < i+1) (Q':=fun j m=>j < i ∨ (j=i∧m < k+1)) (S':=fun _=>False) (fun _ h=>h) (fun j m _ h=>by
    have h:j < i ∨ (j=i∧m < k+1):=h
    show (j < i ∨ (j=i∧m < k)) ∨ (j=i∧m=k)
    omega) fun _ h=>h
   have z2:decide (B < H.length)=true:=decide_eq_true (by omega)
   have z0:decide (0 < H.length)=true:=decide_eq_true (by omega)
   have z3:decide (6 < H.length)=true:=decide_eq_true (by omega)
   have z4:decide (ps i < H.length)=true:=decide_eq_true l4
   have dC:decide ((k:Int) < (T.tab.C:Int))=true:=hd
   have hB:H[B]?=some (.cells 0 3 false [.agg [.ref 4 1 0 T.tab.R false,.ref 5 1 0 T.tab.C false,.ref 6 g 0 T.tab.R false]]):=hB
   have ih':=ih (k+1)
   simp only [go_sem,simprocAttr,Try.f68] at ih' ⊢
   rw [exec_loop]
   simp only [go_sem,simprocAttr,h0,lc,hd,k0,i0,dR,Int.toNat_natCast,hB,hacc,hva,hrow,hrl,hget,wr,cc,z0,z1,z2,z3,z4,Nat.zero_le,List.length_set]
   rw [apart_ok]
   · simp only [go_sem,simprocAttr,List.length_set,Nat.le_refl,z00 (show k < 2 ^ 63 - 1 by omega)]
     exact ih' _ _ _ _ _ _ _ _ _ _ _ _ _ _ _ _ _ _ _ _ _ _ _ _ _ _ _ _ _ _ _ _ _ _ _ _ _ _ _ _ _ _ _ _ _ _ _ _ _ _ _ _ _ _ _ _ _ _ _ _ _ _ _ _ _ _ _ _ _ _ (by omega) hA' hC'
   · exact z0L (by kernel_rfl)
theorem z74 {t:Tab} {i:Nat} (hi:i < t.R):(t.rows.map spV)[i]?=some (spV (t.row i)):=by
 unfold Tab.row
 rw [List.getElem?_map,List.getD_eq_getElem?_getD,List.getElem?_eq_getElem (show i < t.rows.length from hi)]
 rfl
theorem zCH {t:Tab} {i:Nat} (hi:i < t.C):(t.cols.map spV)[i]?=some (spV (t.col i)):=by
 unfold Tab.col
 rw [List.getElem?_map,List.getD_eq_getElem?_getD,List.getElem?_eq_getElem (show i < t.cols.length from hi)]
 rfl
theorem zKr {T:TabV} (hT:T.Wf) (hO:T.tab.Ok) (hcan:canB T.tab=true) {B g:Nat} {ps:Nat→Nat}:∀ (n i:Nat) (H:Heap) (t:Tab) (j0 j3 j4 j7 j8 j9 j10 j11 j12 j13 j14 j15 j16 j17 j18 j19 j20 j21 j22 j23 j24 j25 j26 j27 j28 j29 j30 j31 j32 j33 j34 j35 j36 j37 j38 j39 j40 j41 j42 j43 j44 j45 j46 j47 j48 j49 j50 j51 j52 j53 j54 j55 j56 j57 j58 j59 j60 j61 j62 j63 j64 j65 j66 j67 j68 j69 j70 j71 j72:AVal),i+n=T.tab.R→RcAt T H B g ps t→Clo T.tab t (fun j=>j < i) (fun j _=>j < i) (fun _=>False) →
    Goes (execT env (Try.f68.at [1,1,1,0,1,0]) ⟨[j0,.ptr 0 0 0 0,.ptr 1 0 0 0,j3,j4,.ptr B 0 0 0,.int .i64 i,j7,j8,j9,j10,j11,j12,j13,j14,j15,j16,j17,j18,j19,j20,j21,j22,j23,j24,j25,j26,j27,j28,j29,j30,j31,j32,j33,j34,j35,j36,j37,j38,j39,j40,j41,j42,j43,j44,j45,j46,j47,j48,j49,j50,j51,j52,j53,j54,j55,j56,j57,j58,j59,j60,j61,j62,j63,j64,j65,j66,j67,j68,j69,j70,j71,j72],H,[],0,[]⟩) fun ex st=>
     ex=.exit 0∧∃ (H:Heap) (t:Tab),(RcAt T H B g ps t∧Clo T.tab t (fun _=>True) (fun _ _=>True) (fun _=>False))∧FrP 73 [(1,.ptr 0 0 0 0),(2,.ptr 1 0 0 0),(5,.ptr B 0 0 0)] H [] 0 [] st:=by
 have hR8:=hO.R8
 have hC8:=hO.C8
 have lr:(T.rows.l.map spV).length=T.tab.R:=by rw [List.length_map];rfl
 intro n
 induction n with
 | zero=>
   intro i H t;intros;rename_i hi hA hC
   have hd:decide ((i:Int) < (T.tab.R:Int))=false:=by simp;omega
   have h0:=hA.own
   simp only [go_sem,simprocAttr,Try.f68]
   rw [exec_loop]
   simp only [go_sem,simprocAttr,h0,lr,hd]
   have hC':Clo T.tab t (fun _=>True) (fun _ _=>True) (fun _=>False):=
    ⟨hC.R,hC.C,hC.len,hC.wid,fun j hj _=>hC.row j hj (by show j < i;omega),fun j k hj hk _=>hC.cell j k hj hk (by show j < i;omega),fun _ _ h=>h.elim⟩
   exact ⟨H,t,⟨hA,hC'⟩,frP (by kernel_rfl)⟩
 | succ n ih=>
   intro i H t;intros;rename_i hi hA hC
   have hiR:i < T.tab.R:=by omega
   have hd:decide ((i:Int) < (T.tab.R:Int))=true:=by simp;omega
   have i0:(0:Int)≤(i:Int):=by omega
   obtain ⟨x,hx,cc⟩:=zJD hT hO hcan hiR
   have h0:=hA.own
   have hlen:=hA.len
   have hlt:=hA.lt
   have tR:=hC.R
   have hrows:=hA.tab.rows
   have hget:=z74 (t:=t) (i:=i) (by omega)
   have hrl:(t.rows.map spV).length=T.tab.R:=by rw [List.length_map];exact tR
   have wr:∀ y:Spn,z0K (spV y) 0 (spV x)=some (spV x):=fun _=>rfl
   have hA':=hA.step (hA.tab.writeRow i x) (by decide) (by decide) (by omega)
   have hC':=(hC.setRow hiR hx).mono (P':=fun j=>j < i+1) (Q':=fun j m=>j < i ∨ (j=i∧m < 0)) (S':=fun _=>False) (fun j h=>by
    have h:j < i+1:=h
    show j < i ∨ j=i
    omega) (fun j m _ h=>by
    have h:j < i ∨ (j=i∧m < 0):=h
    show j < i
    omega) fun _ h=>h
   obtain ⟨e1,s1,hx1,hp1⟩:=zKq hT hO hcan hiR T.tab.C 0 _ _ _ _ _ _ _ _ _ _ _ _ _ _ _ _ _ _ _ _ _ _ _ _ _ _ _ _ _ _ _ _ _ _ _ _ _ _ _ _ _ _ _ _ _ _ _ _ _ _ _ _ _ _ _ _ _ _ _ _ _ _ _ _ _ _ _ _ _ _ (by omega) hA' hC'
   obtain ⟨rfl,H2,t2,⟨hA2,hC2⟩,jp,rfl⟩:=hp1
   have hB:H[B]?=some (.cells 0 3 false [.agg [.ref 4 1 0 T.tab.R false,.ref 5 1 0 T.tab.C false,.ref 6 g 0 T.tab.R false]]):=hA.box
   have z0:decide (0 < H.length)=true:=decide_eq_true (by omega)
   have z1:(4 < H.length)=True:=eq_true (by omega)
   have z2:decide (B < H.length)=true:=decide_eq_true (by omega)
   have z3:decide (4 < H.length)=true:=decide_eq_true (by omega)
   have hl2:(H2.length≤H.length)=True:=eq_true (by have:=hA2.len;omega)
   have ih':=ih (i+1)
   simp only [go_sem,simprocAttr,Try.f68,Int.ofNat_zero,Int.natCast_zero] at hx1
   simp only [go_sem,simprocAttr,Try.f68] at ih' ⊢
   rw [exec_loop]
   simp only [go_sem,simprocAttr,h0,lr,hd,i0,Int.toNat_natCast,hB,hrows,hrl,hget,wr,cc,z0,z1,z2,z3,Nat.zero_le,List.length_set]
   rw [apart_ok]
   · simp only [go_sem,simprocAttr]
     rw [hx1]
     simp only [go_sem,simprocAttr,hl2,z00 (show i < 2 ^ 63 - 1 by omega)]
     exact ih' _ _ _ _ _ _ _ _ _ _ _ _ _ _ _ _ _ _ _ _ _ _ _ _ _ _ _ _ _ _ _ _ _ _ _ _ _ _ _ _ _ _ _ _ _ _ _ _ _ _ _ _ _ _ _ _ _ _ _ _ _ _ _ _ _ _ _ _ _ _ _ (by omega) hA2 hC2
   · exact z0L (by kernel_rfl)
theorem zKs {T:TabV} (hT:T.Wf) (hO:T.tab.Ok) (hcan:canB T.tab=true) {B g:Nat} {ps:Nat→Nat}:∀ (n i:Nat) (H:Heap) (t:Tab) (j0 j3 j4 j6 j7 j9 j10 j11 j12 j13 j14 j15 j16 j17 j18 j19 j20 j21 j22 j23 j24 j25 j26 j27 j28 j29 j30 j31 j32 j33 j34 j35 j36 j37 j38 j39 j40 j41 j42 j43 j44 j45 j46 j47 j48 j49 j50 j51 j52 j53 j54 j55 j56 j57 j58 j59 j60 j61 j62 j63 j64 j65 j66 j67 j68 j69 j70 j71 j72:AVal),i+n=T.tab.C→RcAt T H B g ps t→Clo T.tab t (fun _=>True) (fun _ _=>True) (fun j=>j < i) →
    Goes (execT env (Try.f68.at [1,1,1,1,0,1,0]) ⟨[j0,.ptr 0 0 0 0,.ptr 1 0 0 0,j3,j4,.ptr B 0 0 0,j6,j7,.int .i64 i,j9,j10,j11,j12,j13,j14,j15,j16,j17,j18,j19,j20,j21,j22,j23,j24,j25,j26,j27,j28,j29,j30,j31,j32,j33,j34,j35,j36,j37,j38,j39,j40,j41,j42,j43,j44,j45,j46,j47,j48,j49,j50,j51,j52,j53,j54,j55,j56,j57,j58,j59,j60,j61,j62,j63,j64,j65,j66,j67,j68,j69,j70,j71,j72],H,[],0,[]⟩) fun ex st=>
     ex=.exit 4∧∃ (H:Heap) (t:Tab),(RcAt T H B g ps t∧ClosedT T.tab t)∧FrP 73 [(1,.ptr 0 0 0 0),(2,.ptr 1 0 0 0),(5,.ptr B 0 0 0)] H [] 0 [] st:=by
 have hR8:=hO.R8
 have hC8:=hO.C8
 have lr:(T.cols.l.map spV).length=T.tab.C:=by rw [List.length_map];rfl
 intro n
 induction n with
 | zero=>
   intro i H t;intros;rename_i hi hA hC
   have hd:decide ((i:Int) < (T.tab.C:Int))=false:=by simp;omega
   have h0:=hA.own
   simp only [go_sem,simprocAttr,Try.f68]
   rw [exec_loop]
   simp only [go_sem,simprocAttr,h0,lr,hd]
   have hC':ClosedT T.tab t:=
    ⟨hC.R,hC.C,hC.len,hC.wid,hC.row,hC.cell,fun j hj _=>hC.col j hj (by show j < i;omega)⟩
   exact ⟨H,t,⟨hA,hC'⟩,frP (by kernel_rfl)⟩
 | succ n ih=>
   intro i H t;intros;rename_i hi hA hC
   have hiR:i < T.tab.C:=by omega
   have hd:decide ((i:Int) < (T.tab.C:Int))=true:=by simp;omega
   have i0:(0:Int)≤(i:Int):=by omega
   obtain ⟨x,hx,cc⟩:=zJ9 hT hO hcan hiR
   have h0:=hA.own
   have hlen:=hA.len
   have hlt:=hA.lt
   have tC:=hC.C
   have hcols:=hA.tab.cols
   have hget:=zCH (t:=t) (i:=i) (by omega)
   have hrl:(t.cols.map spV).length=T.tab.C:=by rw [List.length_map];exact tC
   have wr:∀ y:Spn,z0K (spV y) 0 (spV x)=some (spV x):=fun _=>rfl
   have hA':=hA.step (hA.tab.writeCol i x) (by decide) (by decide) (by omega)
   have hC':=(hC.setCol hiR hx).mono (P':=fun _=>True) (Q':=fun _ _=>True) (S':=fun j=>j < i+1) (fun _ h=>h) (fun _ _ _ h=>h) (fun j h=>by
    have h:j < i+1:=h
    show j < i ∨ j=i
    omega)
   have hB:H[B]?=some (.cells 0 3 false [.agg [.ref 4 1 0 T.tab.R false,.ref 5 1 0 T.tab.C false,.ref 6 g 0 T.tab.R false]]):=hA.box
   have z0:decide (0 < H.length)=true:=decide_eq_true (by omega)
   have z1:(5 < H.length)=True:=eq_true (by omega)
   have z2:decide (B < H.length)=true:=decide_eq_true (by omega)
   have z3:decide (5 < H.length)=true:=decide_eq_true (by omega)
   have ih':=ih (i+1)
   simp only [go_sem,simprocAttr,Try.f68] at ih' ⊢
   rw [exec_loop]
   simp only [go_sem,simprocAttr,h0,lr,hd,i0,Int.toNat_natCast,hB,hcols,hrl,hget,wr,cc,z0,z1,z2,z3,Nat.zero_le,List.length_set]
   rw [apart_ok]
   · simp only [go_sem,simprocAttr,List.length_set,Nat.le_refl,z00 (show i < 2 ^ 63 - 1 by omega)]
     exact ih' _ _ _ _ _ _ _ _ _ _ _ _ _ _ _ _ _ _ _ _ _ _ _ _ _ _ _ _ _ _ _ _ _ _ _ _ _ _ _ _ _ _ _ _ _ _ _ _ _ _ _ _ _ _ _ _ _ _ _ _ _ _ _ _ _ _ _ _ _ _ _ (by omega) hA' hC'
   · exact z0L (by kernel_rfl)
def ClAns (t:Tab) (v:AVal):Prop:=(t.ok=false∧v=.tuple [noTab,.int .i64 60]) ∨ (t.Ok∧canB t=false∧v=.tuple [noTab,.int .i64 31]) ∨
 (t.Ok∧canB t=true∧∃ t',ClosedT t t'∧v=.tuple [(canon t').v,.int .i64 0])
theorem zCq {T:TabV} (hT:T.Wf):∃ v,ClAns T.tab v∧∀ ro H nx,callT env 68 [T.v] ro H nx=some (.ret v,.ups []):=by
 have rc:=z4P hT 0 0
 cases hok:T.tab.ok with
 | false=>
   have ha:askS T.tab 0 0=60:=by unfold askS;rw [hok];rfl
   rw [ha] at rc
   refine ⟨_,.inl ⟨hok,rfl⟩,?_⟩
   have:∃ H',runT env 68 [T.v] [] 0=some (.ret (.tuple [noTab,.int .i64 60]),H'):=by
    rw [run_unfold fn68 rfl]
    simp only [go_sem,simprocAttr,Try.f68,rc,unwind,modeEx,resultsOf,one]
    exact ⟨_,rfl⟩
   obtain ⟨H',h⟩:=this
   exact fun ro H nx=>call_pure rfl rfl rfl z0b h rfl ro H nx
 | true=>
   have hO:=Tab.ok_iff.1 hok
   cases hcan:canB T.tab with
   | false=>
     have ha:askS T.tab 0 0=31:=by unfold askS;rw [hok,hcan];rfl
     rw [ha] at rc
     refine ⟨_,.inr (.inl ⟨hO,hcan,rfl⟩),?_⟩
     have:∃ H',runT env 68 [T.v] [] 0=some (.ret (.tuple [noTab,.int .i64 31]),H'):=by
      rw [run_unfold fn68 rfl]
      simp only [go_sem,simprocAttr,Try.f68,rc,unwind,modeEx,resultsOf,one]
      exact ⟨_,rfl⟩
     obtain ⟨H',h⟩:=this
     exact fun ro H nx=>call_pure rfl rfl rfl z0b h rfl ro H nx
   | true=>
     have hask:askS T.tab 0 0=0:=z2e hok hcan (z2P (i:=0) (k:=0) hO.R1 hO.C1)
     rw [hask] at rc
     obtain ⟨g,cl⟩:=z2s hT hO
     have cl:=cl 0 [boxT T,.cells 0 3 false [noTab]] 2
     have at0:=z4F hO [boxT T,.cells 0 3 false [noTab]] g
     have H2:([boxT T,.cells 0 3 false [noTab]]:Heap).length=2:=rfl
     rw [H2] at at0
     have hpu:=z0g (cpX T 2 g) [boxT T,.cells 0 3 false [noTab]]
     rw [H2] at hpu
     have hXl:=zDo T 2 g
     have hR1:=hO.R1
     have at1:=at0.more [.cells 0 3 false [memT T.tab 4 5 6 1 1 g]]
     generalize hX:cpX T 2 g=X at cl at0 at1 hpu hXl
     have hA:RcAt T (([boxT T,.cells 0 3 false [noTab]]++X)++[.cells 0 3 false [memT T.tab 4 5 6 1 1 g]]) (X.length+2) g (cpP 2) T.tab:=by
      refine ⟨rfl,rfl,at1,z08 (by rw [List.length_append,H2];omega) _,?_,by omega,fun i hi=>?_⟩
      · simp only [List.length_append,List.length_cons,List.length_nil];omega
      · unfold cpP;omega
     obtain ⟨e1,s1,hx1,hp1⟩:=zKr hT hO hcan T.tab.R 0 _ _ _ _ _ _ _ _ _ _ _ _ _ _ _ _ _ _ _ _ _ _ _ _ _ _ _ _ _ _ _ _ _ _ _ _ _ _ _ _ _ _ _ _ _ _ _ _ _ _ _ _ _ _ _ _ _ _ _ _ _ _ _ _ _ _ _ _ _ _ _ (by omega) hA ((Clo.start hO).mono (fun _ h=>absurd h (Nat.not_lt_zero _)) (fun _ _ _ h=>absurd h (Nat.not_lt_zero _)) fun _ h=>h)
     obtain ⟨rfl,Ha,ta,⟨hA1,hC1⟩,jp,rfl⟩:=hp1
     obtain ⟨e2,s2,hx2,hp2⟩:=zKs hT hO hcan T.tab.C 0 _ _ _ _ _ _ _ _ _ _ _ _ _ _ _ _ _ _ _ _ _ _ _ _ _ _ _ _ _ _ _ _ _ _ _ _ _ _ _ _ _ _ _ _ _ _ _ _ _ _ _ _ _ _ _ _ _ _ _ _ _ _ _ _ _ _ _ _ _ _ _ (by omega) hA1 (hC1.mono (fun _ h=>h) (fun _ _ _ h=>h) fun _ h=>absurd h (Nat.not_lt_zero _))
     obtain ⟨rfl,Hb,tb,⟨hA2,hC2⟩,jq,rfl⟩:=hp2
     have gs:=fun b:Blk=>z08 (X:=X) rfl b
     have ss:=fun b b':Blk=>z0d (X:=X) rfl b b'
     have ls:=fun b:Blk=>z06 (X:=X) rfl b
     have hbx:=hA2.box
     have hbr:=hA2.res
     have hbl:=hA2.len
     have hblt:=hA2.lt
     have z1:(1 < Hb.length)=True:=eq_true (by omega)
     have y3:∀ b,(Hb.set 1 b)[1]?=some b:=fun b=>List.getElem?_set_self (by omega)
     have hrun:runT env 68 [T.v] [] 0=some (.ret (.tuple [memT T.tab 4 5 6 1 1 g,.int .i64 0]),Hb.set 1 (.cells 0 3 false [memT T.tab 4 5 6 1 1 g])):=by
      simp only [boxT,memT,noTab,List.cons_append,List.nil_append] at cl hpu hbx hbr ⊢
      simp only [go_sem,simprocAttr,Try.f68,boxT,memT,noTab,List.cons_append,List.nil_append,Int.ofNat_zero,Int.natCast_zero] at hx1 hx2
      rw [run_unfold fn68 rfl]
      simp only [go_sem,simprocAttr,Try.f68,rc,cl,hpu,gs,ss,ls,Nat.lt_add_one,Nat.zero_le]
      rw [hx1]
      simp only [go_sem,simprocAttr]
      rw [hx2]
      simp only [go_sem,simprocAttr,hbx,hbr,y3,z1,unwind,modeEx,resultsOf,one]
     have tR:=hC2.R
     have tC:=hC2.C
     have yat:TbAt (Hb.set 1 (.cells 0 3 false [memT T.tab 4 5 6 1 1 g])) 4 5 6 1 1 g (cpP 2) tb:=by
      refine hA2.tab.mono fun j hj=>List.getElem?_set_ne ?_
      rcases hj with rfl | rfl | rfl | ⟨m,hm,rfl⟩
      · decide
      · decide
      · decide
      · have:=(hA2.ps m (by omega)).1
        omega
     have hmt:memT T.tab 4 5 6 1 1 g=memT tb 4 5 6 1 1 g:=by unfold memT;rw [tR,tC]
     have hb:=yat.back (n:=1) (by rw [hC2.len,tR]) (by rw [tC];exact hC2.wid)
     have hb:handBack (Hb.set 1 (.cells 0 3 false [memT T.tab 4 5 6 1 1 g])) 0 [] 3 (memT T.tab 4 5 6 1 1 g)=some (canon tb).v:=by rw [hmt] at hb ⊢;exact hb
     refine ⟨_,.inr (.inr ⟨hO,hcan,tb,hC2,rfl⟩),fun ro H nx=>?_⟩
     refine z0r rfl rfl rfl z0b hrun ?_ rfl ro H nx
     unfold handBack
     simp only [mapO,hb]
     rfl
set_option maxRecDepth 10000
set_option maxHeartbeats 4000000
theorem zCl {f:Nat} (hw:(env.hint f).whole=false) (hka:(env.hint f).keepAll=false) (hk:(env.hint f).keep=[]) {x y:Spn} (h:∃ H',runT env f [spV x,spV y] [] 0=some (.ret (spV (z0G x y)),H')) (ro:Nat) (H:Heap) (nx:Nat):callT env f [spV x,spV y] ro H nx=some (.ret (spV (z0G x y)),.ups []):=by
 obtain ⟨H',h⟩:=h
 exact call_pure hw hka hk rfl h rfl ro H nx
theorem z9I {x y:Spn} (h1:IntKind.i64.wrap (x.lo+y.lo)=x.lo+y.lo) (h2:IntKind.i64.wrap (x.hi+y.hi)=x.hi+y.hi) (ro:Nat) (H:Heap) (nx:Nat):callT env 95 [spV x,spV y] ro H nx=some (.ret (spV (z0G x y)),.ups []):=by
 refine zCl rfl rfl rfl ?_ ro H nx
 have wr:z0K (.agg [.int .i64 0,.int .i64 0]) 0 (.agg [.int .i64 (x.lo+y.lo),.int .i64 (x.hi+y.hi)])=some (spV (z0G x y)):=rfl
 have wr':z0K (spV ⟨0,0⟩) 0 (spV (z0G x y))=some (spV (z0G x y)):=rfl
 have e:spV (z0G x y)=.agg [.int .i64 (x.lo+y.lo),.int .i64 (x.hi+y.hi)]:=rfl
 rw [run_unfold fn95 rfl]
 simp only [go_sem,simprocAttr,Try.f95,h1,h2,wr,wr',unwind,modeEx,resultsOf,one]
 exact ⟨_,rfl⟩
theorem z86 {x y:Spn} (h1:IntKind.i64.wrap (x.lo+y.lo)=x.lo+y.lo) (h2:IntKind.i64.wrap (x.hi+y.hi)=x.hi+y.hi) (ro:Nat) (H:Heap) (nx:Nat):callT env 120 [spV x,spV y] ro H nx=some (.ret (spV (z0G x y)),.ups []):=by
 refine zCl rfl rfl rfl ?_ ro H nx
 have wr:z0K (.agg [.int .i64 0,.int .i64 0]) 0 (.agg [.int .i64 (x.lo+y.lo),.int .i64 (x.hi+y.hi)])=some (spV (z0G x y)):=rfl
 rw [run_unfold fn120 rfl]
 simp only [go_sem,simprocAttr,Try.f120,h1,h2,wr,unwind,modeEx,resultsOf,one]
 exact ⟨_,rfl⟩
def z0T (t:Tab) (a b n:Nat):List Spn:=(List.range n).map fun k=>z0G (t.cell a k) (t.cell b k)
theorem z2F (t:Tab) (a b n:Nat):(z0T t a b n).length=n:=by simp [z0T]
theorem z9b (t:Tab) (a b n:Nat):z0T t a b (n+1)=z0T t a b n++[z0G (t.cell a n) (t.cell b n)]:=by simp [z0T,List.range_succ]
theorem zNX {t:Tab} (hO:t.Ok) {X:Heap} {B g:Nat} {ps:Nat→Nat} (hX:X.length=B+1+1) (hat:TbAt X 4 5 12 0 0 g ps t) (hbox:X[B]?=some (.cells 0 3 false [memT t 4 5 12 0 0 g])) {a b:Nat} (ha:a < t.R) (hb:b < t.R):∀ (n k:Nat) (j0 j3 j4 j5 j7 j8 j13 j14 j15 j16 j17 j18 j19 j20 j21 j22 j23 j24 j25 j26 j27 j28 j29 j30 j31 j32 j33 j34 j35 j36 j37 j38 j39 j40 j41 j42 j43 j44 j45 j46 j47 j48 j49 j50 j51 j52 j53 j54 j55 j56 j57 j58 j59 j60 j61 j62 j66 j67 j68 j69 j70 j71 j72 j73 j74 j75 j76 j77 j78 j79 j80 j81 j82 j83 j84 j85 j86 j87 j88 j89 j90 j91 j92 j93 j94 j95 j96 j97 j98 j99 j100 j101 j102 j103 j104 j105 j106 j107 j108 j109 j110 j111 j112 j113 j114 j115 j116 j117 j118 j119 j120 j121 j122 j123 j124 j125 j126 j127 j128 j129 j130 j131 j132 j133 j134 j135 j136 j137 j138 j139:AVal),k+n=t.C →
    Goes (execT env (Try.f37.at [1,1,1,1,1,1,1,0,1,0]) ⟨[j0,.int .i64 a,.int .i64 b,j3,j4,j5,.ptr 1 0 0 0,j7,j8,.func 95 [] [],.ptr B 0 0 0,.ptr (B+1) 0 0 0,.ref (B+1+1) k 0 k false,j13,j14,j15,j16,j17,j18,j19,j20,j21,j22,j23,j24,j25,j26,j27,j28,j29,j30,j31,j32,j33,j34,j35,j36,j37,j38,j39,j40,j41,j42,j43,j44,j45,j46,j47,j48,j49,j50,j51,j52,j53,j54,j55,j56,j57,j58,j59,j60,j61,j62,.ref 5 0 0 t.C false,.int .i64 t.C,.int .i64 k,j66,j67,j68,j69,j70,j71,j72,j73,j74,j75,j76,j77,j78,j79,j80,j81,j82,j83,j84,j85,j86,j87,j88,j89,j90,j91,j92,j93,j94,j95,j96,j97,j98,j99,j100,j101,j102,j103,j104,j105,j106,j107,j108,j109,j110,j111,j112,j113,j114,j115,j116,j117,j118,j119,j120,j121,j122,j123,j124,j125,j126,j127,j128,j129,j130,j131,j132,j133,j134,j135,j136,j137,j138,j139],X++[accN ((z0T t a b k).map spV)],[],0,[10,12,136]⟩) fun ex st=>
     ex=.exit 0∧FrP 140 [(1,.int .i64 a),(2,.int .i64 b),(6,.ptr 1 0 0 0),(9,.func 95 [] []),(10,.ptr B 0 0 0),(11,.ptr (B+1) 0 0 0),(12,.ref (B+1+1) t.C 0 t.C false)] (X++[accN ((z0T t a b t.C).map spV)]) [] 0 [10,12,136] st:=by
 have hR8:=hO.R8
 have hC8:=hO.C8
 intro n
 induction n with
 | zero=>
   intro k;intros;rename_i hk
   have hd:decide ((k:Int) < (t.C:Int))=false:=by simp;omega
   have hk':k=t.C:=by omega
   subst hk'
   simp only [go_sem,simprocAttr,Try.f37]
   rw [exec_loop]
   simp only [go_sem,simprocAttr,hd]
   exact frP (by kernel_rfl)
 | succ n ih=>
   intro k;intros;rename_i hk
   have hkC:k < t.C:=by omega
   have hd:decide ((k:Int) < (t.C:Int))=true:=by simp;omega
   have k0:(0:Int)≤(k:Int):=by omega
   have a0:(0:Int)≤(a:Int):=by omega
   have b0:(0:Int)≤(b:Int):=by omega
   have dA:decide ((a:Int) < (t.R:Int))=true:=by simp;omega
   have dB:decide ((b:Int) < (t.R:Int))=true:=by simp;omega
   have dC:decide ((k:Int) < (t.C:Int))=true:=hd
   have hb5:∀ z,(X++[z])[B]?=some (.cells 0 3 false [.agg [.ref 4 0 0 t.R false,.ref 5 0 0 t.C false,.ref 12 g 0 t.R false]]):=fun z=>by rw [z4d hX _ (by omega)];exact hbox
   have hacc:=fun z=>(hat.more [z]).acc
   have hra:=fun z=>(hat.more [z]).row a ha
   have hrb:=fun z=>(hat.more [z]).row b hb
   have hva:(vecA t.R fun i=>AVal.ref (ps i) 0 0 t.C false)[a]?=some (.ref (ps a) 0 0 t.C false):=vecA_get _ ha
   have hvb:(vecA t.R fun i=>AVal.ref (ps i) 0 0 t.C false)[b]?=some (.ref (ps b) 0 0 t.C false):=vecA_get _ hb
   have ga:=z2m hO ha hkC
   have gb:=z2m hO hb hkC
   have ba:=hO.cell_ok ha hkC
   have bb:=hO.cell_ok hb hkC
   have pc:=z9I (x:=t.cell a k) (y:=t.cell b k) (i64_in _ (by omega)) (i64_in _ (by omega))
   have ap:=z2M (H:=X++[accN ((z0T t a b k).map spV)]) (id:=B+1+1) (n:=k) (es:=(z0T t a b k).map spV) (x:=z0G (t.cell a k) (t.cell b k)) (z08 hX _) (by rw [List.length_map,z2F]) (by omega) (B+1+1+1) (ro:=0) (Nat.zero_le _)
   rw [show (z0T t a b k).map spV++[spV (z0G (t.cell a k) (t.cell b k))]=(z0T t a b (k+1)).map spV by rw [z9b,List.map_append];rfl] at ap
   have hL:∀ z,(X++[z]).length=B+1+1+1:=fun z=>z06 hX z
   have hst:∀ z z',(X++[z]).set (B+1+1) z'=X++[z']:=fun z z'=>z0d hX z z'
   have z1:(B+1+1 < B+1+1+1)=True:=eq_true (by omega)
   have z2:decide (B < B+1+1+1)=true:=decide_eq_true (by omega)
   have z3:decide (B+1+1 < B+1+1+1)=true:=decide_eq_true (by omega)
   have lt4:=hat.lt
   have z4:decide (12 < B+1+1+1)=true:=decide_eq_true (by have:=lt4.2.2.1;omega)
   have z5:decide (ps a < B+1+1+1)=true:=decide_eq_true (by have:=lt4.2.2.2 a ha;omega)
   have z6:decide (ps b < B+1+1+1)=true:=decide_eq_true (by have:=lt4.2.2.2 b hb;omega)
   have htr:∀ Tm z,trunc (B+1+1+1) ⟨Tm,X++[z],[],0,[10,12,136]⟩=⟨Tm,X++[z],[],0,[10,12,136]⟩:=fun Tm z=>by
    unfold trunc
    rw [if_pos (by rw [z06 hX];exact Nat.le_refl _)]
   have ih':=ih (k+1)
   simp only [go_sem,simprocAttr,Try.f37] at ih' ⊢
   rw [exec_loop]
   simp only [go_sem,simprocAttr,hd,a0,b0,k0,dA,dB,Int.toNat_natCast,hb5,hacc,hra,hrb,hva,hvb,ga,gb,z0V hO.len hO.wid ha,z0V hO.len hO.wid hb,pc,hL,ap,hst,z1,z2,z3,z4,z5,z6,htr,Nat.zero_add,Nat.zero_le]
   rw [apart_ok]
   · simp only [go_sem,simprocAttr,hL,htr,z00 (show k < 2 ^ 63 - 1 by omega)]
     exact ih' _ _ _ _ _ _ _ _ _ _ _ _ _ _ _ _ _ _ _ _ _ _ _ _ _ _ _ _ _ _ _ _ _ _ _ _ _ _ _ _ _ _ _ _ _ _ _ _ _ _ _ _ _ _ _ _ _ _ _ _ _ _ _ _ _ _ _ _ _ _ _ _ _ _ _ _ _ _ _ _ _ _ _ _ _ _ _ _ _ _ _ _ _ _ _ _ _ _ _ _ _ _ _ _ _ _ _ _ _ _ _ _ _ _ _ _ _ _ _ _ _ _ _ _ _ _ _ _ _ _ (by omega)
   · exact z0L (by kernel_rfl)
set_option maxRecDepth 10000
set_option maxHeartbeats 4000000
theorem z6G:∀ (vs l:List AVal) (i:Nat),i+vs.length≤l.length→putList l i vs=l.take i++vs++l.drop (i+vs.length)
 | [],l,i,h=>by simp [putList]
 | v :: vs,l,i,h=>by
   rw [List.length_cons] at h
   have ih:=z6G vs (l.set i v) (i+1) (by rw [List.length_set];omega)
   rw [putList,ih]
   have e1:(l.set i v).take (i+1)=l.take i++[v]:=by
    rw [List.take_add_one,List.getElem?_set_self (by omega),List.take_set_of_le (Nat.le_refl _)];rfl
   have e2:(l.set i v).drop (i+1+vs.length)=l.drop (i+(v :: vs).length):=by
    rw [List.drop_set_of_lt (by omega),List.length_cons];congr 1;omega
   rw [e1,e2];simp
def delL (z:AVal) (es:List AVal) (i n:Nat):List AVal:=putList (putList es i ((es.drop (i+1)).take (n - (i+1)))) (n - 1) [z]
theorem zI5 {α:Type} (e:α→AVal) (z:AVal) (L:List α) (rest:List AVal) {i:Nat} (hi:i < L.length):delL z (L.map e++rest) i L.length=(L.eraseIdx i).map e++z :: rest:=by
 unfold delL
 have e0:((L.map e++rest).drop (i+1)).take (L.length - (i+1))=(L.drop (i+1)).map e:=by
  rw [List.drop_append_of_le_length (by rw [List.length_map];omega),List.take_append_of_le_length (by simp),List.map_drop]
  exact List.take_of_length_le (by simp)
 have hl:((L.drop (i+1)).map e).length=L.length - (i+1):=by simp
 have h1:=z6G ((L.drop (i+1)).map e) (L.map e++rest) i (by rw [hl,List.length_append,List.length_map];omega)
 rw [hl] at h1
 rw [e0,h1]
 have e1:(L.map e++rest).take i=(L.take i).map e:=by
  rw [List.take_append_of_le_length (by rw [List.length_map];omega),List.map_take]
 have e2:(L.map e++rest).drop (i+(L.length - (i+1)))=(L.drop (L.length - 1)).map e++rest:=by
  rw [show i+(L.length - (i+1))=L.length - 1 by omega,List.drop_append_of_le_length (by rw [List.length_map];omega),List.map_drop]
 rw [e1,e2]
 have e3:(L.take i).map e++(L.drop (i+1)).map e=(L.eraseIdx i).map e:=by
  rw [List.eraseIdx_eq_take_drop_succ,List.map_append]
 have hl2:((L.eraseIdx i).map e).length=L.length - 1:=by
  rw [List.length_map,List.length_eraseIdx_of_lt hi]
 have hl3:(L.drop (L.length - 1)).map e=[e (L[L.length - 1]'(by omega))]:=by
  rw [List.drop_eq_getElem_cons (by omega),List.map_cons,List.drop_eq_nil_of_le (by omega)];rfl
 rw [e3,hl3,z6G _ _ _ (by simp only [List.length_append,hl2,List.length_cons,List.length_nil];omega)]
 rw [List.append_assoc,List.take_left' hl2]
 have e4:((L.eraseIdx i).map e++([e (L[L.length - 1]'(by omega))]++rest)).drop (L.length - 1+[z].length)=rest:=by
  rw [List.length_singleton,← List.drop_drop,List.drop_left' hl2];rfl
 rw [e4]
 simp
theorem zHo {f:Nat} {args qs:List AVal} {fp:List Nat} {bs:List Blk} {v w:AVal} {H H':Heap} {ro nx:Nat} (hw:(env.hint f).whole=false) (hka:(env.hint f).keepAll=false) (hk:(env.hint f).keep=[]) (hro:(env.hint f).ro=false)
    (hl:lend H (env.hint f).lits args 0=some (qs,[])) (hre:reach H fuel0 (refsL qs) []=some fp) (hg:getAll H fp=some bs)
    (hc:(fp.all fun id=>decide (ro≤id))=true)
    (hr:runT env f (renL (idx fp) qs) (bs.map (renB (idx fp))) 0=some (.ret v,H'))
    (hb:handBack H' fp.length [] 4 v=some w):
    callT env f args ro H nx=some (.ret (w.ren (backF nx fp [])),.ups (fp.zip ((H'.take fp.length).map (renB (backF nx fp []))))):=by
 unfold callT
 rw [callF_small hw,hl]
 simp only [hre,hg,hc,hro,List.all_nil,Bool.not_true,Bool.not_false,Bool.or_false,Bool.and_false,Bool.true_and,Bool.false_eq_true,if_false,hr,Option.bind_some,callBack,keepOf,hka,hk,List.filter_nil,uniq,getAll,hb,List.isEmpty_nil,Bool.true_or,if_true]
 simp only [callUpd,hro,List.map_nil,numbered,List.append_nil,Bool.false_eq_true,if_false]
section
variable {g n i:Nat} {es:List AVal}
theorem z4w (k:Nat) (d:Nat):z0U (some (.int .i64 (k:Nat))) d=some k:=by simp [z0U]
theorem zQY (H:Heap) (hH:H[0]?=some (.cells g 2 true es)) (hi:i < n):∃ v,z0Z env H 22 (.ref 0 g 0 n false) (some (.int .i64 i)) (some (.int .i64 (i+1:Nat))) (some (.int .i64 n))=some v:=by
 have h1:i≤i+1:=by omega
 have h2:i+1≤n:=by omega
 by_cases h:n=i+1
 · exact ⟨.ref 0 g (0+i) (i+1 - i) true,by simp only [z0Z,ti22,ti39,hH,z4w];simp [h1,h2,h]⟩
 · exact ⟨.undef,by simp only [z0Z,ti22,ti39,hH,z4w];simp [h1,h2,h]⟩
theorem zQZ (H:Heap) (hH:H[0]?=some (.cells g 2 true es)) (hi:i < n):z0Z env H 22 (.ref 0 g 0 n false) none (some (.int .i64 i)) none=some (.ref 0 g 0 i false):=by
 have h1:i≤n:=by omega
 simp only [z0Z,ti22,ti39,hH,z4w]
 simp [z0U,h1]
theorem zQa (H:Heap) (hH:H[0]?=some (.cells g 2 true es)) (hi:i < n):z0Z env H 22 (.ref 0 g 0 n false) (some (.int .i64 (i+1:Nat))) none none=some (.ref 0 g (i+1) (n - (i+1)) false):=by
 have h1:i+1≤n:=by omega
 simp only [z0Z,ti22,ti39,hH,z4w]
 simp [z0U,h1]
theorem zQb (H:Heap) (hH:H[0]?=some (.cells g 2 true es)) (hi:i < n) (hn:n≤es.length):z0Z env H 22 (.ref 0 g 0 (n - 1) false) (some (.int .i64 (n - 1:Nat))) (some (.int .i64 n)) none=some (.ref 0 g (n - 1) 1 false):=by
 have h1:n - 1≤n:=by omega
 have h2:n - (n - 1)=1:=by omega
 simp only [z0Z,ti22,ti39,hH,z4w]
 simp [z0U,h1,h2,hn]
theorem ap98 (H:Heap) (hH:H[0]?=some (.cells g 2 true es)) (hi:i < n) (hn:n≤es.length) (hb:n < 2 ^ 30) (hp:es.all noRef=true) (nx:Nat):z0H env 0 nx 22 (.ref 0 g 0 i false) (.ref 0 g (i+1) (n - (i+1)) false) H=some (.ref 0 g 0 (n - 1) false,[(0,.cells g 2 true (putList es i ((es.drop (i+1)).take (n - (i+1)))))]):=by
 have e1:i+(n - (i+1))=n - 1:=by omega
 have hl:((es.drop (i+1)).take (n - (i+1))).length=n - (i+1):=by simp;omega
 have hnr:((es.drop (i+1)).take (n - (i+1))).all noRef=true:=List.all_eq_true.2 fun x hx=>List.all_eq_true.1 hp x (List.mem_of_mem_drop (List.mem_of_mem_take hx))
 have hel:z15 H (.ref 0 g (i+1) (n - (i+1)) false)=some (2,(es.drop (i+1)).take (n - (i+1))):=by
  simp [z15,hH];omega
 have hm:(i+(n - (i+1))) * 17≤z04:=by unfold z04;omega
 generalize (es.drop (i+1)).take (n - (i+1))=new at hl hnr hel
 simp [z0H,ti22,ti39,hel,hH,hl,hnr,AVal.cellsOf,AVal.isTuple]
 refine ⟨⟨by omega,hm⟩,?_⟩
 rw [if_pos (by omega),e1]
theorem zI3 (hi:i < n) (hn:n≤es.length) (hb:n < 2 ^ 30) (hp:es.all noRef=true):∃ X,runT env 98 [.ref 0 g 0 n false,.int .i64 i,.int .i64 (i+1:Nat)] [.cells g 2 true es] 0=some (.ret (.ref 0 g 0 (n - 1) false),.cells g 2 true (delL (spV ⟨0,0⟩) es i n) :: X):=by
 obtain ⟨v1,h1⟩:=zQY (g:=g) (es:=es) [.cells g 2 true es] rfl hi
 have h2:=zQZ (g:=g) (es:=es) [.cells g 2 true es] rfl hi
 have h3:=zQa (g:=g) (es:=es) [.cells g 2 true es] rfl hi
 have h4:=ap98 (g:=g) (es:=es) [.cells g 2 true es] rfl hi hn hb hp
 have hpl:(putList es i ((es.drop (i+1)).take (n - (i+1)))).length=es.length:=by
  have hl:((es.drop (i+1)).take (n - (i+1))).length=n - (i+1):=by simp;omega
  rw [z6G _ _ _ (by rw [hl];omega),List.length_append,List.length_append,hl,List.length_take,List.length_drop]
  omega
 have h5:=zQb (g:=g) (es:=putList es i ((es.drop (i+1)).take (n - (i+1)))) [.cells g 2 true (putList es i ((es.drop (i+1)).take (n - (i+1))))] rfl hi (by rw [hpl];exact hn)
 have d1:decide ((i:Int)=((i+1:Nat):Int))=false:=decide_eq_false (by omega)
 have z1:n - 1+1≤es.length:=by omega
 have hnl:n - 1+1=n:=by omega
 unfold delL
 generalize putList es i ((es.drop (i+1)).take (n - (i+1)))=es2 at *
 rw [run_unfold fn98 rfl]
 simp only [go_sem,simprocAttr,Try.f98,h1,h2,h3,h4,d1]
 rw [apart_ok]
 · simp only [go_sem,simprocAttr,h5,hpl,z1,hnl,hn,unwind,modeEx,resultsOf,one]
   exact ⟨_,rfl⟩
 · kernel_rfl
end
theorem lend_ref98 {H:Heap} {p g n:Nat} {a b:Int}:lend H (env.hint 98).lits [.ref p g 0 n false,.int .i64 a,.int .i64 b] 0=some ([.ref p g 0 n false,.int .i64 a,.int .i64 b],[]):=by
 have:(env.hint 98).lits=[]:=rfl
 rw [this]
 rfl
theorem zGG {p g n i:Nat} {es:List AVal} {H:Heap} (hH:H[p]?=some (.cells g 2 true es)) (hi:i < n) (hn:n≤es.length) (hb:n < 2 ^ 30) (hp:es.all noRef=true) (nx:Nat):
    callT env 98 [.ref p g 0 n false,.int .i64 i,.int .i64 (i+1:Nat)] 0 H nx=some (.ret (.ref p g 0 (n - 1) false),.ups [(p,.cells g 2 true (delL (spV ⟨0,0⟩) es i n))]):=by
 obtain ⟨X,hr⟩:=zI3 (g:=g) hi hn hb hp
 have hre:reach H fuel0 (refsL [.ref p g 0 n false,.int .i64 i,.int .i64 (i+1:Nat)]) []=some [p]:=by
  unfold fuel0
  simp [reach,refsL,AVal.refs,hH]
 have e1:idx [p] p=some 0:=by simp [idx,List.findIdx?_cons]
 have h:=zHo (f:=98) (bs:=[.cells g 2 true es]) (ro:=0) (nx:=nx) rfl rfl rfl rfl lend_ref98 hre (by simp only [getAll,hH]) (by simp) (by
  simp only [renL,AVal.ren,e1,List.map_cons,List.map_nil]
  exact hr) (by simp [handBack];rfl)
 rw [h]
 rfl
section
variable {g n i:Nat} {es:List AVal}
theorem zQc (H:Heap) (hH:H[0]?=some (Blk.cells g 1 false es)) (hi:i < n):∃ v,z0Z env H 23 (.ref 0 g 0 n false) (some (.int .i64 i)) (some (.int .i64 (i+1:Nat))) (some (.int .i64 n))=some v:=by
 have h1:i≤i+1:=by omega
 have h2:i+1≤n:=by omega
 by_cases h:n=i+1
 · exact ⟨.ref 0 g (0+i) (i+1 - i) true,by simp only [z0Z,ti23,ti22,hH,z4w];simp [h1,h2,h]⟩
 · exact ⟨.undef,by simp only [z0Z,ti23,ti22,hH,z4w];simp [h1,h2,h]⟩
theorem zQd (H:Heap) (hH:H[0]?=some (Blk.cells g 1 false es)) (hi:i < n):z0Z env H 23 (.ref 0 g 0 n false) none (some (.int .i64 i)) none=some (.ref 0 g 0 i false):=by
 have h1:i≤n:=by omega
 simp only [z0Z,ti23,ti22,hH,z4w]
 simp [z0U,h1]
theorem zQe (H:Heap) (hH:H[0]?=some (Blk.cells g 1 false es)) (hi:i < n):z0Z env H 23 (.ref 0 g 0 n false) (some (.int .i64 (i+1:Nat))) none none=some (.ref 0 g (i+1) (n - (i+1)) false):=by
 have h1:i+1≤n:=by omega
 simp only [z0Z,ti23,ti22,hH,z4w]
 simp [z0U,h1]
theorem zQf (H:Heap) (hH:H[0]?=some (Blk.cells g 1 false es)) (hi:i < n) (hn:n≤es.length):z0Z env H 23 (.ref 0 g 0 (n - 1) false) (some (.int .i64 (n - 1:Nat))) (some (.int .i64 n)) none=some (.ref 0 g (n - 1) 1 false):=by
 have h1:n - 1≤n:=by omega
 have h2:n - (n - 1)=1:=by omega
 simp only [z0Z,ti23,ti22,hH,z4w]
 simp [z0U,h1,h2,hn]
theorem ap99 (H:Heap) (hH:H[0]?=some (Blk.cells g 1 false es)) (hi:i < n) (hn:n≤es.length) (hb:n < 2 ^ 30) (nx:Nat):z0H env 0 nx 23 (.ref 0 g 0 i false) (.ref 0 g (i+1) (n - (i+1)) false) H=some (.ref 0 g 0 (n - 1) false,[(0,Blk.cells g 1 false (putList es i ((es.drop (i+1)).take (n - (i+1)))))]):=by
 have e1:i+(n - (i+1))=n - 1:=by omega
 have hl:((es.drop (i+1)).take (n - (i+1))).length=n - (i+1):=by simp;omega
 have hel:z15 H (.ref 0 g (i+1) (n - (i+1)) false)=some (1,(es.drop (i+1)).take (n - (i+1))):=by
  simp [z15,hH];omega
 have hm:(i+(n - (i+1))) * 25≤z04:=by unfold z04;omega
 generalize (es.drop (i+1)).take (n - (i+1))=new at hl hel
 simp [z0H,ti23,ti22,hel,hH,hl,AVal.cellsOf,AVal.isTuple]
 refine ⟨⟨by omega,hm⟩,?_⟩
 rw [if_pos (by omega),e1]
theorem zI4 (Y:Heap) (hi:i < n) (hn:n≤es.length) (hb:n < 2 ^ 30):∃ X,runT env 99 [.ref 0 g 0 n false,.int .i64 i,.int .i64 (i+1:Nat)] (Blk.cells g 1 false es :: Y) 0=some (.ret (.ref 0 g 0 (n - 1) false),Blk.cells g 1 false (delL (.lit true 0 []) es i n) :: (Y++X)):=by
 obtain ⟨v1,h1⟩:=zQc (g:=g) (es:=es) (Blk.cells g 1 false es :: Y) rfl hi
 have h2:=zQd (g:=g) (es:=es) (Blk.cells g 1 false es :: Y) rfl hi
 have h3:=zQe (g:=g) (es:=es) (Blk.cells g 1 false es :: Y) rfl hi
 have h4:=ap99 (g:=g) (es:=es) (Blk.cells g 1 false es :: Y) rfl hi hn hb
 have hpl:(putList es i ((es.drop (i+1)).take (n - (i+1)))).length=es.length:=by
  have hl:((es.drop (i+1)).take (n - (i+1))).length=n - (i+1):=by simp;omega
  rw [z6G _ _ _ (by rw [hl];omega),List.length_append,List.length_append,hl,List.length_take,List.length_drop]
  omega
 have h5:=zQf (g:=g) (es:=putList es i ((es.drop (i+1)).take (n - (i+1)))) (Blk.cells g 1 false (putList es i ((es.drop (i+1)).take (n - (i+1)))) :: Y) rfl hi (by rw [hpl];exact hn)
 have d1:decide ((i:Int)=((i+1:Nat):Int))=false:=decide_eq_false (by omega)
 have z1:n - 1+1≤es.length:=by omega
 have hnl:n - 1+1=n:=by omega
 unfold delL
 generalize putList es i ((es.drop (i+1)).take (n - (i+1)))=es2 at *
 have zy1:(0 < Y.length+1)=True:=eq_true (by omega)
 have zy2:decide (0 < Y.length+1)=true:=decide_eq_true (by omega)
 refine ⟨[],?_⟩
 rw [run_unfold fn99 rfl,List.append_nil]
 simp only [go_sem,simprocAttr,Try.f99,h1,h2,h3,h4,d1,zy1,zy2]
 rw [apart_ok]
 · simp only [go_sem,simprocAttr,h5,hpl,z1,hnl,hn,zy1,zy2,unwind,modeEx,resultsOf,one]
 · kernel_rfl
end
set_option maxRecDepth 10000
set_option maxHeartbeats 4000000
theorem zEH (f:Nat→Option Nat):∀ l:List AVal,renL f l=l.map (AVal.ren f)
 | []=>rfl
 | x :: l=>by simp only [renL,List.map_cons,zEH f l]
theorem z6H (f:AVal→AVal):∀ (vs l:List AVal) (i:Nat),putList (l.map f) i (vs.map f)=(putList l i vs).map f
 | [],_,_=>rfl
 | v :: vs,l,i=>by
   simp only [List.map_cons,putList]
   rw [← List.map_set,z6H f vs]
theorem zKJ (f:AVal→AVal) (z:AVal) (es:List AVal) (i n:Nat):delL (f z) (es.map f) i n=(delL z es i n).map f:=by
 unfold delL
 rw [← List.map_drop,← List.map_take,z6H]
 exact z6H f [z] _ _
theorem zCv {H:Heap}:∀ (ids seen:List Nat) (n:Nat),(∀ id ∈ ids,∃ g sz es,H[id]?=some (.cells g sz true es))→ids.Nodup→(∀ id ∈ ids,id ∉ seen)→ids.length≤n→reach H n ids seen=some (seen++ids)
 | [],seen,n,_,_,_,_=>by cases n <;> simp [reach]
 | id :: ids,seen,n,hf,hd,hs,hl=>by
   obtain ⟨n,rfl⟩:∃ m,n=m+1:=⟨n - 1,by simp at hl;omega⟩
   obtain ⟨g,sz,es,hH⟩:=hf id (by simp)
   have hns:seen.contains id=false:=by
    rw [Bool.eq_false_iff];intro h;exact hs id (by simp) (List.contains_iff_mem.1 h)
   have hd':=List.nodup_cons.1 hd
   have ih:=zCv (H:=H) ids (seen++[id]) n (fun x hx=>hf x (by simp [hx])) hd'.2 (fun x hx h=>by
    rw [List.mem_append] at h
    rcases h with h | h
    · exact hs x (by simp [hx]) h
    · simp at h;subst h;exact hd'.1 hx) (by simp at hl;omega)
   simp only [reach,hns,hH,Bool.false_eq_true,if_false,if_true]
   rw [ih,List.append_assoc];rfl
theorem zGH {q g n i:Nat} {es:List AVal} {H:Heap} {ids:List Nat} {bs:List Blk} {nx:Nat} (hH:H[q]?=some (.cells g 1 false es)) (hre:reach H fuel0 [q] []=some (q :: ids)) (hg:getAll H ids=some bs) (hfl:∀ b ∈ bs,∃ g' sz es',b=.cells g' sz true es') (hlen:bs.length=ids.length)
    (hback:∀ x ∈ es,(x.ren (idx (q :: ids))).ren (backF nx (q :: ids) [])=x) (hi:i < n) (hn:n≤es.length) (hb:n < 2 ^ 30):
    callT env 99 [.ref q g 0 n false,.int .i64 i,.int .i64 (i+1:Nat)] 0 H nx=some (.ret (.ref q g 0 (n - 1) false),.ups ((q,.cells g 1 false (delL (.lit true 0 []) es i n)) :: ids.zip bs)):=by
 have hle:lend H (env.hint 99).lits [.ref q g 0 n false,.int .i64 i,.int .i64 (i+1:Nat)] 0=some ([.ref q g 0 n false,.int .i64 i,.int .i64 (i+1:Nat)],[]):=by
  have:(env.hint 99).lits=[]:=rfl
  rw [this]
  rfl
 have e1:idx (q :: ids) q=some 0:=by simp [idx,List.findIdx?_cons]
 have hrb:∀ f,bs.map (renB f)=bs:=fun f=>by
  conv=>rhs;rw [← List.map_id bs]
  exact List.map_congr_left fun b hb=>by
   obtain ⟨g',sz,es',rfl⟩:=hfl b hb
   rfl
 obtain ⟨X,hr⟩:=zI4 (g:=g) (es:=es.map (AVal.ren (idx (q :: ids)))) bs hi (by rw [List.length_map];exact hn) hb
 have h:=zHo (f:=99) (args:=[.ref q g 0 n false,.int .i64 i,.int .i64 (i+1:Nat)]) (bs:=.cells g 1 false es :: bs) (fp:=q :: ids) (ro:=0) (nx:=nx) (w:=.ref 0 g 0 (n - 1) false) rfl rfl rfl rfl hle (by simpa [refsL,AVal.refs] using hre) (by simp only [getAll,hH,hg]) (by simp) (by
  rw [List.map_cons,hrb]
  simp only [renL,AVal.ren,e1,renB,Bool.false_eq_true,if_false,zEH]
  exact hr) (by simp [handBack])
 rw [h]
 have hz:∀ f,AVal.ren f (.lit true 0 [])=.lit true 0 []:=fun f=>rfl
 have hes:(es.map (AVal.ren (idx (q :: ids)))).map (AVal.ren (backF nx (q :: ids) []))=es:=by
  rw [List.map_map]
  conv=>rhs;rw [← List.map_id es]
  exact List.map_congr_left fun x hx=>hback x hx
 have hd:=zKJ (AVal.ren (backF nx (q :: ids) [])) (.lit true 0 []) (es.map (AVal.ren (idx (q :: ids)))) i n
 rw [hz,hes] at hd
 have htk:(Blk.cells g 1 false (delL (.lit true 0 []) (es.map (AVal.ren (idx (q :: ids)))) i n) :: (bs++X)).take (q :: ids).length=.cells g 1 false (delL (.lit true 0 []) (es.map (AVal.ren (idx (q :: ids)))) i n) :: bs:=by
  rw [List.length_cons,List.take_succ_cons,List.take_left' hlen]
 rw [htk,List.map_cons,hrb]
 simp only [renB,Bool.false_eq_true,if_false,zEH,← hd,List.zip_cons_cons]
 rfl
end Go.Proofs.Ytgfejpngfikjiaa.Tidy
