/-
 What the functions that the statements of this seat share compute.
-/
import Derived.Test.YtgfejpngfikjiaaCe
import Derived.Test.YtgfejpngfikjiaaMc
set_option linter.all false
namespace Go.Proofs.Ytgfejpngfikjiaa.Tidy
open Go Go.IntWalk
set_option maxRecDepth 10000
set_option linter.unusedSimpArgs false
set_option maxHeartbeats 4000000
@[go_sem] theorem TabV.refs (T:TabV):T.v.refs=[]:=refs_noRef.1 _ (T.under 0)
@[go_sem] theorem CutA.refs (c:CutA):c.v.refs=[]:=refs_noRef.1 _ (c.under 0)
@[go_sem] theorem MatV.refs (M:MatV):M.v.refs=[]:=refs_noRef.1 _ (M.under 0)
def exM:MatV:=⟨true,1,[⟨true,1,[5,5]⟩,⟨true,1,[4,2]⟩]⟩
def exC:CutA:=⟨true,1,[true,false],true,1,[false,false]⟩
def noT:TabV:=⟨⟨true,0,[]⟩,⟨true,0,[]⟩,true,0,[]⟩
theorem zGY (n:Nat) (by':Nat) (z:AVal) (a b c d:Int):eqOp env 39 ⟨.struct [(3,0),(3,1)],n,by',z⟩ (.agg [.int .i64 a,.int .i64 b]) (.agg [.int .i64 c,.int .i64 d])=some (decide (a=c) && decide (b=d)):=by
 unfold eqOp
 have h:env.keyOk 39 (.agg [.int .i64 a,.int .i64 b])=true:=rfl
 simp only [h,if_true]
 show (some _:Option Bool)=_
 cases h1:decide (a=c) <;> cases h2:decide (b=d) <;> simp [eqvL,eqv,h1,h2]
theorem z96 {f n:Nat} {args:List AVal} {v:AVal} (h:(runN env n f args [] 0).map (fun x=>x.1)=some (.ret v)):∃ H',runT env f args [] 0=some (.ret v,H'):=by
 cases hr:runN env n f args [] 0 with
 | none=>rw [hr] at h;cases h
 | some x=>
   rw [hr] at h
   obtain ⟨r,H'⟩:=x
   simp only [Option.map_some,Option.some.injEq] at h
   subst h
   exact ⟨H',runT_some.2 ⟨n,hr⟩⟩
theorem zHe:(runN env 300 40 [exV.v,exM.v] [] 0).map (fun x=>x.1)=some (.ret (.int .i64 0)):=by kernel_rfl
theorem zHa:(runN env 300 24 [exV.v,exC.v] [] 0).map (fun x=>x.1)=some (.ret (.int .i64 61)):=by kernel_rfl
theorem zF3:(runN env 300 24 [exGV.v,exC.v] [] 0).map (fun x=>x.1)=some (.ret (.int .i64 0)):=by kernel_rfl
theorem zHc:(runN env 300 38 [noT.v] [] 0).map (fun x=>x.1)=some (.ret (.int .i64 60)):=by kernel_rfl
theorem zGc (i k:Int) (h:outB exT i k=false):askS exT i k=0:=by
 unfold askS;rw [zPT,z0S.2 zNz,h];rfl
theorem zHC:∃ H',runT env 20 [] [] 0=some (.ret (.bool true),H'):=by
 have cx:=zPS
 have p1:=z3u zDb
 have e1:z4H exV.tab=.tuple [.bool true,.int .i64 0]:=by
  unfold z4H;rw [zPR,zPT,z0S.2 zNz,z0R zPT];rfl
 rw [e1] at p1
 obtain ⟨vt,ht,ct⟩:=z4j zDb
 have ht:vt=.tuple [.agg [.int .i64 15,.int .i64 17],.int .i64 0]:=zCM ht (zGc 0 0 (by decide)) zMG
 subst ht
 obtain ⟨va,ha,ca⟩:=z1h zDb 0 0
 have ha:va=.tuple [.agg [.int .i64 4,.int .i64 6],.int .i64 0]:=zCM ha (zGc 0 0 (by decide)) zJp
 subst ha
 obtain ⟨vb,hb,cb⟩:=z1h zDb 1 0
 have hb:vb=.tuple [.agg [.int .i64 2,.int .i64 5],.int .i64 0]:=zCM hb (zGc 1 0 (by decide)) zJq
 subst hb
 obtain ⟨vc,hc,cc⟩:=z1h zDb 1 1
 have hc:vc=.tuple [.agg [.int .i64 0,.int .i64 5],.int .i64 0]:=zCM hc (zGc 1 1 (by decide)) zJr
 subst hc
 obtain ⟨cl,a,b,na,nb,la,lb,ta,tb,cmg⟩:=zKS
 have cm:∀ ro H nx,callT env 40 [exV.v,exM.v] ro H nx=some (.ret (.int .i64 0),.ups []):=by
  obtain ⟨H',h⟩:=z96 zHe
  exact fun ro H nx=>call_pure rfl rfl rfl rfl h rfl ro H nx
 have p2:=z3u zJo
 have e2:z4H exGV.tab=.tuple [.bool false,.int .i64 0]:=by
  unfold z4H;rw [zGb,zJv,z5s.2 zGd,z0R zJv];rfl
 rw [e2] at p2
 obtain ⟨w,hw,cg⟩:=zC4 zJo
 have hw:∃ l1 l2,w=.tuple [cutV l1 l2,.bool true,.int .i64 0]:=by
  rcases hw with ⟨h1,_⟩ | ⟨h1,h2,_⟩ | ⟨_,_,l1,l2,_,_,_,rfl⟩
  · exact absurd h1 (by rw [zGb,zJv];decide)
  · exact absurd (z0S.1 h2) zGd
  · exact ⟨_,_,rfl⟩
 obtain ⟨l1,l2,rfl⟩:=hw
 rw [← zGR] at cg
 have k1:∀ ro H nx,callT env 24 [exGV.v,exC.v] ro H nx=some (.ret (.int .i64 0),.ups []):=by
  obtain ⟨H',h⟩:=z96 zF3
  exact fun ro H nx=>call_pure rfl rfl rfl rfl h rfl ro H nx
 have k2:∀ ro H nx,callT env 24 [exV.v,exC.v] ro H nx=some (.ret (.int .i64 61),.ups []):=by
  obtain ⟨H',h⟩:=z96 zHa
  exact fun ro H nx=>call_pure rfl rfl rfl rfl h rfl ro H nx
 have k3:∀ ro H nx,callT env 38 [noT.v] ro H nx=some (.ret (.int .i64 60),.ups []):=by
  obtain ⟨H',h⟩:=z96 zHc
  exact fun ro H nx=>call_pure rfl rfl rfl rfl h rfl ro H nx
 have k3:∀ ro H nx,callT env 38 [.agg [.lit true 0 [],.lit true 0 [],.lit true 0 []]] ro H nx=some (.ret (.int .i64 60),.ups []):=k3
 simp only [MatV.v,exM,List.map_cons,List.map_nil,SlI.v] at cm
 have wr:z0J exV.v 0 (.lit true 2 [.agg [.int .i64 13,.int .i64 13],.agg [.int .i64 5,.int .i64 7]])=some exGV.v:=rfl
 have bd:build env ⟨.struct [(26,0),(26,1)],2,48,.agg [.lit true 0 [],.lit true 0 []]⟩ [(0,.lit true 1 [.bool true,.bool false]),(1,.lit true 1 [.bool false,.bool false])]=some exC.v:=rfl
 have o1:decide (((1:Nat):Int)=1)=true:=rfl
 rw [run_unfold fn20 rfl]
 simp only [go_sem,simprocAttr,Try.f20,cx,p1,ct,ca,cb,cc,cmg,cm,p2,cg,k1,k2,k3,zGY,Option.map_some,o1,wr,bd,unwind,modeEx,resultsOf,one]
 exact ⟨_,rfl⟩
set_option maxRecDepth 10000
@[go_sem] theorem zSs (ro:Nat) (H:Heap) (nx:Nat):callT env 20 [] ro H nx=some (.ret (.bool true),.ups []):=by
 obtain ⟨H',h⟩:=zHC
 exact call_pure rfl rfl rfl rfl h rfl ro H nx
theorem mapP {α:Type} {f:α→AVal} {P:α→Prop}:∀ {es:List AVal},(∀ x ∈ es,∃ a,x=f a∧P a)→∃ l:List α,es=l.map f∧∀ a ∈ l,P a
 | [],_=>⟨[],rfl,fun a h=>by cases h⟩
 | x :: es,h=>by
   obtain ⟨a,rfl,ha⟩:=h x (by simp)
   obtain ⟨l,hl,hp⟩:=mapP (f:=f) (P:=P) (es:=es) fun y hy=>h y (List.mem_cons_of_mem _ hy)
   refine ⟨a :: l,by rw [hl];rfl,fun b hb=>?_⟩
   rcases List.mem_cons.1 hb with rfl | hb
   · exact ha
   · exact hp b hb
theorem zCS {m:Nat} {cs:List AVal} (h:FitT env (m+1) 4 cs):∃ b,cs=[.bool b]:=by
 unfold FitT at h
 simpa only [ti4] using h
theorem zLP {x:Int} (h:(Lit.int .i64 x).wf=true):-(2 ^ 63)≤x∧x < 2 ^ 63:=by
 have:-9223372036854775808≤x∧x≤9223372036854775807:=by simpa [Lit.wf,IntKind.min,IntKind.max,IntKind.signed,IntKind.bits] using h
 omega
theorem zFD {m:Nat} {cs:List AVal} (h:FitT env (m+2) 39 cs):∃ x:Spn,cs=[.int .i64 x.lo,.int .i64 x.hi]∧(-(2 ^ 63)≤x.lo∧x.lo < 2 ^ 63)∧-(2 ^ 63)≤x.hi∧x.hi < 2 ^ 63:=by
 simp only [FitT,ti39,ti3,List.map_cons,List.map_nil,FitF] at h
 obtain ⟨_,_,rfl,⟨o,rfl,h1⟩,_,_,rfl,⟨n,rfl,h2⟩,rfl⟩:=h
 exact ⟨⟨o,n⟩,rfl,zLP h1,zLP h2⟩
theorem z9i {m:Nat} {cs:List AVal} (h:FitT env (m+3) 22 cs):∃ s:SlV,cs=[s.v]∧s.sz=2∧s.l.length≤maxLen:=by
 unfold FitT at h
 simp only [ti22] at h
 obtain ⟨te,ht,cl,es,rfl,hl,h⟩:=h
 rw [ti39] at ht
 cases ht
 obtain ⟨l,rfl,_⟩:=mapP (f:=spV) (P:=fun _=>True) fun x hx=>by
  obtain ⟨cs',h1,h2⟩:=h x hx
  obtain ⟨e,he,_⟩:=zFD h2
  exact ⟨e,by rw [h1,he];rfl,trivial⟩
 exact ⟨⟨cl,2,l⟩,rfl,rfl,by simpa using hl⟩
theorem zMH {m:Nat} {cs:List AVal} (h:FitT env (m+4) 23 cs):∃ (cl:Bool) (l:List SlV),cs=[.lit cl 1 (l.map SlV.v)]∧l.length≤maxLen∧∀ s ∈ l,s.sz=2∧s.l.length≤maxLen:=by
 unfold FitT at h
 simp only [ti23] at h
 obtain ⟨te,ht,cl,es,rfl,hl,h⟩:=h
 rw [ti22] at ht
 cases ht
 obtain ⟨l,rfl,hp⟩:=mapP (f:=SlV.v) (P:=fun s=>s.sz=2∧s.l.length≤maxLen) fun x hx=>by
  obtain ⟨cs',h1,h2⟩:=h x hx
  obtain ⟨e,he,h3,h4⟩:=z9i h2
  exact ⟨e,by rw [h1,he];rfl,h3,h4⟩
 exact ⟨cl,l,rfl,by simpa using hl,hp⟩
theorem z3M {n:Nat} (h:n≤maxLen):n < 2 ^ 63:=by unfold maxLen at h;omega
theorem z2T {m:Nat} {cs:List AVal} (h:FitT env (m+5) 25 cs):∃ T:TabV,T.Wf∧AVal.agg cs=T.v:=by
 unfold FitT at h
 simp only [ti25,List.map_cons,List.map_nil,FitF] at h
 obtain ⟨_,_,rfl,h1,_,_,rfl,h2,_,_,rfl,h3,rfl⟩:=h
 obtain ⟨r,rfl,r1,r2⟩:=z9i (m:=m+1) h1
 obtain ⟨c,rfl,c1,c2⟩:=z9i (m:=m+1) h2
 obtain ⟨cl,l,rfl,l1,l2⟩:=zMH h3
 exact ⟨⟨r,c,cl,1,l⟩,⟨.inr r1,.inr c1,.inr rfl,fun s hs=>.inr (l2 s hs).1,z3M r2,z3M c2,z3M l1,fun s hs=>z3M (l2 s hs).2⟩,rfl⟩
theorem zDf {m:Nat} {cs:List AVal} (h:FitT env (m+2) 26 cs):∃ (cl:Bool) (l:List Bool),cs=[.lit cl 1 (z0A l)]∧l.length≤maxLen:=by
 unfold FitT at h
 simp only [ti26] at h
 obtain ⟨te,ht,cl,es,rfl,hl,h⟩:=h
 rw [ti4] at ht
 cases ht
 obtain ⟨l,rfl,_⟩:=mapP (f:=AVal.bool) (P:=fun _=>True) fun x hx=>by
  obtain ⟨cs',h1,h2⟩:=h x hx
  obtain ⟨e,he⟩:=zCS h2
  exact ⟨e,by rw [h1,he];rfl,trivial⟩
 exact ⟨cl,l,rfl,by simpa using hl⟩
theorem z8B {m:Nat} {cs:List AVal} (h:FitT env (m+3) 28 cs):∃ c:CutA,c.Wf∧AVal.agg cs=c.v:=by
 unfold FitT at h
 simp only [ti28,List.map_cons,List.map_nil,FitF] at h
 obtain ⟨_,_,rfl,h1,_,_,rfl,h2,rfl⟩:=h
 obtain ⟨c1,l1,rfl,h3⟩:=zDf h1
 obtain ⟨c2,l2,rfl,h4⟩:=zDf h2
 exact ⟨⟨c1,1,l1,c2,1,l2⟩,⟨.inr rfl,.inr rfl,z3M h3,z3M h4⟩,rfl⟩
theorem zNy (n by':Nat) (z:AVal) (a b:Spn):eqOp env 39 ⟨.struct [(3,0),(3,1)],n,by',z⟩ (spV a) (spV b)=some (decide (a.lo=b.lo) && decide (a.hi=b.hi)):=zGY n by' z a.lo a.hi b.lo b.hi
theorem z9f (n by':Nat) (z:AVal) (a b:Spn):binOp env .eql 39 ⟨.struct [(3,0),(3,1)],n,by',z⟩ (spV a) (spV b)=some (.bool (decide (a.lo=b.lo) && decide (a.hi=b.hi))):=by
 have:binOp env .eql 39 ⟨.struct [(3,0),(3,1)],n,by',z⟩ (spV a) (spV b)=(eqOp env 39 ⟨.struct [(3,0),(3,1)],n,by',z⟩ (spV a) (spV b)).map fun b=>.bool b:=rfl
 rw [this,zNy];rfl
end Go.Proofs.Ytgfejpngfikjiaa.Tidy
