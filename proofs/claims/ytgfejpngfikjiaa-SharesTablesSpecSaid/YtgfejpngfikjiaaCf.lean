/-
 What the functions that the statements of this seat share compute.
-/
import Derived.Test.YtgfejpngfikjiaaCe
import Derived.Test.YtgfejpngfikjiaaMc
set_option linter.all false
namespace Go.Proofs.Ytgfejpngfikjiaa.Tidy
open Go Go.IntWalk
set_option maxRecDepth 10000
set_option linter.unusedSimpArgs false
set_option maxHeartbeats 4000000
@[go_sem] theorem TabV.refs (T:TabV):T.v.refs=[]:=refs_noRef.1 _ (T.under 0)
@[go_sem] theorem CutA.refs (c:CutA):c.v.refs=[]:=refs_noRef.1 _ (c.under 0)
@[go_sem] theorem MatV.refs (M:MatV):M.v.refs=[]:=refs_noRef.1 _ (M.under 0)
def exM:MatV:=⟨true,1,[⟨true,1,[5,5]⟩,⟨true,1,[4,2]⟩]⟩
def exC:CutA:=⟨true,1,[true,false],true,1,[false,false]⟩
def noT:TabV:=⟨⟨true,0,[]⟩,⟨true,0,[]⟩,true,0,[]⟩
theorem zFF (n:Nat) (by':Nat) (z:AVal) (a b c d:Int):eqOp env 39 ⟨.struct [(3,0),(3,1)],n,by',z⟩ (.agg [.int .i64 a,.int .i64 b]) (.agg [.int .i64 c,.int .i64 d])=some (decide (a=c) && decide (b=d)):=by
 unfold eqOp
 have h:env.keyOk 39 (.agg [.int .i64 a,.int .i64 b])=true:=rfl
 simp only [h,if_true]
 show (some _:Option Bool)=_
 cases h1:decide (a=c) <;> cases h2:decide (b=d) <;> simp [eqvL,eqv,h1,h2]
theorem z8N {f n:Nat} {args:List AVal} {v:AVal} (h:(runN env n f args [] 0).map (fun x=>x.1)=some (.ret v)):∃ H',runT env f args [] 0=some (.ret v,H'):=by
 cases hr:runN env n f args [] 0 with
 | none=>rw [hr] at h;cases h
 | some x=>
   rw [hr] at h
   obtain ⟨r,H'⟩:=x
   simp only [Option.map_some,Option.some.injEq] at h
   subst h
   exact ⟨H',runT_some.2 ⟨n,hr⟩⟩
theorem zGC:(runN env 300 40 [exV.v,exM.v] [] 0).map (fun x=>x.1)=some (.ret (.int .i64 0)):=by kernel_rfl
theorem zG8:(runN env 300 24 [exV.v,exC.v] [] 0).map (fun x=>x.1)=some (.ret (.int .i64 61)):=by kernel_rfl
theorem zDk:(runN env 300 24 [exGV.v,exC.v] [] 0).map (fun x=>x.1)=some (.ret (.int .i64 0)):=by kernel_rfl
theorem zGA:(runN env 300 38 [noT.v] [] 0).map (fun x=>x.1)=some (.ret (.int .i64 60)):=by kernel_rfl
theorem zFJ (i k:Int) (h:outB exT i k=false):askS exT i k=0:=by
 unfold askS;rw [zN9,z0S.2 zLt,h];rfl
theorem zFk:∃ H',runT env 20 [] [] 0=some (.ret (.bool true),H'):=by
 have cx:=zN8
 have p1:=z3d zCM
 have e1:z42 exV.tab=.tuple [.bool true,.int .i64 0]:=by
  unfold z42;rw [zN7,zN9,z0S.2 zLt,z0O zN9];rfl
 rw [e1] at p1
 obtain ⟨vt,ht,ct⟩:=z5l zCM
 have ht:vt=.tuple [.agg [.int .i64 15,.int .i64 17],.int .i64 0]:=zBD ht (zFJ 0 0 (by decide)) zKM
 subst ht
 obtain ⟨va,ha,ca⟩:=z1e zCM 0 0
 have ha:va=.tuple [.agg [.int .i64 4,.int .i64 6],.int .i64 0]:=zBD ha (zFJ 0 0 (by decide)) zIG
 subst ha
 obtain ⟨vb,hb,cb⟩:=z1e zCM 1 0
 have hb:vb=.tuple [.agg [.int .i64 2,.int .i64 5],.int .i64 0]:=zBD hb (zFJ 1 0 (by decide)) zIH
 subst hb
 obtain ⟨vc,hc,cc⟩:=z1e zCM 1 1
 have hc:vc=.tuple [.agg [.int .i64 0,.int .i64 5],.int .i64 0]:=zBD hc (zFJ 1 1 (by decide)) zII
 subst hc
 obtain ⟨cl,a,b,na,nb,la,lb,ta,tb,cmg⟩:=zIq
 have cm:∀ ro H nx,callT env 40 [exV.v,exM.v] ro H nx=some (.ret (.int .i64 0),.ups []):=by
  obtain ⟨H',h⟩:=z8N zGC
  exact fun ro H nx=>call_pure rfl rfl rfl rfl h rfl ro H nx
 have p2:=z3d zIF
 have e2:z42 exGV.tab=.tuple [.bool false,.int .i64 0]:=by
  unfold z42;rw [zFI,zIM,z5T.2 zFK,z0O zIM];rfl
 rw [e2] at p2
 obtain ⟨w,hw,cg⟩:=zAu zIF
 have hw:∃ l1 l2,w=.tuple [cutV l1 l2,.bool true,.int .i64 0]:=by
  rcases hw with ⟨h1,_⟩ | ⟨h1,h2,_⟩ | ⟨_,_,l1,l2,_,_,_,rfl⟩
  · exact absurd h1 (by rw [zFI,zIM];decide)
  · exact absurd (z0S.1 h2) zFK
  · exact ⟨_,_,rfl⟩
 obtain ⟨l1,l2,rfl⟩:=hw
 rw [← zFA] at cg
 have k1:∀ ro H nx,callT env 24 [exGV.v,exC.v] ro H nx=some (.ret (.int .i64 0),.ups []):=by
  obtain ⟨H',h⟩:=z8N zDk
  exact fun ro H nx=>call_pure rfl rfl rfl rfl h rfl ro H nx
 have k2:∀ ro H nx,callT env 24 [exV.v,exC.v] ro H nx=some (.ret (.int .i64 61),.ups []):=by
  obtain ⟨H',h⟩:=z8N zG8
  exact fun ro H nx=>call_pure rfl rfl rfl rfl h rfl ro H nx
 have k3:∀ ro H nx,callT env 38 [noT.v] ro H nx=some (.ret (.int .i64 60),.ups []):=by
  obtain ⟨H',h⟩:=z8N zGA
  exact fun ro H nx=>call_pure rfl rfl rfl rfl h rfl ro H nx
 have k3:∀ ro H nx,callT env 38 [.agg [.lit true 0 [],.lit true 0 [],.lit true 0 []]] ro H nx=some (.ret (.int .i64 60),.ups []):=k3
 simp only [MatV.v,exM,List.map_cons,List.map_nil,SlI.v] at cm
 have wr:z0K exV.v 0 (.lit true 2 [.agg [.int .i64 13,.int .i64 13],.agg [.int .i64 5,.int .i64 7]])=some exGV.v:=rfl
 have bd:build env ⟨.struct [(26,0),(26,1)],2,48,.agg [.lit true 0 [],.lit true 0 []]⟩ [(0,.lit true 1 [.bool true,.bool false]),(1,.lit true 1 [.bool false,.bool false])]=some exC.v:=rfl
 have o1:decide (((1:Nat):Int)=1)=true:=rfl
 rw [run_unfold fn20 rfl]
 simp only [go_sem,simprocAttr,Try.f20,cx,p1,ct,ca,cb,cc,cmg,cm,p2,cg,k1,k2,k3,zFF,Option.map_some,o1,wr,bd,unwind,modeEx,resultsOf,one]
 exact ⟨_,rfl⟩
set_option maxRecDepth 10000
@[go_sem] theorem zQM (ro:Nat) (H:Heap) (nx:Nat):callT env 20 [] ro H nx=some (.ret (.bool true),.ups []):=by
 obtain ⟨H',h⟩:=zFk
 exact call_pure rfl rfl rfl rfl h rfl ro H nx
theorem mapP {α:Type} {f:α→AVal} {P:α→Prop}:∀ {es:List AVal},(∀ x ∈ es,∃ a,x=f a∧P a)→∃ l:List α,es=l.map f∧∀ a ∈ l,P a
 | [],_=>⟨[],rfl,fun a h=>by cases h⟩
 | x :: es,h=>by
   obtain ⟨a,rfl,ha⟩:=h x (by simp)
   obtain ⟨l,hl,hp⟩:=mapP (f:=f) (P:=P) (es:=es) fun y hy=>h y (List.mem_cons_of_mem _ hy)
   refine ⟨a :: l,by rw [hl];rfl,fun b hb=>?_⟩
   rcases List.mem_cons.1 hb with rfl | hb
   · exact ha
   · exact hp b hb
theorem z0W {m t n by_:Nat} {z:AVal} {k:IntKind} (ht:env.ti t=some ⟨.int k,n,by_,z⟩) {cs:List AVal} (h:FitT env (m+1) t cs):∃ x:Int,cs=[.int k x]∧(Lit.int k x).wf=true:=by
 unfold FitT at h
 simpa only [ht] using h
theorem zJf {x:Int} (h:(Lit.int .i64 x).wf=true):-(2 ^ 63)≤x∧x < 2 ^ 63:=by
 have:-9223372036854775808≤x∧x≤9223372036854775807:=by simpa [Lit.wf,IntKind.min,IntKind.max,IntKind.signed,IntKind.bits] using h
 omega
theorem zDv {m:Nat} {cs:List AVal} (h:FitT env (m+2) 39 cs):∃ x:Spn,cs=[.int .i64 x.lo,.int .i64 x.hi]∧(-(2 ^ 63)≤x.lo∧x.lo < 2 ^ 63)∧-(2 ^ 63)≤x.hi∧x.hi < 2 ^ 63:=by
 simp only [FitT,ti39,ti3,List.map_cons,List.map_nil,FitF] at h
 obtain ⟨_,_,rfl,⟨o,rfl,h1⟩,_,_,rfl,⟨n,rfl,h2⟩,rfl⟩:=h
 exact ⟨⟨o,n⟩,rfl,zJf h1,zJf h2⟩
theorem z8t {m:Nat} {cs:List AVal} (h:FitT env (m+3) 22 cs):∃ s:SlV,cs=[s.v]∧s.sz=2∧s.l.length≤maxLen:=by
 unfold FitT at h
 simp only [ti22] at h
 obtain ⟨te,ht,cl,es,rfl,hl,h⟩:=h
 rw [ti39] at ht
 cases ht
 obtain ⟨l,rfl,_⟩:=mapP (f:=spV) (P:=fun _=>True) fun x hx=>by
  obtain ⟨cs',h1,h2⟩:=h x hx
  obtain ⟨e,he,_⟩:=zDv h2
  exact ⟨e,by rw [h1,he];rfl,trivial⟩
 exact ⟨⟨cl,2,l⟩,rfl,rfl,by simpa using hl⟩
theorem zKN {m:Nat} {cs:List AVal} (h:FitT env (m+4) 23 cs):∃ (cl:Bool) (l:List SlV),cs=[.lit cl 1 (l.map SlV.v)]∧l.length≤maxLen∧∀ s ∈ l,s.sz=2∧s.l.length≤maxLen:=by
 unfold FitT at h
 simp only [ti23] at h
 obtain ⟨te,ht,cl,es,rfl,hl,h⟩:=h
 rw [ti22] at ht
 cases ht
 obtain ⟨l,rfl,hp⟩:=mapP (f:=SlV.v) (P:=fun s=>s.sz=2∧s.l.length≤maxLen) fun x hx=>by
  obtain ⟨cs',h1,h2⟩:=h x hx
  obtain ⟨e,he,h3,h4⟩:=z8t h2
  exact ⟨e,by rw [h1,he];rfl,h3,h4⟩
 exact ⟨cl,l,rfl,by simpa using hl,hp⟩
theorem z37 {n:Nat} (h:n≤maxLen):n < 2 ^ 63:=by unfold maxLen at h;omega
theorem z2N {m:Nat} {cs:List AVal} (h:FitT env (m+5) 25 cs):∃ T:TabV,T.Wf∧AVal.agg cs=T.v:=by
 unfold FitT at h
 simp only [ti25,List.map_cons,List.map_nil,FitF] at h
 obtain ⟨_,_,rfl,h1,_,_,rfl,h2,_,_,rfl,h3,rfl⟩:=h
 obtain ⟨r,rfl,r1,r2⟩:=z8t (m:=m+1) h1
 obtain ⟨c,rfl,c1,c2⟩:=z8t (m:=m+1) h2
 obtain ⟨cl,l,rfl,l1,l2⟩:=zKN h3
 exact ⟨⟨r,c,cl,1,l⟩,⟨.inr r1,.inr c1,.inr rfl,fun s hs=>.inr (l2 s hs).1,z37 r2,z37 c2,z37 l1,fun s hs=>z37 (l2 s hs).2⟩,rfl⟩
theorem zLs (n by':Nat) (z:AVal) (a b:Spn):eqOp env 39 ⟨.struct [(3,0),(3,1)],n,by',z⟩ (spV a) (spV b)=some (decide (a.lo=b.lo) && decide (a.hi=b.hi)):=zFF n by' z a.lo a.hi b.lo b.hi
theorem zEC (n by':Nat) (z:AVal) (a b:Spn):binOp env .neq 39 ⟨.struct [(3,0),(3,1)],n,by',z⟩ (spV a) (spV b)=some (.bool !(decide (a.lo=b.lo) && decide (a.hi=b.hi))):=by
 have:binOp env .neq 39 ⟨.struct [(3,0),(3,1)],n,by',z⟩ (spV a) (spV b)=(eqOp env 39 ⟨.struct [(3,0),(3,1)],n,by',z⟩ (spV a) (spV b)).map fun b=>.bool !b:=rfl
 rw [this,zLs];rfl
end Go.Proofs.Ytgfejpngfikjiaa.Tidy
