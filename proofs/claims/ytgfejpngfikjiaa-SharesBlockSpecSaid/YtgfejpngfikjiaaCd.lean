/-
 What the functions that the statements of this seat share compute.
-/
import Derived.Test.YtgfejpngfikjiaaCc
import Derived.Test.YtgfejpngfikjiaaCa
set_option linter.all false
namespace Go.Proofs.Ytgfejpngfikjiaa.Tidy
open Go Go.IntWalk
set_option maxRecDepth 10000
set_option linter.unusedSimpArgs false
set_option maxHeartbeats 1000000
def nxF (nx n j:Nat):Option Nat:=if j < n then some (nx+j) else none
theorem z1K {f:Nat} {args:List AVal} {v w:AVal} {H':Heap} (hw:(env.hint f).whole=false) (hka:(env.hint f).keepAll=true) (hro:(env.hint f).ro=false) (ha:underL 0 args=true) (hr:runT env f args [] 0=some (.ret v,H')) (hb:handBack H' 0 (List.range' 0 H'.length) 4 v=some w) (ro:Nat) (H:Heap) (nx:Nat):
    callT env f args ro H nx=some (.ret (w.ren (nxF nx H'.length)),.ups (numbered nx (H'.map (renB (nxF nx H'.length))))):=by
 rw [call_of_run hw ha hr]
 have hg:getAll H' (List.range' 0 H'.length)=some H':=by
  have:=getAll_range' H' H'.length 0 (by omega)
  simpa using this
 have hbk:backF nx [] (List.range' 0 H'.length)=nxF nx H'.length:=by
  funext j
  unfold backF nxF
  simp only [List.length_nil,Nat.not_lt_zero,if_false,idx_range',Nat.zero_le,true_and,Nat.zero_add,Nat.sub_zero]
  split <;> simp
 simp only [callBack,keepOf,hka,if_true,List.length_nil,Nat.sub_zero,hg,hb,List.isEmpty_nil,Bool.true_or,hbk,callUpd,hro,Bool.false_eq_true,if_false,List.take_zero,List.map_nil,List.zip_nil_right,List.nil_append]
theorem zLc {G:Net} (hn:0 < G.n) (g:Nat):accB 5 g (arcL G G.n)=arcB g G z2e∧accG g (arcL G G.n)=g:=by
 have:arcL G G.n ≠ []:=by
  intro h
  have:=congrArg List.length h
  rw [z6X] at this
  simp at this;omega
 exact ⟨by rw [accB,if_neg this];rfl,by rw [accG,if_neg this]⟩
theorem z6o {t:Tab} (h:t.Ok):0 < t.net.n:=by
 have:=h.R1
 show 0 < t.R * t.C+t.R+t.C
 omega
def nofX (T:TabV) (nx g:Nat):Heap:=[boxT T,arcB g T.tab.net z2e,netB T.tab.R T.tab.C (nx+1) g T.tab.net.n,z0B (nx+2)]
theorem zGv {T:TabV} (hT:T.Wf) (hok:T.tab.Ok):∃ g,∀ (ro:Nat) (H:Heap) (nx:Nat),callT env 121 [T.v] ro H nx=some (.ret (.ptr (nx+2) 0 0 0),.ups (numbered nx (nofX T nx g))):=by
 obtain ⟨g,hr⟩:=zQ1 hT hok
 refine ⟨g,fun ro H nx=>?_⟩
 rw [z1K rfl rfl rfl z0d hr (w:=.ptr 2 0 0 0) rfl]
 obtain ⟨e1,e2⟩:=zLc (z6o hok) g
 have n2:nxF nx 4 2=some (nx+2):=rfl
 have n1:nxF nx 4 1=some (nx+1):=rfl
 have hcell:∀ (f:Nat→Option Nat) (a b:Nat),f a=some b→renB f (z0B a)=z0B b:=fun f a b h=>by simp [renB,z0B,renL,AVal.ren,h]
 have hA:∀ f:Nat→Option Nat,renB f (arcB g T.tab.net z2e)=arcB g T.tab.net z2e:=fun _=>rfl
 simp only [z2x,e1,e2,List.length_cons,List.length_nil,List.map_cons,List.map_nil,z3X,hA,z4z n1,hcell _ _ _ n2,AVal.ren,n2,nofX]
def setX (T:TabV) (nx g:Nat) (f:Nat→Int):Heap:=[boxT T,boxT T,arcB g T.tab.net f,netB T.tab.R T.tab.C (nx+2) g T.tab.net.n,z0B (nx+3)]
theorem zFm {T:TabV} (hT:T.Wf):∃ (v:AVal) (H':Heap),runT env 92 [T.v] [] 0=some (.ret v,H') ∧
    ((T.tab.ok=false∧v=.tuple [.nilptr,.int .i64 60]) ∨
     (T.tab.Ok∧(∃ met,z15 T.tab.net=.cut met)∧v=.tuple [.nilptr,.int .i64 31]) ∨
     (T.tab.Ok∧∃ f g,z15 T.tab.net=.ok f∧v=.tuple [.ptr 3 0 0 0,.int .i64 0]∧H'=setX T 0 g f)):=by
 have hc:=z0z T hT
 cases hok:T.tab.ok with
 | false=>
   have:∃ H',runT env 92 [T.v] [] 0=some (.ret (.tuple [.nilptr,.int .i64 60]),H'):=by
    rw [run_unfold fn92 rfl]
    simp only [go_sem,simprocAttr,Try.f92,hc,z29 hok,unwind,modeEx,resultsOf,one]
    exact ⟨_,rfl⟩
   obtain ⟨H',h⟩:=this
   exact ⟨_,_,h,.inl ⟨rfl,rfl⟩⟩
 | true=>
   have hO:=Tab.ok_iff.1 hok
   obtain ⟨g,nc⟩:=zGv hT hO
   obtain ⟨f',hf,sc⟩:=zAU (gn:=g) (z1n hO) z2e
   have hA:NetAt ([boxT T]++nofX T 1 g) 3 2 T.tab.R T.tab.C g T.tab.net.n (arcB g T.tab.net z2e):=⟨rfl,rfl,by decide,z0c _ _ _⟩
   have sc:=sc hA 5
   simp only [nofX,boxT,z0B,List.cons_append,List.nil_append,Nat.reduceAdd] at sc
   cases hs:z15 T.tab.net with
   | cut met=>
     rw [hs] at sc
     simp only [brV] at sc
     have:∃ H',runT env 92 [T.v] [] 0=some (.ret (.tuple [.nilptr,.int .i64 31]),H'):=by
      rw [run_unfold fn92 rfl]
      simp only [go_sem,simprocAttr,Try.f92,hc,z0R hok,nc,nofX,numbered,boxT,z0B,sc,unwind,modeEx,resultsOf,one]
      exact ⟨_,rfl⟩
     obtain ⟨H',h⟩:=this
     exact ⟨_,_,h,.inr (.inl ⟨hO,⟨met,rfl⟩,rfl⟩)⟩
   | ok f=>
     rw [hs] at sc
     have:=hf f hs
     subst this
     simp only [brV] at sc
     have:runT env 92 [T.v] [] 0=some (.ret (.tuple [.ptr 3 0 0 0,.int .i64 0]),setX T 0 g f'):=by
      rw [run_unfold fn92 rfl]
      simp only [go_sem,simprocAttr,Try.f92,hc,z0R hok,nc,nofX,numbered,boxT,z0B,sc,unwind,modeEx,resultsOf,one,setX]
     exact ⟨_,_,this,.inr (.inr ⟨hO,f',g,rfl,rfl,rfl⟩)⟩
theorem z4h {T:TabV} (hO:T.tab.Ok):((∃ met,z15 T.tab.net=.cut met)→¬ T.tab.Can)∧((∃ f,z15 T.tab.net=.ok f)→T.tab.Can):=by
 have hb:=(z2j (z1n hO)).2
 constructor
 · rintro ⟨met,h⟩ hc
   rw [h] at hb
   have:=Net.over_none (zJK.1 hc) fun v=>met.getD v false
   have:=hb.2
   omega
 · rintro ⟨f,h⟩
   rw [h] at hb
   exact ⟨_,z1q hb.1 hb.2⟩
open Classical in
noncomputable def canB (t:Tab):Bool:=decide t.Can
open Classical in
theorem z0S {t:Tab}:canB t=true ↔ t.Can:=by unfold canB;exact decide_eq_true_iff
open Classical in
theorem z5s {t:Tab}:canB t=false ↔ ¬ t.Can:=by unfold canB;exact decide_eq_false_iff_not
theorem z2I {T:TabV} (hT:T.Wf) (ro:Nat) (H:Heap) (nx:Nat):(T.tab.ok=false∧∃ us,callT env 92 [T.v] ro H nx=some (.ret (.tuple [.nilptr,.int .i64 60]),.ups us)∧∃ X,us=numbered nx X) ∨
    (T.tab.Ok∧canB T.tab=false∧∃ us,callT env 92 [T.v] ro H nx=some (.ret (.tuple [.nilptr,.int .i64 31]),.ups us)∧∃ X,us=numbered nx X) ∨
    (T.tab.Ok∧canB T.tab=true∧∃ f g,z15 T.tab.net=.ok f∧T.tab.net.In f∧T.tab.net.Circ f∧callT env 92 [T.v] ro H nx=some (.ret (.tuple [.ptr (nx+3) 0 0 0,.int .i64 0]),.ups (numbered nx (setX T nx g f)))):=by
 obtain ⟨v,H',hr,hv⟩:=zFm hT
 rcases hv with ⟨hok,rfl⟩ | ⟨hO,hm,rfl⟩ | ⟨hO,f,g,hs,rfl,rfl⟩
 · exact .inl ⟨hok,_,z1K rfl rfl rfl z0d hr (w:=.tuple [.nilptr,.int .i64 60]) rfl ro H nx,_,rfl⟩
 · exact .inr (.inl ⟨hO,z5s.2 ((z4h hO).1 hm),_,z1K rfl rfl rfl z0d hr (w:=.tuple [.nilptr,.int .i64 31]) rfl ro H nx,_,rfl⟩)
 · have hb:=(z2j (z1n hO)).2
   rw [hs] at hb
   refine .inr (.inr ⟨hO,z0S.2 ((z4h hO).2 ⟨f,hs⟩),f,g,hs,hb.1,hb.2,?_⟩)
   rw [z1K rfl rfl rfl z0d hr (w:=.tuple [.ptr 3 0 0 0,.int .i64 0]) rfl ro H nx]
   have n2:nxF nx 5 2=some (nx+2):=rfl
   have n3:nxF nx 5 3=some (nx+3):=rfl
   have hcell:∀ (f:Nat→Option Nat) (a b:Nat),f a=some b→renB f (z0B a)=z0B b:=fun f a b h=>by simp [renB,z0B,renL,AVal.ren,h]
   have hA:∀ h:Nat→Option Nat,renB h (arcB g T.tab.net f)=arcB g T.tab.net f:=fun _=>rfl
   simp only [setX,List.length_cons,List.length_nil,List.map_cons,List.map_nil,z3X,hA,Nat.zero_add,z4z n2,hcell _ _ _ n3,AVal.ren,renL,n3]
noncomputable def z4H (t:Tab):AVal:=.tuple [.bool (t.ok && canB t),.int .i64 (ckS t)]
theorem z3u {T:TabV} (hT:T.Wf) (ro:Nat) (H:Heap) (nx:Nat):callT env 41 [T.v] ro H nx=some (.ret (z4H T.tab),.ups []):=by
 have:∃ H',runT env 41 [T.v] [] 0=some (.ret (z4H T.tab),H'):=by
  rw [run_unfold fn41 rfl]
  unfold z4H
  rcases z2I hT 0 [.cells 0 3 false [T.v]] 1 with ⟨hok,us,hc,_⟩ | ⟨hO,hcan,us,hc,_⟩ | ⟨hO,hcan,f,g,_,_,_,hc⟩
  · simp only [go_sem,simprocAttr,Try.f41,hc,hok,z29 hok,unwind,modeEx,resultsOf,one]
    exact ⟨_,rfl⟩
  · have hok:=Tab.ok_iff.2 hO
    simp only [go_sem,simprocAttr,Try.f41,hc,hok,hcan,z0R hok,unwind,modeEx,resultsOf,one]
    exact ⟨_,rfl⟩
  · have hok:=Tab.ok_iff.2 hO
    simp only [go_sem,simprocAttr,Try.f41,hc,hok,hcan,z0R hok,unwind,modeEx,resultsOf,one]
    exact ⟨_,rfl⟩
 obtain ⟨H',h⟩:=this
 exact call_pure rfl rfl rfl z0d h rfl ro H nx
set_option maxRecDepth 10000
set_option maxHeartbeats 2000000
def woV (x:Wo):AVal:=.agg [.bool x.there,.int .i64 x.gain,.int .i64 x.last.arc,.bool x.last.back,.int .i64 x.last.to,.int .i64 x.last.room,.int .i64 x.last.gain,.int .i64 x.last.start]
@[go_sem] theorem zTO (x:Wo):(woV x).cellsOf=[.bool x.there,.int .i64 x.gain,.int .i64 x.last.arc,.bool x.last.back,.int .i64 x.last.to,.int .i64 x.last.room,.int .i64 x.last.gain,.int .i64 x.last.start]:=rfl
@[go_sem] theorem zVN (x:Wo):(woV x).isTuple=false:=rfl
@[go_sem] theorem zTQ (x:Wo) (m:Nat):(woV x).under m=true:=rfl
@[go_sem] theorem zUU (x:Wo):AVal.agg [.bool x.there,.int .i64 x.gain,.int .i64 x.last.arc,.bool x.last.back,.int .i64 x.last.to,.int .i64 x.last.room,.int .i64 x.last.gain,.int .i64 x.last.start]=woV x:=rfl
@[go_sem] theorem zTR (x y:Wo):z0J (woV x) 0 (woV y)=some (woV y):=rfl
@[go_sem] theorem zUJ (m:Nat) (x:Wo):scrub m (woV x)=woV x:=rfl
def wosV (l:List Wo):List AVal:=l.map woV
theorem z5C {l:List Wo} {i:Nat} (h:i < l.length):(wosV l)[i]?=some (woV (l.getD i wo0)):=by simp [wosV,h]
theorem zDA (l:List Wo) (i:Nat) (x:Wo):(wosV l).set i (woV x)=wosV (l.set i x):=by simp [wosV,List.map_set]
theorem zG6 (l:List Wo):(wosV l).length=l.length:=by simp [wosV]
structure RowAt (P:Heap) (M q N j:Nat) (tb:List AVal) (prev:List Wo):Prop where
 len:P.length=M
 two:2 < M
 qM:q < M
 q2:2 < q
 tab:P[2]?=some (.cells 0 1 false tb)
 prv:P[q]?=some (.cells 0 8 true (wosV prev))
 tj:tb[j]?=some (.ref q 0 0 N false)
 tj1:tb[j+1]?=some (.ref M 0 0 N false)
 und:∀ r,(P++[Blk.cells 0 8 true r]).all (underB (M+1))=true
section
variable {P:Heap} {M:Nat} (hP:P.length=M)
include hP
theorem len0 (r:Blk):(P++[r]).length=M+1:=by simp [hP]
theorem len1 (r x:Blk):(P++[r]++[x]).length=M+2:=by simp [hP]
theorem len2 (r x y:Blk):(P++[r]++[x]++[y]).length=M+3:=by simp [hP]
theorem zSQ (r x:Blk):(P++[r]++[x])[M+1]?=some x:=by
 rw [← len0 hP r,List.getElem?_concat_length]
theorem zUt (r x y:Blk):(P++[r]++[x]++[y])[M+1]?=some x:=by
 rw [List.getElem?_append_left (by rw [len1 hP];omega),zSQ hP]
theorem zUu (r x y:Blk):(P++[r]++[x]++[y])[M+2]?=some y:=by
 rw [← len1 hP r x,List.getElem?_concat_length]
theorem zUs (r x y:Blk):(P++[r]++[x]++[y])[M]?=some r:=by
 rw [List.getElem?_append_left (by rw [len1 hP];omega),List.getElem?_append_left (by rw [len0 hP];omega),← hP,List.getElem?_concat_length]
theorem zPX {i:Nat} (h:i < M) (r x:Blk):(P++[r]++[x])[i]?=P[i]?:=by
 rw [List.getElem?_append_left (by rw [len0 hP];omega),List.getElem?_append_left (by omega)]
theorem zSP {i:Nat} (h:i < M) (r x y:Blk):(P++[r]++[x]++[y])[i]?=P[i]?:=by
 rw [List.getElem?_append_left (by rw [len1 hP];omega),zPX hP h]
theorem zVC (r x x':Blk):(P++[r]++[x]).set (M+1) x'=P++[r]++[x']:=by
 rw [List.set_append_right _ _ (by rw [len0 hP];omega),len0 hP];simp
theorem zVD (r x y y':Blk):(P++[r]++[x]++[y]).set (M+2) y'=P++[r]++[x]++[y']:=by
 rw [List.set_append_right _ _ (by rw [len1 hP];omega),len1 hP];simp
theorem zVB (r r' x y:Blk):(P++[r]++[x]++[y]).set M r'=P++[r']++[x]++[y]:=by
 rw [List.set_append_left _ _ (by rw [len1 hP];omega),List.set_append_left _ _ (by rw [len0 hP];omega),List.set_append_right _ _ (by omega)]
 simp [hP]
theorem zVG (r x y:Blk):(P++[r]++[x]++[y]).take (M+1)=P++[r]:=by
 rw [List.append_assoc,List.take_append_of_le_length (by rw [len0 hP];omega),List.take_of_length_le (by rw [len0 hP];omega)]
end
theorem trunc_row {P:Heap} {M:Nat} (hP:P.length=M) {r:List AVal} (hu:(P++[Blk.cells 0 8 true r]).all (underB (M+1))=true) (x y:Blk) (T:List AVal) (ro:Nat) (V:List Nat):
    trunc (M+1) ⟨T,P++[.cells 0 8 true r]++[x]++[y],[],ro,V⟩=⟨T.map (scrub (M+1)),P++[.cells 0 8 true r],[],ro,V⟩:=by
 unfold trunc
 have h1:¬ (P++[Blk.cells 0 8 true r]++[x]++[y]).length≤M+1:=by rw [len2 hP];omega
 simp only [h1,if_false,zVG hP,hu,List.all_nil,Bool.and_self,if_true]
theorem zOt {bf:Array Nat} {M q:Nat} (h2:2 < M) (hq:q < M) (b:(bf.getD 10 0).testBit 9=true):Tidy.apart bf [⟨0,[],[]⟩,⟨1,[],[]⟩,⟨2,[],[]⟩,⟨3,[2],[]⟩,⟨4,[2],[]⟩,⟨5,[],[]⟩,⟨6,[M+1],[]⟩,⟨7,[q],[]⟩,⟨8,[q],[]⟩,⟨9,[],[M+2]⟩,⟨10,[M+2],[M+2]⟩]=true:=by
 have e1:(2 == M+2)=false:=beq_eq_false_iff_ne.2 (by omega)
 have e2:(M+1 == M+2)=false:=beq_eq_false_iff_ne.2 (by omega)
 have e3:(q == M+2)=false:=beq_eq_false_iff_ne.2 (by omega)
 have f1:(M+2 == 2)=false:=beq_eq_false_iff_ne.2 (by omega)
 have f2:(M+2 == M+1)=false:=beq_eq_false_iff_ne.2 (by omega)
 have f3:(M+2 == q)=false:=beq_eq_false_iff_ne.2 (by omega)
 simp only [Tidy.apart,clash,meets,List.all_cons,List.all_nil,List.any_cons,List.any_nil,List.append_nil,List.nil_append,List.cons_append,List.contains_cons,List.contains_nil,Bool.or_false,Bool.false_or,Bool.not_false,Bool.true_or,Bool.or_true,Bool.and_true,beq_self_eq_true,Bool.not_true,b,e1,e2,e3,f1,f2,f3]
theorem zIv {bf:Array Nat} {M:Nat} (h2:2 < M) (b:(bf.getD 14 0).testBit 13=true):Tidy.apart bf [⟨0,[],[]⟩,⟨1,[],[]⟩,⟨2,[2],[]⟩,⟨3,[2],[]⟩,⟨4,[],[]⟩,⟨5,[M+1],[]⟩,⟨6,[],[]⟩,⟨7,[M+2],[]⟩,⟨8,[],[]⟩,⟨9,[M+1],[]⟩,⟨10,[],[]⟩,⟨11,[M+1],[]⟩,⟨12,[],[]⟩,⟨13,[M],[]⟩,⟨14,[M],[M]⟩]=true:=by
 have e1:(2 == M)=false:=beq_eq_false_iff_ne.2 (by omega)
 have e2:(M+1 == M)=false:=beq_eq_false_iff_ne.2 (by omega)
 have e3:(M+2 == M)=false:=beq_eq_false_iff_ne.2 (by omega)
 have f1:(M == 2)=false:=beq_eq_false_iff_ne.2 (by omega)
 have f2:(M == M+1)=false:=beq_eq_false_iff_ne.2 (by omega)
 have f3:(M == M+2)=false:=beq_eq_false_iff_ne.2 (by omega)
 simp only [Tidy.apart,clash,meets,List.all_cons,List.all_nil,List.any_cons,List.any_nil,List.append_nil,List.nil_append,List.cons_append,List.contains_cons,List.contains_nil,Bool.or_false,Bool.false_or,Bool.not_false,Bool.true_or,Bool.or_true,Bool.and_true,beq_self_eq_true,Bool.not_true,b,e1,e2,e3,f1,f2,f3]
def zIo (P:Heap) (N j sz:Nat) (ws:List Res) (cur:List Wo) (e:Ex) (t:St):Prop:=e=.exit 4∧FrP 198 [(5,.lit false sz (z0P ws)),(6,.int .i64 N),(7,.ref 2 0 0 (N+1) false),(9,.int .i64 (j+1:Nat))] (P++[.cells 0 8 true (wosV cur)]) [] 2 [] t
theorem zN7 {P:Heap} {M q N j sz:Nat} {tb:List AVal} {prev:List Wo} {ws:List Res} (hsz:ws=[] ∨ sz=6) (hr:RowAt P M q N j tb prev) (hjN:j < N) (hN:N≤17) (hp:prev.length=N) (hws:∀ w ∈ ws,w.to < N∧w.start < N) (hg:∀ w ∈ ws,-1≤w.gain∧w.gain≤1) (hpg:∀ v,-100≤(prev.getD v wo0).gain∧(prev.getD v wo0).gain≤100) (hwl:ws.length < 2 ^ 20):∀ (n i:Nat) (cur:List Wo) (j0 j1 j2 j3 j4 j8 j10 j11 j12 j13 j14 j15 j16 j17 j18 j19 j20 j21 j22 j23 j24 j25 j26 j27 j28 j29 j30 j31 j32 j33 j34 j35 j36 j37 j38 j39 j40 j41 j42 j43 j44 j45 j46 j47 j48 j49 j50 j51 j52 j53 j54 j55 j56 j57 j58 j62 j63 j64 j65 j66 j67 j68 j69 j70 j71 j72 j73 j74 j75 j76 j77 j78 j79 j80 j81 j82 j83 j84 j85 j86 j87 j88 j89 j90 j91 j92 j93 j94 j95 j96 j97 j98 j99 j100 j101 j102 j103 j104 j105 j106 j107 j108 j109 j110 j111 j112 j113 j114 j115 j116 j117 j118 j119 j120 j121 j122 j123 j124 j125 j126 j127 j128 j129 j130 j131 j132 j133 j134 j135 j136 j137 j138 j139 j140 j141 j142 j143 j144 j145 j146 j147 j148 j149 j150 j151 j152 j153 j154 j155 j156 j157 j158 j159 j160 j161 j162 j163 j164 j165 j166 j167 j168 j169 j170 j171 j172 j173 j174 j175 j176 j177 j178 j179 j180 j181 j182 j183 j184 j185 j186 j187 j188 j189 j190 j191 j192 j193 j194 j195 j196 j197:AVal),i+n=ws.length→cur.length=N →
    Goes (execT env (Try.f137.at [1,1,1,1,1,1,0,1,0,0,1,0,0,1,1,0]) ⟨[j0,j1,j2,j3,j4,.lit false sz (z0P ws),.int .i64 N,.ref 2 0 0 (N+1) false,j8,.int .i64 (j+1:Nat),j10,j11,j12,j13,j14,j15,j16,j17,j18,j19,j20,j21,j22,j23,j24,j25,j26,j27,j28,j29,j30,j31,j32,j33,j34,j35,j36,j37,j38,j39,j40,j41,j42,j43,j44,j45,j46,j47,j48,j49,j50,j51,j52,j53,j54,j55,j56,j57,j58,.lit false sz (z0P ws),.int .i64 ws.length,.int .i64 i,j62,j63,j64,j65,j66,j67,j68,j69,j70,j71,j72,j73,j74,j75,j76,j77,j78,j79,j80,j81,j82,j83,j84,j85,j86,j87,j88,j89,j90,j91,j92,j93,j94,j95,j96,j97,j98,j99,j100,j101,j102,j103,j104,j105,j106,j107,j108,j109,j110,j111,j112,j113,j114,j115,j116,j117,j118,j119,j120,j121,j122,j123,j124,j125,j126,j127,j128,j129,j130,j131,j132,j133,j134,j135,j136,j137,j138,j139,j140,j141,j142,j143,j144,j145,j146,j147,j148,j149,j150,j151,j152,j153,j154,j155,j156,j157,j158,j159,j160,j161,j162,j163,j164,j165,j166,j167,j168,j169,j170,j171,j172,j173,j174,j175,j176,j177,j178,j179,j180,j181,j182,j183,j184,j185,j186,j187,j188,j189,j190,j191,j192,j193,j194,j195,j196,j197],P++[.cells 0 8 true (wosV cur)],[],2,[]⟩) (zIo P N j sz ws ((ws.drop i).foldl (z2E prev) cur)):=by
 obtain ⟨hP,h2,hqM,hq2,htab,hprv,htj,htj1,hund⟩:=hr
 intro n
 induction n with
 | zero=>
   intro i cur;intros;rename_i hi hc
   have hd:decide ((i:Int) < (ws.length:Int))=false:=by simp;omega
   have hdr:ws.drop i=[]:=List.drop_eq_nil_of_le (by omega)
   conv in (Func.at _ _)=>whnf
   rw [exec_loop,hdr]
   simp (config:={ maxSteps:=2000000 }) only [go_sem,simprocAttr,hd,List.foldl_nil]
   exact ⟨rfl,frP (by kernel_rfl)⟩
 | succ n ih=>
   intro i cur;intros;rename_i hi hc
   have hd:decide ((i:Int) < (ws.length:Int))=true:=by simp;omega
   have h0:(0:Int)≤(i:Int):=by omega
   obtain ⟨w,hw,hdr⟩:=z0T (show i < ws.length by omega)
   have hw':=z7w hw
   have hwm:=List.mem_of_getElem? hw
   have hsz6:=z1b hsz hw
   subst hsz6
   obtain ⟨hto,hst⟩:=hws w hwm
   have wk:IntKind.i64.wrap ((j+1:Nat) - 1:Int)=(j:Int):=by rw [i64_in _ (by omega)];omega
   have j0:(0:Int)≤(j:Int):=by omega
   have k0:(0:Int)≤((j+1:Nat):Int):=by omega
   have dj:decide ((j:Int) < ((N+1:Nat):Int))=true:=decide_eq_true (by omega)
   have dk:decide (((j+1:Nat):Int) < ((N+1:Nat):Int))=true:=decide_eq_true (by omega)
   have ds:decide ((w.start:Int) < (N:Int))=true:=decide_eq_true (by omega)
   have dt:decide ((w.to:Int) < (N:Int))=true:=decide_eq_true (by omega)
   have s0:(0:Int)≤(w.start:Int):=by omega
   have t0:(0:Int)≤(w.to:Int):=by omega
   have gp:=z5C (l:=prev) (i:=w.start) (by omega)
   have gc:=z5C (l:=cur) (i:=w.to) (by omega)
   have l0:=len0 hP
   have l1:=len1 hP
   have l2:=len2 hP
   have x1:=zSQ hP
   have x2:=zUt hP
   have y2:=zUu hP
   have r2:=zUs hP
   have a1:=fun r x=>(zPX hP h2 r x).trans htab
   have a2:=fun r x y=>(zSP hP h2 r x y).trans htab
   have q1:=fun r x=>(zPX hP hqM r x).trans hprv
   have q2:=fun r x y=>(zSP hP hqM r x y).trans hprv
   have sx:=zVC hP
   have sy:=zVD hP
   have sr:=zVB hP
   have c1:(M+1 < M+2)=True:=eq_true (by omega)
   have c2:(M+2 < M+3)=True:=eq_true (by omega)
   have c3:(2≤M+1)=True:=eq_true (by omega)
   have c4:(2≤M+2)=True:=eq_true (by omega)
   have c5:(2 < M+1)=True:=eq_true (by omega)
   have c6:(2 < M+2)=True:=eq_true (by omega)
   have c7:(2 < M+3)=True:=eq_true (by omega)
   have c8:(q < M+1)=True:=eq_true (by omega)
   have c9:(q < M+2)=True:=eq_true (by omega)
   have c10:(q < M+3)=True:=eq_true (by omega)
   have c11:(M < M+1)=True:=eq_true (by omega)
   have c12:(M < M+3)=True:=eq_true (by omega)
   have c13:(M+1 < M+3)=True:=eq_true (by omega)
   have c14:(M+2 < M+1)=False:=eq_false (by omega)
   have c15:(2≤M)=True:=eq_true (by omega)
   have tr:=fun r=>trunc_row hP (hund r)
   have hpw:=hpg w.start
   have hgw:=hg w hwm
   have wg:IntKind.i64.wrap ((prev.getD w.start wo0).gain+w.gain)=(prev.getD w.start wo0).gain+w.gain:=i64_in _ (by omega)
   have ih':=ih (i+1)
   rw [hdr,List.foldl_cons]
   conv in (Func.at _ _)=>whnf
   rw [exec_loop]
   simp (config:={ maxSteps:=2000000 }) only [go_sem,simprocAttr,hd,h0,Int.toNat_natCast,hw',l0,l1,l2,x1,x2,y2,a1,a2,q1,q2,sx,sy,c1,c2,c3,c4,c6,c9,wk,j0,dj,htj,ds,s0,gp]
   rw [apart_ok (zOt h2 hqM (by kernel_rfl))]
   cases hx:(prev.getD w.start wo0).there with
   | false=>
     have ek:z2E prev cur w=cur:=by unfold z2E;rw [hx];rfl
     rw [ek]
     simp (config:={ maxSteps:=2000000 }) only [go_sem,simprocAttr,c2,l0,l2,x2,y2,hx,c7,c5,c8,c13,c14,tr,List.map_cons,List.map_nil,z00 (show i < 2 ^ 63 - 1 by omega)]
     exact ih' cur _ _ _ _ _ _ _ _ _ _ _ _ _ _ _ _ _ _ _ _ _ _ _ _ _ _ _ _ _ _ _ _ _ _ _ _ _ _ _ _ _ _ _ _ _ _ _ _ _ _ _ _ _ _ _ _ _ _ _ _ _ _ _ _ _ _ _ _ _ _ _ _ _ _ _ _ _ _ _ _ _ _ _ _ _ _ _ _ _ _ _ _ _ _ _ _ _ _ _ _ _ _ _ _ _ _ _ _ _ _ _ _ _ _ _ _ _ _ _ _ _ _ _ _ _ _ _ _ _ _ _ _ _ _ _ _ _ _ _ _ _ _ _ _ _ _ _ _ _ _ _ _ _ _ _ _ _ _ _ _ _ _ _ _ _ _ _ _ _ _ _ _ _ _ _ _ _ _ _ _ _ _ _ _ _ _ _ _ _ _ _ (by omega) hc
   | true=>
     cases hy:(cur.getD w.to wo0).there with
     | false=>
       have ek:z2E prev cur w=cur.set w.to ⟨true,(prev.getD w.start wo0).gain+w.gain,w⟩:=by unfold z2E;rw [hx,hy];rfl
       have ew:=zDA cur w.to ⟨true,(prev.getD w.start wo0).gain+w.gain,w⟩
       have ev:AVal.agg [.bool true,.int .i64 ((prev.getD w.start wo0).gain+w.gain),.int .i64 w.arc,.bool w.back,.int .i64 w.to,.int .i64 w.room,.int .i64 w.gain,.int .i64 w.start]=woV ⟨true,(prev.getD w.start wo0).gain+w.gain,w⟩:=rfl
       rw [ek]
       simp (config:={ maxSteps:=2000000 }) only [go_sem,simprocAttr,c2,l0,l2,x2,y2,r2,a2,hx,hy,k0,dk,Int.toNat_natCast,htj1,dt,t0,gc,wg,ev,ew,sr,c7,c5,c8,c11,c12,c13,c14,c15]
       rw [apart_ok (zIv h2 (by kernel_rfl))]
       simp (config:={ maxSteps:=2000000 }) only [go_sem,simprocAttr,l0,l2,c5,c8,c11,c14,tr,List.map_cons,List.map_nil,z00 (show i < 2 ^ 63 - 1 by omega)]
       exact ih' _ _ _ _ _ _ _ _ _ _ _ _ _ _ _ _ _ _ _ _ _ _ _ _ _ _ _ _ _ _ _ _ _ _ _ _ _ _ _ _ _ _ _ _ _ _ _ _ _ _ _ _ _ _ _ _ _ _ _ _ _ _ _ _ _ _ _ _ _ _ _ _ _ _ _ _ _ _ _ _ _ _ _ _ _ _ _ _ _ _ _ _ _ _ _ _ _ _ _ _ _ _ _ _ _ _ _ _ _ _ _ _ _ _ _ _ _ _ _ _ _ _ _ _ _ _ _ _ _ _ _ _ _ _ _ _ _ _ _ _ _ _ _ _ _ _ _ _ _ _ _ _ _ _ _ _ _ _ _ _ _ _ _ _ _ _ _ _ _ _ _ _ _ _ _ _ _ _ _ _ _ _ _ _ _ _ _ _ _ _ _ _ (by omega) (by simpa using hc)
     | true=>
       cases hz:decide ((cur.getD w.to wo0).gain < (prev.getD w.start wo0).gain+w.gain) with
       | false=>
         have ek:z2E prev cur w=cur:=by unfold z2E;rw [hx,hy,hz];rfl
         rw [ek]
         simp (config:={ maxSteps:=2000000 }) only [go_sem,simprocAttr,c2,l0,l2,x2,y2,r2,a2,hx,hy,hz,k0,dk,Int.toNat_natCast,htj1,dt,t0,gc,wg,c7,c5,c8,c11,c12,c13,c14,tr,List.map_cons,List.map_nil,z00 (show i < 2 ^ 63 - 1 by omega)]
         exact ih' cur _ _ _ _ _ _ _ _ _ _ _ _ _ _ _ _ _ _ _ _ _ _ _ _ _ _ _ _ _ _ _ _ _ _ _ _ _ _ _ _ _ _ _ _ _ _ _ _ _ _ _ _ _ _ _ _ _ _ _ _ _ _ _ _ _ _ _ _ _ _ _ _ _ _ _ _ _ _ _ _ _ _ _ _ _ _ _ _ _ _ _ _ _ _ _ _ _ _ _ _ _ _ _ _ _ _ _ _ _ _ _ _ _ _ _ _ _ _ _ _ _ _ _ _ _ _ _ _ _ _ _ _ _ _ _ _ _ _ _ _ _ _ _ _ _ _ _ _ _ _ _ _ _ _ _ _ _ _ _ _ _ _ _ _ _ _ _ _ _ _ _ _ _ _ _ _ _ _ _ _ _ _ _ _ _ _ _ _ _ _ _ (by omega) hc
       | true=>
         have ek:z2E prev cur w=cur.set w.to ⟨true,(prev.getD w.start wo0).gain+w.gain,w⟩:=by unfold z2E;rw [hx,hy,hz];rfl
         have ew:=zDA cur w.to ⟨true,(prev.getD w.start wo0).gain+w.gain,w⟩
         have ev:AVal.agg [.bool true,.int .i64 ((prev.getD w.start wo0).gain+w.gain),.int .i64 w.arc,.bool w.back,.int .i64 w.to,.int .i64 w.room,.int .i64 w.gain,.int .i64 w.start]=woV ⟨true,(prev.getD w.start wo0).gain+w.gain,w⟩:=rfl
         rw [ek]
         simp (config:={ maxSteps:=2000000 }) only [go_sem,simprocAttr,c2,l0,l2,x2,y2,r2,a2,hx,hy,hz,k0,dk,Int.toNat_natCast,htj1,dt,t0,gc,wg,ev,ew,sr,c7,c5,c8,c11,c12,c13,c14,c15]
         rw [apart_ok (zIv h2 (by kernel_rfl))]
         simp (config:={ maxSteps:=2000000 }) only [go_sem,simprocAttr,l0,l2,c5,c8,c11,c14,tr,List.map_cons,List.map_nil,z00 (show i < 2 ^ 63 - 1 by omega)]
         exact ih' _ _ _ _ _ _ _ _ _ _ _ _ _ _ _ _ _ _ _ _ _ _ _ _ _ _ _ _ _ _ _ _ _ _ _ _ _ _ _ _ _ _ _ _ _ _ _ _ _ _ _ _ _ _ _ _ _ _ _ _ _ _ _ _ _ _ _ _ _ _ _ _ _ _ _ _ _ _ _ _ _ _ _ _ _ _ _ _ _ _ _ _ _ _ _ _ _ _ _ _ _ _ _ _ _ _ _ _ _ _ _ _ _ _ _ _ _ _ _ _ _ _ _ _ _ _ _ _ _ _ _ _ _ _ _ _ _ _ _ _ _ _ _ _ _ _ _ _ _ _ _ _ _ _ _ _ _ _ _ _ _ _ _ _ _ _ _ _ _ _ _ _ _ _ _ _ _ _ _ _ _ _ _ _ _ _ _ _ _ _ _ _ (by omega) (by simpa using hc)
set_option maxRecDepth 10000
set_option maxHeartbeats 2000000
@[go_sem] theorem zTP (x:Wo) (b:Bool):z0J (woV x) 0 (.bool b)=some (woV { x with there:=b }):=rfl
theorem zOZ:AVal.agg [.bool false,.int .i64 0,.int .i64 0,.bool false,.int .i64 0,.int .i64 0,.int .i64 0,.int .i64 0]=woV wo0:=rfl
def tbV (N j:Nat):List AVal:=vecA (N+1) fun i=>if i≤j then .ref (3+i) 0 0 N false else .lit true 0 []
theorem z54 {N j i:Nat} (h:i≤N):(tbV N j)[i]?=some (if i≤j then .ref (3+i) 0 0 N false else .lit true 0 []):=vecA_get _ (by omega)
theorem zQZ {N j:Nat}:(tbV N j).set (j+1) (.ref (3+(j+1)) 0 0 N false)=tbV N (j+1):=by
 unfold tbV
 rw [z7u]
 refine z1D fun i _=>?_
 by_cases h:i=j+1
 · subst h;rw [if_pos rfl,if_pos (by omega)]
 · rw [if_neg h]
   by_cases h2:i≤j
   · rw [if_pos h2,if_pos (by omega)]
   · rw [if_neg h2,if_neg (by omega)]
theorem zNc {N j m:Nat} (h:3+j < m):underL m (tbV N j)=true:=by
 have:∀ l:List Nat,underL m (l.map fun i=>if i≤j then AVal.ref (3+i) 0 0 N false else .lit true 0 [])=true:=by
  intro l
  induction l with
  | nil=>rfl
  | cons x l ih=>
    simp only [List.map_cons,underL,ih,Bool.and_true]
    split
    · simp only [AVal.under,decide_eq_true_eq];omega
    · rfl
 exact this _
theorem zDy {N j m:Nat} (hj:j≤N) (h:m≤3+j):underL m (tbV N j)=false:=by
 cases hh:underL m (tbV N j) with
 | false=>rfl
 | true=>
   have h1:=z54 (j:=j) hj
   rw [if_pos (Nat.le_refl _)] at h1
   have:=underL_mem hh _ (List.mem_of_getElem? h1)
   simp only [AVal.under,decide_eq_true_eq] at this
   omega
def rowB (ws:List Res) (N i:Nat):Blk:=.cells 0 8 true (wosV (kRow ws N i))
def tabH (R C gn:Nat) (G:Net) (f:Nat→Int) (ws:List Res) (N j k:Nat):Heap:=[netB R C 1 gn G.n,arcB gn G f,.cells 0 1 false (tbV N k)]++vecA (j+1) (rowB ws N)
section
variable {R C gn:Nat} {G:Net} {f:Nat→Int} {ws:List Res} {N j k:Nat}
theorem z2X:(tabH R C gn G f ws N j k).length=j+4:=by simp [tabH,z0E]
theorem z9C:(tabH R C gn G f ws N j k)[2]?=some (.cells 0 1 false (tbV N k)):=rfl
theorem z6H {i:Nat} (h:i≤j):(tabH R C gn G f ws N j k)[3+i]?=some (rowB ws N i):=by
 unfold tabH
 rw [List.getElem?_append_right (by simp)]
 simp only [List.length_cons,List.length_nil]
 rw [show 3+i - (0+1+1+1)=i by omega]
 exact vecA_get _ (by omega)
theorem zNL (b:Blk) (k':Nat):((tabH R C gn G f ws N j k)++[b]).set 2 (.cells 0 1 false (tbV N k'))=tabH R C gn G f ws N j k'++[b]:=rfl
theorem zLC:tabH R C gn G f ws N j k++[rowB ws N (j+1)]=tabH R C gn G f ws N (j+1) k:=by
 unfold tabH
 rw [z5n (j+1)]
 simp
theorem zBz {m:Nat} (hm:3+k < m):(tabH R C gn G f ws N j k).all (underB m)=true:=by
 have h1:∀ l:List Nat,(l.map (rowB ws N)).all (underB m)=true:=by
  intro l
  rw [List.all_eq_true]
  intro x hx
  obtain ⟨i,_,rfl⟩:=List.mem_map.1 hx
  rfl
 unfold tabH
 rw [List.all_append]
 have h2:(vecA (j+1) (rowB ws N)).all (underB m)=true:=h1 _
 rw [h2]
 simp [underB,netB,arcB,underL,AVal.under,zNc hm]
 omega
theorem zIZ (hj:j+1≤N) (T:List AVal) (ro:Nat) (V:List Nat):trunc (j+4) ⟨T,tabH R C gn G f ws N (j+1) (j+1),[],ro,V⟩=⟨T,tabH R C gn G f ws N (j+1) (j+1),[],ro,V⟩:=by
 unfold trunc
 have h1:¬ (tabH R C gn G f ws N (j+1) (j+1)).length≤j+4:=by rw [z2X];omega
 have h2:((tabH R C gn G f ws N (j+1) (j+1)).take (j+4)).all (underB (j+4))=false:=by
  cases h:((tabH R C gn G f ws N (j+1) (j+1)).take (j+4)).all (underB (j+4)) with
  | false=>rfl
  | true=>
    have h3:((tabH R C gn G f ws N (j+1) (j+1)).take (j+4))[2]?=some (.cells 0 1 false (tbV N (j+1))):=by
     rw [List.getElem?_take,if_pos (by omega)];rfl
    have:=List.all_eq_true.1 h _ (List.mem_of_getElem? h3)
    simp only [underB,Bool.false_or] at this
    rw [zDy hj (by omega)] at this
    cases this
 simp only [h1,if_false,h2,Bool.false_and,Bool.false_eq_true]
end
def TabPost (R C gn:Nat) (G:Net) (f:Nat→Int) (ws:List Res) (N:Nat) (e:Ex) (t:St):Prop:=e=.exit 2∧FrP 198 [(6,.int .i64 N),(7,.ref 2 0 0 (N+1) false)] (tabH R C gn G f ws N N N) [] 2 [] t
theorem zNO {R C gn sz:Nat} {G:Net} {f:Nat→Int} {ws:List Res} {N:Nat} (hsz:ws=[] ∨ sz=6) (hN:N≤17) (hws:∀ w ∈ ws,w.to < N∧w.start < N) (hg:∀ w ∈ ws,-1≤w.gain∧w.gain≤1) (hwl:ws.length < 2 ^ 20):∀ (n j:Nat) (j0 j1 j2 j3 j4 j8 j10 j11 j12 j13 j14 j15 j16 j17 j18 j19 j20 j21 j22 j23 j24 j25 j26 j27 j28 j29 j30 j31 j32 j33 j34 j35 j36 j37 j38 j39 j40 j41 j42 j43 j44 j45 j46 j47 j48 j49 j50 j51 j52 j53 j54 j55 j56 j57 j58 j59 j60 j61 j62 j63 j64 j65 j66 j67 j68 j69 j70 j71 j72 j73 j74 j75 j76 j77 j78 j79 j80 j81 j82 j83 j84 j85 j86 j87 j88 j89 j90 j91 j92 j93 j94 j95 j96 j97 j98 j99 j100 j101 j102 j103 j104 j105 j106 j107 j108 j109 j110 j111 j112 j113 j114 j115 j116 j117 j118 j119 j120 j121 j122 j123 j124 j125 j126 j127 j128 j129 j130 j131 j132 j133 j134 j135 j136 j137 j138 j139 j140 j141 j142 j143 j144 j145 j146 j147 j148 j149 j150 j151 j152 j153 j154 j155 j156 j157 j158 j159 j160 j161 j162 j163 j164 j165 j166 j167 j168 j169 j170 j171 j172 j173 j174 j175 j176 j177 j178 j179 j180 j181 j182 j183 j184 j185 j186 j187 j188 j189 j190 j191 j192 j193 j194 j195 j196 j197:AVal),j+n=N →
    Goes (execT env (Try.f137.at [1,1,1,1,1,1,0,1,0]) ⟨[j0,j1,j2,j3,j4,.lit false sz (z0P ws),.int .i64 N,.ref 2 0 0 (N+1) false,j8,.int .i64 (j+1:Nat),j10,j11,j12,j13,j14,j15,j16,j17,j18,j19,j20,j21,j22,j23,j24,j25,j26,j27,j28,j29,j30,j31,j32,j33,j34,j35,j36,j37,j38,j39,j40,j41,j42,j43,j44,j45,j46,j47,j48,j49,j50,j51,j52,j53,j54,j55,j56,j57,j58,j59,j60,j61,j62,j63,j64,j65,j66,j67,j68,j69,j70,j71,j72,j73,j74,j75,j76,j77,j78,j79,j80,j81,j82,j83,j84,j85,j86,j87,j88,j89,j90,j91,j92,j93,j94,j95,j96,j97,j98,j99,j100,j101,j102,j103,j104,j105,j106,j107,j108,j109,j110,j111,j112,j113,j114,j115,j116,j117,j118,j119,j120,j121,j122,j123,j124,j125,j126,j127,j128,j129,j130,j131,j132,j133,j134,j135,j136,j137,j138,j139,j140,j141,j142,j143,j144,j145,j146,j147,j148,j149,j150,j151,j152,j153,j154,j155,j156,j157,j158,j159,j160,j161,j162,j163,j164,j165,j166,j167,j168,j169,j170,j171,j172,j173,j174,j175,j176,j177,j178,j179,j180,j181,j182,j183,j184,j185,j186,j187,j188,j189,j190,j191,j192,j193,j194,j195,j196,j197],tabH R C gn G f ws N j j,[],2,[]⟩) (TabPost R C gn G f ws N):=by
 intro n
 induction n with
 | zero=>
   intro j;intros;rename_i hj
   have hd:decide (((j+1:Nat):Int)≤(N:Int))=false:=decide_eq_false (by omega)
   have:j=N:=by omega
   subst this
   conv in (Func.at _ _)=>whnf
   rw [exec_loop]
   simp (config:={ maxSteps:=2000000 }) only [go_sem,simprocAttr,hd]
   exact ⟨rfl,frP (by kernel_rfl)⟩
 | succ n ih=>
   intro j;intros;rename_i hj
   have hd:decide (((j+1:Nat):Int)≤(N:Int))=true:=decide_eq_true (by omega)
   have dk:decide (((j+1:Nat):Int) < ((N+1:Nat):Int))=true:=decide_eq_true (by omega)
   have k0:(0:Int)≤((j+1:Nat):Int):=by omega
   have N0:(0:Int)≤(N:Int):=by omega
   have m1:N * 65≤z04:=by unfold z04;omega
   have wk:IntKind.i64.wrap (((j+1:Nat):Int)+1)=((j+1+1:Nat):Int):=by rw [i64_in _ (by omega)];omega
   have r1:List.replicate N (AVal.agg [.bool false,.int .i64 0,.int .i64 0,.bool false,.int .i64 0,.int .i64 0,.int .i64 0,.int .i64 0])=wosV (List.replicate N wo0):=by rw [zOZ];simp [wosV]
   have hl:=z2X (R:=R) (C:=C) (gn:=gn) (G:=G) (f:=f) (ws:=ws) (N:=N) (j:=j) (k:=j)
   have hl1:∀ b,(tabH R C gn G f ws N j j++[b]).length=j+5:=fun b=>by rw [List.length_append,hl];rfl
   have h2:∀ b,(tabH R C gn G f ws N j j++[b])[2]?=some (.cells 0 1 false (tbV N j)):=fun b=>rfl
   have hset:∀ b,((tabH R C gn G f ws N j j)++[b]).set 2 (.cells 0 1 false (tbV N (j+1)))=tabH R C gn G f ws N j (j+1)++[b]:=fun b=>zNL b (j+1)
   have tg:(tbV N j)[j+1]?=some (.lit true 0 []):=by rw [z54 (by omega),if_neg (by omega)]
   have ts:(tbV N j).set (j+1) (.ref (j+4) 0 0 N false)=tbV N (j+1):=by rw [← zQZ,show 3+(j+1)=j+4 by omega]
   have c1:(2 < j+5)=True:=eq_true (by omega)
   have hbd:=z8H (fun w hw=>(hws w hw).1) hg j
   have hrow:RowAt (tabH R C gn G f ws N j (j+1)) (j+4) (3+j) N j (tbV N (j+1)) (kRow ws N j):=by
    refine ⟨z2X,by omega,by omega,by omega,rfl,z6H (Nat.le_refl _),?_,?_,fun r=>?_⟩
    · rw [z54 (by omega),if_pos (by omega)]
    · rw [z54 (by omega),if_pos (by omega),show 3+(j+1)=j+4 by omega]
    · rw [List.all_append,zBz (by omega)];rfl
   obtain ⟨e,t,hx,hp⟩:=zN7 hsz hrow (by omega) hN (z63 (fun w hw=>(hws w hw).1) j) hws hg (fun v=>by have:=hbd v;omega) hwl ws.length 0 (List.replicate N wo0) _ _ _ _ _ _ _ _ _ _ _ _ _ _ _ _ _ _ _ _ _ _ _ _ _ _ _ _ _ _ _ _ _ _ _ _ _ _ _ _ _ _ _ _ _ _ _ _ _ _ _ _ _ _ _ _ _ _ _ _ _ _ _ _ _ _ _ _ _ _ _ _ _ _ _ _ _ _ _ _ _ _ _ _ _ _ _ _ _ _ _ _ _ _ _ _ _ _ _ _ _ _ _ _ _ _ _ _ _ _ _ _ _ _ _ _ _ _ _ _ _ _ _ _ _ _ _ _ _ _ _ _ _ _ _ _ _ _ _ _ _ _ _ _ _ _ _ _ _ _ _ _ _ _ _ _ _ _ _ _ _ _ _ _ _ _ _ _ _ _ _ _ _ _ _ _ _ _ _ _ _ _ _ _ _ _ _ _ _ _ _ (by omega) (by simp)
   rw [List.drop_zero] at hp
   have ek:ws.foldl (z2E (kRow ws N j)) (List.replicate N wo0)=kRow ws N (j+1):=rfl
   rw [ek] at hp
   unfold zIo at hp
   obtain ⟨rfl,jp,rfl⟩:=hp
   have hpu:=zLC (R:=R) (C:=C) (gn:=gn) (G:=G) (f:=f) (ws:=ws) (N:=N) (j:=j) (k:=j+1)
   unfold rowB at hpu
   have htr:=zIZ (R:=R) (C:=C) (gn:=gn) (G:=G) (f:=f) (ws:=ws) (N:=N) (j:=j) (by omega)
   conv at hx in (Func.at _ _)=>whnf
   simp (config:={ maxSteps:=2000000 }) only [Int.natCast_zero,Int.ofNat_zero,hpu] at hx
   have ih':=ih (j+1)
   conv in (Func.at _ _)=>whnf
   rw [exec_loop]
   simp (config:={ maxSteps:=2000000 }) only [go_sem,simprocAttr,hd,dk,k0,N0,m1,Int.toNat_natCast,r1,hl,hl1,h2,hset,tg,ts,c1,z0w]
   rw [hx]
   simp (config:={ maxSteps:=2000000 }) only [go_sem,simprocAttr,wk,htr]
   exact ih' _ _ _ _ _ _ _ _ _ _ _ _ _ _ _ _ _ _ _ _ _ _ _ _ _ _ _ _ _ _ _ _ _ _ _ _ _ _ _ _ _ _ _ _ _ _ _ _ _ _ _ _ _ _ _ _ _ _ _ _ _ _ _ _ _ _ _ _ _ _ _ _ _ _ _ _ _ _ _ _ _ _ _ _ _ _ _ _ _ _ _ _ _ _ _ _ _ _ _ _ _ _ _ _ _ _ _ _ _ _ _ _ _ _ _ _ _ _ _ _ _ _ _ _ _ _ _ _ _ _ _ _ _ _ _ _ _ _ _ _ _ _ _ _ _ _ _ _ _ _ _ _ _ _ _ _ _ _ _ _ _ _ _ _ _ _ _ _ _ _ _ _ _ _ _ _ _ _ _ _ _ _ _ _ _ _ _ _ _ _ _ _ _ _ (by omega)
set_option maxRecDepth 10000
set_option maxHeartbeats 2000000
section
variable {R C gn:Nat} {G:Net} {f:Nat→Int} {ws:List Res} {N:Nat}
theorem zHG (b:Blk):(tabH R C gn G f ws N N N++[b]).length=N+5:=by rw [List.length_append,z2X];rfl
theorem zNR (b:Blk):(tabH R C gn G f ws N N N++[b])[2]?=some (.cells 0 1 false (tbV N N)):=rfl
theorem zNP {i:Nat} (h:i≤N) (b:Blk):(tabH R C gn G f ws N N N++[b])[3+i]?=some (rowB ws N i):=by
 rw [List.getElem?_append_left (by rw [z2X];omega),z6H h]
theorem zNN (b:Blk):(tabH R C gn G f ws N N N++[b])[N+4]?=some b:=by
 rw [← z2X (R:=R) (C:=C) (gn:=gn) (G:=G) (f:=f) (ws:=ws) (N:=N) (j:=N) (k:=N),List.getElem?_concat_length]
theorem zNQ (b b':Blk):(tabH R C gn G f ws N N N++[b]).set (N+4) b'=tabH R C gn G f ws N N N++[b']:=by
 rw [List.set_append_right _ _ (by rw [z2X];omega),z2X];simp
theorem zQW (b:Blk) (T:List AVal) (ro:Nat) (V:List Nat):trunc (N+4) ⟨T,tabH R C gn G f ws N N N++[b],[],ro,V⟩=⟨T.map (scrub (N+4)),tabH R C gn G f ws N N N,[],ro,V⟩:=by
 unfold trunc
 have h1:¬ (tabH R C gn G f ws N N N++[b]).length≤N+4:=by rw [zHG];omega
 have h2:(tabH R C gn G f ws N N N++[b]).take (N+4)=tabH R C gn G f ws N N N:=by
  rw [List.take_append_of_le_length (by rw [z2X];omega),List.take_of_length_le (by rw [z2X];omega)]
 simp only [h1,if_false,h2,zBz (show 3+N < N+4 by omega),List.all_nil,Bool.and_self,if_true]
end
def MinPost (R C gn:Nat) (G:Net) (f:Nat→Int) (ws:List Res) (N v:Nat) (a b c:Int) (pq:Int × Int) (e:Ex) (t:St):Prop:=e=.exit 8∧FrP 198 [(6,.int .i64 N),(7,.ref 2 0 0 (N+1) false),(13,.int .i64 a),(14,.int .i64 b),(15,.int .i64 c),(16,.int .i64 v),(17,.int .i64 pq.1),(18,.int .i64 pq.2),(120,.int .i64 N),(121,.int .i64 v)] (tabH R C gn G f ws N N N) [] 2 [] t
theorem zCX {ws:List Res} {N:Nat} (hto:∀ w ∈ ws,w.to < N) (hg:∀ w ∈ ws,-1≤w.gain∧w.gain≤1) (v:Nat):∀ n,n≤N→-(2 * N:Int)≤(kMin (kRow ws N) N v n).1∧(kMin (kRow ws N) N v n).1≤2 * N∧0≤(kMin (kRow ws N) N v n).2∧(kMin (kRow ws N) N v n).2≤N
 | 0,_=>by
   simp only [kMin,List.range_zero,List.foldl_nil]
   omega
 | n+1,hn=>by
   have ih:=zCX hto hg v n (by omega)
   rw [z9u]
   unfold zA3
   have h1:=z8H hto hg N v
   have h2:=z8H hto hg n v
   split
   · split
     · simp only;omega
     · exact ih
   · exact ih
theorem z4Z {a b:Int} {A B:Int} (ha:-A≤a∧a≤A) (hb:-B≤b∧b≤B) (hA:0≤A):-(A * B)≤a * b∧a * b≤A * B:=by
 have hB:0≤B:=by omega
 have h1:a * b≤(a.natAbs * b.natAbs:Nat):=by rw [← Int.natAbs_mul];omega
 have h2:-((a.natAbs * b.natAbs:Nat):Int)≤a * b:=by rw [← Int.natAbs_mul];omega
 have h3:((a.natAbs * b.natAbs:Nat):Int)≤A * B:=by
  rw [Int.natCast_mul]
  exact Int.mul_le_mul (by omega) (by omega) (by omega) hA
 omega
theorem zMj {R C gn:Nat} {G:Net} {f:Nat→Int} {ws:List Res} {N:Nat} (hN:N≤17) (hto:∀ w ∈ ws,w.to < N) (hg:∀ w ∈ ws,-1≤w.gain∧w.gain≤1) {v:Nat} (hv:v < N) (a b c:Int):∀ (n k:Nat) (j0 j1 j2 j3 j4 j5 j8 j9 j10 j11 j12 j19 j20 j21 j22 j23 j24 j25 j26 j27 j28 j29 j30 j31 j32 j33 j34 j35 j36 j37 j38 j39 j40 j41 j42 j43 j44 j45 j46 j47 j48 j49 j50 j51 j52 j53 j54 j55 j56 j57 j58 j59 j60 j61 j62 j63 j64 j65 j66 j67 j68 j69 j70 j71 j72 j73 j74 j75 j76 j77 j78 j79 j80 j81 j82 j83 j84 j85 j86 j87 j88 j89 j90 j91 j92 j93 j94 j95 j96 j97 j98 j99 j100 j101 j102 j103 j104 j105 j106 j107 j108 j109 j110 j111 j112 j113 j114 j115 j116 j117 j118 j119 j122 j123 j124 j125 j126 j127 j128 j129 j130 j131 j132 j135 j136 j137 j138 j139 j140 j141 j142 j143 j144 j145 j146 j147 j148 j149 j150 j151 j152 j153 j154 j155 j156 j157 j158 j159 j160 j161 j162 j163 j164 j165 j166 j167 j168 j169 j170 j171 j172 j173 j174 j175 j176 j177 j178 j179 j180 j181 j182 j183 j184 j185 j186 j187 j188 j189 j190 j191 j192 j193 j194 j195 j196 j197:AVal),k+n=N →
    Goes (execT env (Try.f137.at [1,1,1,1,1,1,1,1,0,1,0,0,1,1,0,0,1,1,1,0,1,0]) ⟨[j0,j1,j2,j3,j4,j5,.int .i64 N,.ref 2 0 0 (N+1) false,j8,j9,j10,j11,j12,.int .i64 a,.int .i64 b,.int .i64 c,.int .i64 v,.int .i64 (kMin (kRow ws N) N v k).1,.int .i64 (kMin (kRow ws N) N v k).2,j19,j20,j21,j22,j23,j24,j25,j26,j27,j28,j29,j30,j31,j32,j33,j34,j35,j36,j37,j38,j39,j40,j41,j42,j43,j44,j45,j46,j47,j48,j49,j50,j51,j52,j53,j54,j55,j56,j57,j58,j59,j60,j61,j62,j63,j64,j65,j66,j67,j68,j69,j70,j71,j72,j73,j74,j75,j76,j77,j78,j79,j80,j81,j82,j83,j84,j85,j86,j87,j88,j89,j90,j91,j92,j93,j94,j95,j96,j97,j98,j99,j100,j101,j102,j103,j104,j105,j106,j107,j108,j109,j110,j111,j112,j113,j114,j115,j116,j117,j118,j119,.int .i64 N,.int .i64 v,j122,j123,j124,j125,j126,j127,j128,j129,j130,j131,j132,.int .i64 N,.int .i64 k,j135,j136,j137,j138,j139,j140,j141,j142,j143,j144,j145,j146,j147,j148,j149,j150,j151,j152,j153,j154,j155,j156,j157,j158,j159,j160,j161,j162,j163,j164,j165,j166,j167,j168,j169,j170,j171,j172,j173,j174,j175,j176,j177,j178,j179,j180,j181,j182,j183,j184,j185,j186,j187,j188,j189,j190,j191,j192,j193,j194,j195,j196,j197],tabH R C gn G f ws N N N,[],2,[]⟩) (MinPost R C gn G f ws N v a b c (kMin (kRow ws N) N v N)):=by
 intro n
 induction n with
 | zero=>
   intro k;intros;rename_i hk
   have hd:decide ((k:Int) < (N:Int))=false:=decide_eq_false (by omega)
   have:k=N:=by omega
   subst this
   conv in (Func.at _ _)=>whnf
   rw [exec_loop]
   simp (config:={ maxSteps:=2000000 }) only [go_sem,simprocAttr,hd]
   exact ⟨rfl,frP (by kernel_rfl)⟩
 | succ n ih=>
   intro k;intros;rename_i hk
   have hkN:k < N:=by omega
   have hd:decide ((k:Int) < (N:Int))=true:=decide_eq_true (by omega)
   have dk:decide ((k:Int) < ((N+1:Nat):Int))=true:=decide_eq_true (by omega)
   have dN:decide ((N:Int) < ((N+1:Nat):Int))=true:=decide_eq_true (by omega)
   have dv:decide ((v:Int) < (N:Int))=true:=decide_eq_true (by omega)
   have k0:(0:Int)≤(k:Int):=by omega
   have N0:(0:Int)≤(N:Int):=by omega
   have v0:(0:Int)≤(v:Int):=by omega
   have hl:=z2X (R:=R) (C:=C) (gn:=gn) (G:=G) (f:=f) (ws:=ws) (N:=N) (j:=N) (k:=N)
   have h2:=z9C (R:=R) (C:=C) (gn:=gn) (G:=G) (f:=f) (ws:=ws) (N:=N) (j:=N) (k:=N)
   have h3:=z6H (R:=R) (C:=C) (gn:=gn) (G:=G) (f:=f) (ws:=ws) (N:=N) (j:=N) (k:=N) (show k≤N by omega)
   have l1:=zHG (R:=R) (C:=C) (gn:=gn) (G:=G) (f:=f) (ws:=ws) (N:=N)
   have t1:=zNR (R:=R) (C:=C) (gn:=gn) (G:=G) (f:=f) (ws:=ws) (N:=N)
   have r1:=zNP (R:=R) (C:=C) (gn:=gn) (G:=G) (f:=f) (ws:=ws) (N:=N) (Nat.le_refl N)
   have la:=zNN (R:=R) (C:=C) (gn:=gn) (G:=G) (f:=f) (ws:=ws) (N:=N)
   have se:=zNQ (R:=R) (C:=C) (gn:=gn) (G:=G) (f:=f) (ws:=ws) (N:=N)
   have cu:=zQW (R:=R) (C:=C) (gn:=gn) (G:=G) (f:=f) (ws:=ws) (N:=N)
   unfold rowB at h3 r1
   have tk:(tbV N N)[k]?=some (.ref (3+k) 0 0 N false):=by rw [z54 (by omega),if_pos (by omega)]
   have tN:(tbV N N)[N]?=some (.ref (3+N) 0 0 N false):=by rw [z54 (by omega),if_pos (by omega)]
   have gk:=z5C (l:=kRow ws N k) (i:=v) (by rw [z63 hto];exact hv)
   have gN:=z5C (l:=kRow ws N N) (i:=v) (by rw [z63 hto];exact hv)
   have c1:(N+4 < N+5)=True:=eq_true (by omega)
   have c2:(2 < N+5)=True:=eq_true (by omega)
   have c3:(3+N < N+5)=True:=eq_true (by omega)
   have c4:(2≤N+4)=True:=eq_true (by omega)
   have c5:(2 < N+4)=True:=eq_true (by omega)
   have c6:(3+k < N+4)=True:=eq_true (by omega)
   have c7:(3+N < N+4)=True:=eq_true (by omega)
   have bN:=z8H hto hg N v
   have bk:=z8H hto hg k v
   have bm:=zCX hto hg v k (by omega)
   have wd:IntKind.i64.wrap (((kRow ws N N).getD v wo0).gain - ((kRow ws N k).getD v wo0).gain)=((kRow ws N N).getD v wo0).gain - ((kRow ws N k).getD v wo0).gain:=i64_in _ (by omega)
   have wm:IntKind.i64.wrap ((N:Int) - k)=(N:Int) - k:=i64_in _ (by omega)
   have e:=z9u (kRow ws N) N v k
   have ih':=ih (k+1)
   rw [e] at ih'
   generalize kMin (kRow ws N) N v k=pq at bm ih'
   have m1:=z4Z (a:=((kRow ws N N).getD v wo0).gain - ((kRow ws N k).getD v wo0).gain) (b:=pq.2) (A:=34) (B:=17) (by omega) (by omega) (by decide)
   have m2:=z4Z (a:=pq.1) (b:=(N:Int) - k) (A:=34) (B:=17) (by omega) (by omega) (by decide)
   have w1:IntKind.i64.wrap ((((kRow ws N N).getD v wo0).gain - ((kRow ws N k).getD v wo0).gain) * pq.2)=(((kRow ws N N).getD v wo0).gain - ((kRow ws N k).getD v wo0).gain) * pq.2:=i64_in _ (by omega)
   have w2:IntKind.i64.wrap (pq.1 * ((N:Int) - k))=pq.1 * ((N:Int) - k):=i64_in _ (by omega)
   unfold zA3 at ih'
   conv in (Func.at _ _)=>whnf
   rw [exec_loop]
   cases ht:((kRow ws N k).getD v wo0).there with
   | false=>
     rw [ht] at ih'
     simp only [Bool.false_eq_true,if_false] at ih'
     simp (config:={ maxSteps:=2000000 }) only [go_sem,simprocAttr,hd,dk,dv,k0,v0,Int.toNat_natCast,hl,l1,h2,h3,la,se,tk,gk,ht,c1,c4,c5,c6,c7,cu,List.map_cons,List.map_nil,z00 (show k < 2 ^ 63 - 1 by omega)]
     exact ih' _ _ _ _ _ _ _ _ _ _ _ _ _ _ _ _ _ _ _ _ _ _ _ _ _ _ _ _ _ _ _ _ _ _ _ _ _ _ _ _ _ _ _ _ _ _ _ _ _ _ _ _ _ _ _ _ _ _ _ _ _ _ _ _ _ _ _ _ _ _ _ _ _ _ _ _ _ _ _ _ _ _ _ _ _ _ _ _ _ _ _ _ _ _ _ _ _ _ _ _ _ _ _ _ _ _ _ _ _ _ _ _ _ _ _ _ _ _ _ _ _ _ _ _ _ _ _ _ _ _ _ _ _ _ _ _ _ _ _ _ _ _ _ _ _ _ _ _ _ _ _ _ _ _ _ _ _ _ _ _ _ _ _ _ _ _ _ _ _ _ _ _ _ _ _ _ _ _ _ _ _ _ _ _ _ _ (by omega)
   | true=>
     rw [ht] at ih'
     simp only [if_true] at ih'
     cases hq:decide (pq.2=0) with
     | true=>
       rw [if_pos (.inl (of_decide_eq_true hq))] at ih'
       simp (config:={ maxSteps:=2000000 }) only [go_sem,simprocAttr,hd,dk,dN,dv,k0,N0,v0,Int.toNat_natCast,hl,l1,h2,h3,t1,r1,la,se,tk,tN,gk,gN,ht,hq,wd,wm,c1,c2,c3,c4,c5,c6,c7,cu,List.map_cons,List.map_nil,z00 (show k < 2 ^ 63 - 1 by omega)]
       exact ih' _ _ _ _ _ _ _ _ _ _ _ _ _ _ _ _ _ _ _ _ _ _ _ _ _ _ _ _ _ _ _ _ _ _ _ _ _ _ _ _ _ _ _ _ _ _ _ _ _ _ _ _ _ _ _ _ _ _ _ _ _ _ _ _ _ _ _ _ _ _ _ _ _ _ _ _ _ _ _ _ _ _ _ _ _ _ _ _ _ _ _ _ _ _ _ _ _ _ _ _ _ _ _ _ _ _ _ _ _ _ _ _ _ _ _ _ _ _ _ _ _ _ _ _ _ _ _ _ _ _ _ _ _ _ _ _ _ _ _ _ _ _ _ _ _ _ _ _ _ _ _ _ _ _ _ _ _ _ _ _ _ _ _ _ _ _ _ _ _ _ _ _ _ _ _ _ _ _ _ _ _ _ _ _ _ _ (by omega)
     | false=>
       have hq':=of_decide_eq_false hq
       cases hz:decide ((((kRow ws N N).getD v wo0).gain - ((kRow ws N k).getD v wo0).gain) * pq.2 < pq.1 * ((N:Int) - k)) with
       | true=>
         rw [if_pos (.inr (of_decide_eq_true hz))] at ih'
         simp (config:={ maxSteps:=2000000 }) only [go_sem,simprocAttr,hd,dk,dN,dv,k0,N0,v0,Int.toNat_natCast,hl,l1,h2,h3,t1,r1,la,se,tk,tN,gk,gN,ht,hq,hz,wd,wm,w1,w2,c1,c2,c3,c4,c5,c6,c7,cu,List.map_cons,List.map_nil,z00 (show k < 2 ^ 63 - 1 by omega)]
         exact ih' _ _ _ _ _ _ _ _ _ _ _ _ _ _ _ _ _ _ _ _ _ _ _ _ _ _ _ _ _ _ _ _ _ _ _ _ _ _ _ _ _ _ _ _ _ _ _ _ _ _ _ _ _ _ _ _ _ _ _ _ _ _ _ _ _ _ _ _ _ _ _ _ _ _ _ _ _ _ _ _ _ _ _ _ _ _ _ _ _ _ _ _ _ _ _ _ _ _ _ _ _ _ _ _ _ _ _ _ _ _ _ _ _ _ _ _ _ _ _ _ _ _ _ _ _ _ _ _ _ _ _ _ _ _ _ _ _ _ _ _ _ _ _ _ _ _ _ _ _ _ _ _ _ _ _ _ _ _ _ _ _ _ _ _ _ _ _ _ _ _ _ _ _ _ _ _ _ _ _ _ _ _ _ _ _ _ (by omega)
       | false=>
         rw [if_neg (fun h=>h.elim hq' (of_decide_eq_false hz))] at ih'
         simp (config:={ maxSteps:=2000000 }) only [go_sem,simprocAttr,hd,dk,dN,dv,k0,N0,v0,Int.toNat_natCast,hl,l1,h2,h3,t1,r1,la,se,tk,tN,gk,gN,ht,hq,hz,wd,wm,w1,w2,c1,c2,c3,c4,c5,c6,c7,cu,List.map_cons,List.map_nil,z00 (show k < 2 ^ 63 - 1 by omega)]
         exact ih' _ _ _ _ _ _ _ _ _ _ _ _ _ _ _ _ _ _ _ _ _ _ _ _ _ _ _ _ _ _ _ _ _ _ _ _ _ _ _ _ _ _ _ _ _ _ _ _ _ _ _ _ _ _ _ _ _ _ _ _ _ _ _ _ _ _ _ _ _ _ _ _ _ _ _ _ _ _ _ _ _ _ _ _ _ _ _ _ _ _ _ _ _ _ _ _ _ _ _ _ _ _ _ _ _ _ _ _ _ _ _ _ _ _ _ _ _ _ _ _ _ _ _ _ _ _ _ _ _ _ _ _ _ _ _ _ _ _ _ _ _ _ _ _ _ _ _ _ _ _ _ _ _ _ _ _ _ _ _ _ _ _ _ _ _ _ _ _ _ _ _ _ _ _ _ _ _ _ _ _ _ _ _ _ _ _ (by omega)
set_option maxRecDepth 10000
set_option maxHeartbeats 2000000
def zGA (R C gn:Nat) (G:Net) (f:Nat→Int) (ws:List Res) (N:Nat) (x:Int × Int × Int) (e:Ex) (t:St):Prop:=e=.exit 6∧FrP 198 [(7,.ref 2 0 0 (N+1) false),(13,.int .i64 x.1),(14,.int .i64 x.2.1)] (tabH R C gn G f ws N N N) [] 2 [] t
theorem zGm {ws:List Res} {N:Nat} (hto:∀ w ∈ ws,w.to < N) (hg:∀ w ∈ ws,-1≤w.gain∧w.gain≤1):∀ n,n≤N→-(2 * N:Int)≤(z3K (kRow ws N) N n).2.1∧(z3K (kRow ws N) N n).2.1≤2 * N∧0≤(z3K (kRow ws N) N n).2.2∧(z3K (kRow ws N) N n).2.2≤N+1
 | 0,_=>by
   simp only [z3K,List.range_zero,List.foldl_nil]
   omega
 | n+1,hn=>by
   have ih:=zGm hto hg n (by omega)
   have h1:=zCX hto hg n N (Nat.le_refl _)
   rw [z8G]
   unfold z71
   split
   · split
     · simp only;omega
     · exact ih
   · exact ih
theorem zJ5 {R C gn:Nat} {G:Net} {f:Nat→Int} {ws:List Res} {N:Nat} (hN:N≤17) (hto:∀ w ∈ ws,w.to < N) (hg:∀ w ∈ ws,-1≤w.gain∧w.gain≤1):∀ (n v:Nat) (j0 j1 j2 j3 j4 j5 j8 j9 j10 j11 j12 j16 j17 j18 j19 j20 j21 j22 j23 j24 j25 j26 j27 j28 j29 j30 j31 j32 j33 j34 j35 j36 j37 j38 j39 j40 j41 j42 j43 j44 j45 j46 j47 j48 j49 j50 j51 j52 j53 j54 j55 j56 j57 j58 j59 j60 j61 j62 j63 j64 j65 j66 j67 j68 j69 j70 j71 j72 j73 j74 j75 j76 j77 j78 j79 j80 j81 j82 j83 j84 j85 j86 j87 j88 j89 j90 j91 j92 j93 j94 j95 j96 j97 j98 j99 j100 j101 j102 j103 j104 j105 j106 j107 j108 j109 j110 j111 j112 j113 j114 j115 j116 j117 j118 j119 j122 j123 j124 j125 j126 j127 j128 j129 j130 j131 j132 j133 j134 j135 j136 j137 j138 j139 j140 j141 j142 j143 j144 j145 j146 j147 j148 j149 j150 j151 j152 j153 j154 j155 j156 j157 j158 j159 j160 j161 j162 j163 j164 j165 j166 j167 j168 j169 j170 j171 j172 j173 j174 j175 j176 j177 j178 j179 j180 j181 j182 j183 j184 j185 j186 j187 j188 j189 j190 j191 j192 j193 j194 j195 j196 j197:AVal),v+n=N →
    Goes (execT env (Try.f137.at [1,1,1,1,1,1,1,1,0,1,0]) ⟨[j0,j1,j2,j3,j4,j5,.int .i64 N,.ref 2 0 0 (N+1) false,j8,j9,j10,j11,j12,.int .i64 (z3K (kRow ws N) N v).1,.int .i64 (z3K (kRow ws N) N v).2.1,.int .i64 (z3K (kRow ws N) N v).2.2,j16,j17,j18,j19,j20,j21,j22,j23,j24,j25,j26,j27,j28,j29,j30,j31,j32,j33,j34,j35,j36,j37,j38,j39,j40,j41,j42,j43,j44,j45,j46,j47,j48,j49,j50,j51,j52,j53,j54,j55,j56,j57,j58,j59,j60,j61,j62,j63,j64,j65,j66,j67,j68,j69,j70,j71,j72,j73,j74,j75,j76,j77,j78,j79,j80,j81,j82,j83,j84,j85,j86,j87,j88,j89,j90,j91,j92,j93,j94,j95,j96,j97,j98,j99,j100,j101,j102,j103,j104,j105,j106,j107,j108,j109,j110,j111,j112,j113,j114,j115,j116,j117,j118,j119,.int .i64 N,.int .i64 v,j122,j123,j124,j125,j126,j127,j128,j129,j130,j131,j132,j133,j134,j135,j136,j137,j138,j139,j140,j141,j142,j143,j144,j145,j146,j147,j148,j149,j150,j151,j152,j153,j154,j155,j156,j157,j158,j159,j160,j161,j162,j163,j164,j165,j166,j167,j168,j169,j170,j171,j172,j173,j174,j175,j176,j177,j178,j179,j180,j181,j182,j183,j184,j185,j186,j187,j188,j189,j190,j191,j192,j193,j194,j195,j196,j197],tabH R C gn G f ws N N N,[],2,[]⟩) (zGA R C gn G f ws N (z3K (kRow ws N) N N)):=by
 intro n
 induction n with
 | zero=>
   intro v;intros;rename_i hk
   have hd:decide ((v:Int) < (N:Int))=false:=decide_eq_false (by omega)
   have:v=N:=by omega
   subst this
   conv in (Func.at _ _)=>whnf
   rw [exec_loop]
   simp (config:={ maxSteps:=2000000 }) only [go_sem,simprocAttr,hd]
   exact ⟨rfl,frP (by kernel_rfl)⟩
 | succ n ih=>
   intro v;intros;rename_i hk
   have hv:v < N:=by omega
   have hd:decide ((v:Int) < (N:Int))=true:=decide_eq_true (by omega)
   have dN:decide ((N:Int) < ((N+1:Nat):Int))=true:=decide_eq_true (by omega)
   have N0:(0:Int)≤(N:Int):=by omega
   have v0:(0:Int)≤(v:Int):=by omega
   have h2:=z9C (R:=R) (C:=C) (gn:=gn) (G:=G) (f:=f) (ws:=ws) (N:=N) (j:=N) (k:=N)
   have h3:=z6H (R:=R) (C:=C) (gn:=gn) (G:=G) (f:=f) (ws:=ws) (N:=N) (j:=N) (k:=N) (Nat.le_refl N)
   unfold rowB at h3
   have tN:(tbV N N)[N]?=some (.ref (3+N) 0 0 N false):=by rw [z54 (by omega),if_pos (by omega)]
   have gN:=z5C (l:=kRow ws N N) (i:=v) (by rw [z63 hto];exact hv)
   have bb:=zGm hto hg v (by omega)
   have bm:=zCX hto hg v N (Nat.le_refl _)
   have e:=z8G (kRow ws N) N v
   have ih':=ih (v+1)
   rw [e] at ih'
   generalize z3K (kRow ws N) N v=x at bb ih'
   unfold z71 at ih'
   cases ht:((kRow ws N N).getD v wo0).there with
   | false=>
     rw [ht] at ih'
     simp only [Bool.false_eq_true,if_false] at ih'
     conv in (Func.at _ _)=>whnf
     rw [exec_loop]
     simp (config:={ maxSteps:=2000000 }) only [go_sem,simprocAttr,hd,dN,N0,v0,Int.toNat_natCast,h2,h3,tN,gN,ht,z00 (show v < 2 ^ 63 - 1 by omega)]
     exact ih' _ _ _ _ _ _ _ _ _ _ _ _ _ _ _ _ _ _ _ _ _ _ _ _ _ _ _ _ _ _ _ _ _ _ _ _ _ _ _ _ _ _ _ _ _ _ _ _ _ _ _ _ _ _ _ _ _ _ _ _ _ _ _ _ _ _ _ _ _ _ _ _ _ _ _ _ _ _ _ _ _ _ _ _ _ _ _ _ _ _ _ _ _ _ _ _ _ _ _ _ _ _ _ _ _ _ _ _ _ _ _ _ _ _ _ _ _ _ _ _ _ _ _ _ _ _ _ _ _ _ _ _ _ _ _ _ _ _ _ _ _ _ _ _ _ _ _ _ _ _ _ _ _ _ _ _ _ _ _ _ _ _ _ _ _ _ _ _ _ _ _ _ _ _ _ _ _ _ _ _ _ _ _ _ _ _ _ _ _ _ _ (by omega)
   | true=>
     rw [ht] at ih'
     simp only [if_true] at ih'
     have m1:=z4Z (a:=(kMin (kRow ws N) N v N).1) (b:=x.2.2) (A:=34) (B:=18) (by omega) (by omega) (by decide)
     have m2:=z4Z (a:=x.2.1) (b:=(kMin (kRow ws N) N v N).2) (A:=34) (B:=17) (by omega) (by omega) (by decide)
     have w1:IntKind.i64.wrap ((kMin (kRow ws N) N v N).1 * x.2.2)=(kMin (kRow ws N) N v N).1 * x.2.2:=i64_in _ (by omega)
     have w2:IntKind.i64.wrap (x.2.1 * (kMin (kRow ws N) N v N).2)=x.2.1 * (kMin (kRow ws N) N v N).2:=i64_in _ (by omega)
     obtain ⟨e',t,hx,hp⟩:=zMj (R:=R) (C:=C) (gn:=gn) (G:=G) (f:=f) hN hto hg hv x.1 x.2.1 x.2.2 N 0 _ _ _ _ _ _ _ _ _ _ _ _ _ _ _ _ _ _ _ _ _ _ _ _ _ _ _ _ _ _ _ _ _ _ _ _ _ _ _ _ _ _ _ _ _ _ _ _ _ _ _ _ _ _ _ _ _ _ _ _ _ _ _ _ _ _ _ _ _ _ _ _ _ _ _ _ _ _ _ _ _ _ _ _ _ _ _ _ _ _ _ _ _ _ _ _ _ _ _ _ _ _ _ _ _ _ _ _ _ _ _ _ _ _ _ _ _ _ _ _ _ _ _ _ _ _ _ _ _ _ _ _ _ _ _ _ _ _ _ _ _ _ _ _ _ _ _ _ _ _ _ _ _ _ _ _ _ _ _ _ _ _ _ _ _ _ _ _ _ _ _ _ _ _ _ _ _ _ _ _ _ _ _ _ _ _ (by omega)
     unfold MinPost at hp
     obtain ⟨rfl,jp,rfl⟩:=hp
     conv at hx in (Func.at _ _)=>whnf
     have k0:kMin (kRow ws N) N v 0=(0,0):=rfl
     simp (config:={ maxSteps:=2000000 }) only [k0,Int.natCast_zero,Int.ofNat_zero] at hx
     conv in (Func.at _ _)=>whnf
     rw [exec_loop]
     simp (config:={ maxSteps:=2000000 }) only [go_sem,simprocAttr,hd,dN,N0,v0,Int.toNat_natCast,h2,h3,tN,gN,ht]
     rw [hx]
     generalize kMin (kRow ws N) N v N=y at m1 m2 w1 w2 ih'
     cases hq:decide (x.1 < 0) with
     | true=>
       rw [if_pos (.inl (of_decide_eq_true hq))] at ih'
       simp (config:={ maxSteps:=2000000 }) only [go_sem,simprocAttr,hq,z00 (show v < 2 ^ 63 - 1 by omega)]
       exact ih' _ _ _ _ _ _ _ _ _ _ _ _ _ _ _ _ _ _ _ _ _ _ _ _ _ _ _ _ _ _ _ _ _ _ _ _ _ _ _ _ _ _ _ _ _ _ _ _ _ _ _ _ _ _ _ _ _ _ _ _ _ _ _ _ _ _ _ _ _ _ _ _ _ _ _ _ _ _ _ _ _ _ _ _ _ _ _ _ _ _ _ _ _ _ _ _ _ _ _ _ _ _ _ _ _ _ _ _ _ _ _ _ _ _ _ _ _ _ _ _ _ _ _ _ _ _ _ _ _ _ _ _ _ _ _ _ _ _ _ _ _ _ _ _ _ _ _ _ _ _ _ _ _ _ _ _ _ _ _ _ _ _ _ _ _ _ _ _ _ _ _ _ _ _ _ _ _ _ _ _ _ _ _ _ _ _ _ _ _ _ _ (by omega)
     | false=>
       have hq':=of_decide_eq_false hq
       cases hz:decide (x.2.1 * y.2 < y.1 * x.2.2) with
       | true=>
         rw [if_pos (.inr (of_decide_eq_true hz))] at ih'
         simp (config:={ maxSteps:=2000000 }) only [go_sem,simprocAttr,hq,hz,w1,w2,z00 (show v < 2 ^ 63 - 1 by omega)]
         exact ih' _ _ _ _ _ _ _ _ _ _ _ _ _ _ _ _ _ _ _ _ _ _ _ _ _ _ _ _ _ _ _ _ _ _ _ _ _ _ _ _ _ _ _ _ _ _ _ _ _ _ _ _ _ _ _ _ _ _ _ _ _ _ _ _ _ _ _ _ _ _ _ _ _ _ _ _ _ _ _ _ _ _ _ _ _ _ _ _ _ _ _ _ _ _ _ _ _ _ _ _ _ _ _ _ _ _ _ _ _ _ _ _ _ _ _ _ _ _ _ _ _ _ _ _ _ _ _ _ _ _ _ _ _ _ _ _ _ _ _ _ _ _ _ _ _ _ _ _ _ _ _ _ _ _ _ _ _ _ _ _ _ _ _ _ _ _ _ _ _ _ _ _ _ _ _ _ _ _ _ _ _ _ _ _ _ _ _ _ _ _ _ (by omega)
       | false=>
         rw [if_neg (fun h=>h.elim hq' (of_decide_eq_false hz))] at ih'
         simp (config:={ maxSteps:=2000000 }) only [go_sem,simprocAttr,hq,hz,w1,w2,z00 (show v < 2 ^ 63 - 1 by omega)]
         exact ih' _ _ _ _ _ _ _ _ _ _ _ _ _ _ _ _ _ _ _ _ _ _ _ _ _ _ _ _ _ _ _ _ _ _ _ _ _ _ _ _ _ _ _ _ _ _ _ _ _ _ _ _ _ _ _ _ _ _ _ _ _ _ _ _ _ _ _ _ _ _ _ _ _ _ _ _ _ _ _ _ _ _ _ _ _ _ _ _ _ _ _ _ _ _ _ _ _ _ _ _ _ _ _ _ _ _ _ _ _ _ _ _ _ _ _ _ _ _ _ _ _ _ _ _ _ _ _ _ _ _ _ _ _ _ _ _ _ _ _ _ _ _ _ _ _ _ _ _ _ _ _ _ _ _ _ _ _ _ _ _ _ _ _ _ _ _ _ _ _ _ _ _ _ _ _ _ _ _ _ _ _ _ _ _ _ _ _ _ _ _ _ (by omega)
def zNi (R C gn sz:Nat) (G:Net) (f:Nat→Int) (ws:List Res) (N:Nat) (e:Ex) (t:St):Prop:=e=.exit 0∧FrP 198 [(5,.lit false sz (z0P ws)),(6,.int .i64 N),(7,.ref 2 0 0 (N+1) false)] (tabH R C gn G f ws N 0 0) [] 2 [] t
def stV (N i:Nat):List Wo:=vecA N fun k=>if k < i then ⟨true,0,default⟩ else wo0
theorem zOw {R C gn sz:Nat} {G:Net} {f:Nat→Int} {ws:List Res} {N:Nat} (hN:N≤17):∀ (n i:Nat) (j0 j1 j2 j3 j4 j8 j9 j10 j11 j12 j13 j14 j15 j16 j17 j18 j19 j20 j21 j22 j23 j24 j25 j26 j27 j28 j29 j30 j31 j32 j33 j34 j35 j36 j37 j40 j41 j42 j43 j44 j45 j46 j47 j48 j49 j50 j51 j52 j53 j54 j55 j56 j57 j58 j59 j60 j61 j62 j63 j64 j65 j66 j67 j68 j69 j70 j71 j72 j73 j74 j75 j76 j77 j78 j79 j80 j81 j82 j83 j84 j85 j86 j87 j88 j89 j90 j91 j92 j93 j94 j95 j96 j97 j98 j99 j100 j101 j102 j103 j104 j105 j106 j107 j108 j109 j110 j111 j112 j113 j114 j115 j116 j117 j118 j119 j120 j121 j122 j123 j124 j125 j126 j127 j128 j129 j130 j131 j132 j133 j134 j135 j136 j137 j138 j139 j140 j141 j142 j143 j144 j145 j146 j147 j148 j149 j150 j151 j152 j153 j154 j155 j156 j157 j158 j159 j160 j161 j162 j163 j164 j165 j166 j167 j168 j169 j170 j171 j172 j173 j174 j175 j176 j177 j178 j179 j180 j181 j182 j183 j184 j185 j186 j187 j188 j189 j190 j191 j192 j193 j194 j195 j196 j197:AVal),i+n=N →
    Goes (execT env (Try.f137.at [1,1,1,1,1,0,1,0]) ⟨[j0,j1,j2,j3,j4,.lit false sz (z0P ws),.int .i64 N,.ref 2 0 0 (N+1) false,j8,j9,j10,j11,j12,j13,j14,j15,j16,j17,j18,j19,j20,j21,j22,j23,j24,j25,j26,j27,j28,j29,j30,j31,j32,j33,j34,j35,j36,j37,.int .i64 N,.int .i64 i,j40,j41,j42,j43,j44,j45,j46,j47,j48,j49,j50,j51,j52,j53,j54,j55,j56,j57,j58,j59,j60,j61,j62,j63,j64,j65,j66,j67,j68,j69,j70,j71,j72,j73,j74,j75,j76,j77,j78,j79,j80,j81,j82,j83,j84,j85,j86,j87,j88,j89,j90,j91,j92,j93,j94,j95,j96,j97,j98,j99,j100,j101,j102,j103,j104,j105,j106,j107,j108,j109,j110,j111,j112,j113,j114,j115,j116,j117,j118,j119,j120,j121,j122,j123,j124,j125,j126,j127,j128,j129,j130,j131,j132,j133,j134,j135,j136,j137,j138,j139,j140,j141,j142,j143,j144,j145,j146,j147,j148,j149,j150,j151,j152,j153,j154,j155,j156,j157,j158,j159,j160,j161,j162,j163,j164,j165,j166,j167,j168,j169,j170,j171,j172,j173,j174,j175,j176,j177,j178,j179,j180,j181,j182,j183,j184,j185,j186,j187,j188,j189,j190,j191,j192,j193,j194,j195,j196,j197],[netB R C 1 gn G.n,arcB gn G f,.cells 0 1 false (tbV N 0),.cells 0 8 true (wosV (stV N i))],[],2,[]⟩) (zNi R C gn sz G f ws N):=by
 intro n
 induction n with
 | zero=>
   intro i;intros;rename_i hk
   have hd:decide ((i:Int) < (N:Int))=false:=decide_eq_false (by omega)
   have:i=N:=by omega
   subst this
   have e1:stV i i=kRow ws i 0:=by
    show _=List.replicate i (⟨true,0,default⟩:Wo)
    rw [z24]
    exact z1D fun k hk=>if_pos hk
   have e2:[netB R C 1 gn G.n,arcB gn G f,.cells 0 1 false (tbV i 0),.cells 0 8 true (wosV (stV i i))]=tabH R C gn G f ws i 0 0:=by rw [e1];rfl
   rw [e2]
   conv in (Func.at _ _)=>whnf
   rw [exec_loop]
   simp (config:={ maxSteps:=2000000 }) only [go_sem,simprocAttr,hd]
   exact ⟨rfl,frP (by kernel_rfl)⟩
 | succ n ih=>
   intro i;intros;rename_i hk
   have hd:decide ((i:Int) < (N:Int))=true:=decide_eq_true (by omega)
   have d0:decide ((0:Int) < ((N+1:Nat):Int))=true:=decide_eq_true (by omega)
   have i0:(0:Int)≤(i:Int):=by omega
   have t0:(tbV N 0)[0]?=some (.ref 3 0 0 N false):=by rw [z54 (Nat.zero_le _),if_pos (Nat.le_refl _)]
   have gs:=z5C (l:=stV N i) (i:=i) (by simp [stV,z0E];omega)
   have eg:(stV N i).getD i wo0=wo0:=by
    unfold stV
    rw [getD_some (vecA_get _ (by omega)),if_neg (by omega)]
   rw [eg] at gs
   have es:(wosV (stV N i)).set i (woV ⟨true,0,default⟩)=wosV (stV N (i+1)):=by
    rw [zDA]
    congr 1
    unfold stV
    rw [z7u]
    refine z1D fun k _=>?_
    by_cases h:k=i
    · rw [if_pos h,if_pos (by omega)]
    · rw [if_neg h]
      by_cases h2:k < i
      · rw [if_pos h2,if_pos (by omega)]
      · rw [if_neg h2,if_neg (by omega)]
   have ew:woV { wo0 with there:=true }=woV ⟨true,0,default⟩:=rfl
   have ih':=ih (i+1)
   conv in (Func.at _ _)=>whnf
   rw [exec_loop]
   simp (config:={ maxSteps:=2000000 }) only [go_sem,simprocAttr,hd,d0,i0,Int.toNat_natCast,t0,gs,ew,es,z00 (show i < 2 ^ 63 - 1 by omega)]
   exact ih' _ _ _ _ _ _ _ _ _ _ _ _ _ _ _ _ _ _ _ _ _ _ _ _ _ _ _ _ _ _ _ _ _ _ _ _ _ _ _ _ _ _ _ _ _ _ _ _ _ _ _ _ _ _ _ _ _ _ _ _ _ _ _ _ _ _ _ _ _ _ _ _ _ _ _ _ _ _ _ _ _ _ _ _ _ _ _ _ _ _ _ _ _ _ _ _ _ _ _ _ _ _ _ _ _ _ _ _ _ _ _ _ _ _ _ _ _ _ _ _ _ _ _ _ _ _ _ _ _ _ _ _ _ _ _ _ _ _ _ _ _ _ _ _ _ _ _ _ _ _ _ _ _ _ _ _ _ _ _ _ _ _ _ _ _ _ _ _ _ _ _ _ _ _ _ _ _ _ _ _ _ _ _ _ _ _ _ _ _ _ _ _ _ (by omega)
set_option maxRecDepth 10000
set_option maxHeartbeats 2000000
def tabL (ws:List Res) (N:Nat):List AVal:=vecA (N+1) fun i=>.lit false 8 (wosV (kRow ws N i))
theorem zNM {ws:List Res} {N i:Nat} (h:i≤N):(tabL ws N)[i]?=some (.lit false 8 (wosV (kRow ws N i))):=vecA_get _ (by omega)
def zGF (ws:List Res) (l:List Res) (e:Ex) (t:St):Prop:=e=.exit 0∧∃ (g:Nat),FrP 101 [(5,.ref 0 (accG g (z0P l)) 0 (z0P l).length false)] [accB 6 g (z0P l)] [] 0 [5] t
theorem zLL {ws:List Res} {N:Nat} (hN:N≤17) (hto:∀ w ∈ ws,w.to < N) (hst:∀ k v,((kRow ws N k).getD v wo0).last.start < N):∀ (k v g:Nat) (acc:List Res) (j2 j3 j4 j7 j8 j9 j10 j11 j12 j13 j14 j15 j16 j17 j18 j19 j20 j21 j22 j23 j24 j25 j26 j27 j28 j29 j30 j31 j32 j33 j34 j35 j36 j37 j38 j39 j40 j41 j42 j43 j44 j45 j46 j47 j48 j49 j50 j51 j52 j53 j54 j55 j56 j57 j58 j59 j60 j61 j62 j63 j64 j65 j66 j67 j68 j69 j70 j71 j72 j73 j74 j75 j76 j77 j78 j79 j80 j81 j82 j83 j84 j85 j86 j87 j88 j89 j90 j91 j92 j93 j94 j95 j96 j97 j98 j99 j100:AVal),k≤N→v < N→acc.length+k≤100 →
    Goes (execT env (Try.f146.at [1,1,0,1,0]) ⟨[.lit false 1 (tabL ws N),.int .i64 v,j2,j3,j4,.ref 0 (accG g (z0P acc)) 0 (z0P acc).length false,.int .i64 k,j7,j8,j9,j10,j11,j12,j13,j14,j15,j16,j17,j18,j19,j20,j21,j22,j23,j24,j25,j26,j27,j28,j29,j30,j31,j32,j33,j34,j35,j36,j37,j38,j39,j40,j41,j42,j43,j44,j45,j46,j47,j48,j49,j50,j51,j52,j53,j54,j55,j56,j57,j58,j59,j60,j61,j62,j63,j64,j65,j66,j67,j68,j69,j70,j71,j72,j73,j74,j75,j76,j77,j78,j79,j80,j81,j82,j83,j84,j85,j86,j87,j88,j89,j90,j91,j92,j93,j94,j95,j96,j97,j98,j99,j100],[accB 6 g (z0P acc)],[],0,[5]⟩) (zGF ws (acc++walkS (kRow ws N) k v)):=by
 intro k
 induction k with
 | zero=>
   intro v g acc;intros;rename_i _ _ _
   conv in (Func.at _ _)=>whnf
   rw [exec_loop]
   simp only [go_sem,simprocAttr,Int.natCast_zero,Int.ofNat_zero,Int.lt_irrefl,decide_false,walkS,List.append_nil]
   exact ⟨rfl,g,frP (by kernel_rfl)⟩
 | succ k ih=>
   intro v g acc;intros;rename_i hk hv hacc
   have hd:decide ((0:Int) < ((k+1:Nat):Int))=true:=decide_eq_true (by omega)
   have k0:(0:Int)≤((k+1:Nat):Int):=by omega
   have v0:(0:Int)≤(v:Int):=by omega
   have tg:=zNM (ws:=ws) hk
   have gw:=z5C (l:=kRow ws N (k+1)) (i:=v) (by rw [z63 hto];exact hv)
   have wk:IntKind.i64.wrap (((k+1:Nat):Int) - 1)=(k:Int):=by rw [i64_in _ (by omega)];omega
   generalize hw:((kRow ws N (k+1)).getD v wo0)=x at gw
   have hs:x.last.start < N:=by rw [← hw];exact hst _ _
   obtain ⟨g1,a1⟩:=z4N (H:=[accB 6 g (z0P acc),.cells 0 6 true [resV x.last]]) (id:=0) (cl:=true) (v:=resV x.last) rfl rfl (by rw [z0w];omega) 2 (ro:=0) (by decide)
   have e1:z0P acc++[resV x.last]=z0P (acc++[x.last]):=by simp [z0P]
   rw [e1] at a1
   have e2:acc++walkS (kRow ws N) (k+1) v=(acc++[x.last])++walkS (kRow ws N) k x.last.start:=by simp only [walkS,hw];simp
   rw [e2]
   have ih':=ih x.last.start g1 (acc++[x.last])
   conv in (Func.at _ _)=>whnf
   rw [exec_loop]
   simp only [go_sem,simprocAttr,hd,k0,v0,Int.toNat_natCast,tg,gw,a1,wk,trunc,List.map_cons,List.map_nil]
   exact ih' _ _ _ _ _ _ _ _ _ _ _ _ _ _ _ _ _ _ _ _ _ _ _ _ _ _ _ _ _ _ _ _ _ _ _ _ _ _ _ _ _ _ _ _ _ _ _ _ _ _ _ _ _ _ _ _ _ _ _ _ _ _ _ _ _ _ _ _ _ _ _ _ _ _ _ _ _ _ _ _ _ _ _ _ _ _ _ _ _ _ _ _ _ _ _ _ _ (by omega) hs (by simp;omega)
def mapE (seen:List Nat):List (AVal × AVal):=seen.reverse.map fun (v:Nat)=>(.int .i64 (v:Int),.bool true)
theorem z6h (k:Nat):∀ (l:List Nat) (n:Nat),(k ∈ l→∃ i,findKey (.int .i64 (k:Int)) (l.map fun (v:Nat)=>(AVal.int .i64 (v:Int),AVal.bool true)) n=some (some (i,.bool true)))∧(k ∉ l→findKey (.int .i64 (k:Int)) (l.map fun (v:Nat)=>(AVal.int .i64 (v:Int),AVal.bool true)) n=some none)
 | [],n=>⟨by simp,fun _=>rfl⟩
 | x :: l,n=>by
   have ih:=z6h k l (n+1)
   by_cases h:k=x
   · subst h
     refine ⟨fun _=>⟨n,by simp [findKey,eqv]⟩,fun h=>by simp at h⟩
   · have hd:decide ((k:Int)=(x:Int))=false:=decide_eq_false (by omega)
     refine ⟨fun hm=>?_,fun hm=>?_⟩
     · obtain ⟨i,hi⟩:=ih.1 ((List.mem_cons.1 hm).resolve_left h)
       exact ⟨i,by simp only [List.map_cons,findKey,eqv,if_true,hd];exact hi⟩
     · simp only [List.map_cons,findKey,eqv,if_true,hd]
       exact ih.2 fun h=>hm (by simp [h])
theorem zDe {seen:List Nat} {k:Nat}:(seen.contains k=true→∃ i,findKey (.int .i64 (k:Int)) (mapE seen) 0=some (some (i,.bool true)))∧(seen.contains k=false→findKey (.int .i64 (k:Int)) (mapE seen) 0=some none):=
 ⟨fun h=>(z6h k seen.reverse 0).1 (by simpa using h),fun h=>(z6h k seen.reverse 0).2 (by simpa using h)⟩
theorem zBc (k:Nat):∀ (l:List Nat),k ∉ l→z7R (.int .i64 (k:Int)) (.bool true) (l.map fun (v:Nat)=>(AVal.int .i64 (v:Int),AVal.bool true))=some ((l++[k]).map fun (v:Nat)=>(AVal.int .i64 (v:Int),AVal.bool true))
 | [],_=>rfl
 | x :: l,h=>by
   simp only [List.mem_cons,not_or] at h
   have hd:decide ((k:Int)=(x:Int))=false:=decide_eq_false (by omega)
   simp only [List.map_cons,z7R,eqv,if_true,hd,zBc k l h.2,List.cons_append,Option.map_some]
theorem zNB {seen:List Nat} {k:Nat} (h:seen.contains k=false):z7R (.int .i64 (k:Int)) (.bool true) (mapE seen)=some (mapE (k :: seen)):=by
 have:=zBc k seen.reverse (by simpa using h)
 unfold mapE
 rw [this];simp
def BestV (walk:List Res) (g:Nat) (v:AVal) (l:List Res):Prop:=(l=[]∧v=.lit true 0 []) ∨ (l ≠ []∧∃ i n,v=.ref 0 g i n true∧l=(walk.drop i).take n∧l.length=n)
def zD0 (b:List Res × Int) (walk:List Res) (i:Nat):Option (Int × Nat)→List Res × Int
 | none=>b
 | some (s,n)=>if b.1=[] ∨ b.2 * n < s * b.1.length then ((walk.drop i).take n,s) else b
theorem zD1 (walk:List Res) (b:List Res × Int) (i:Nat):z7O walk b i=zD0 b walk i (scan (walk.getD i default).to (walk.drop i) 0 0 []):=by
 unfold z7O zD0
 cases scan (walk.getD i default).to (walk.drop i) 0 0 [] with
 | none=>rfl
 | some p=>rfl
def zGE (walk:List Res) (g i:Nat) (b:List Res × Int) (e:Ex) (t:St):Prop:=e=.exit 4∧∃ (bv:AVal) (x:Blk) (X:Heap),BestV walk g bv b.1∧FrP 101 [(5,.ref 0 g 0 walk.length false),(8,bv),(9,.int .i64 b.2),(38,.int .i64 walk.length),(39,.int .i64 i)] ((.cells g 6 true (z0P walk)) :: x :: X) [] 0 [5] t
theorem zTC {H:Heap} {g len i k:Nat} {es:List AVal} (hH:H[0]?=some (.cells g 6 true es)) (hik:i≤k) (hk:k < len):z0g env H 140 (.ref 0 g 0 len false) (some (.int .i64 i)) (some (.int .i64 (k+1:Nat))) (some (.int .i64 (k+1:Nat)))=some (.ref 0 g i (k+1 - i) true):=by
 have h1:(0:Int)≤(i:Int):=by omega
 have h2:(0:Int)≤(k:Int)+1:=by omega
 have h3:((k:Int)+1).toNat=k+1:=by omega
 have h4:i≤k+1:=by omega
 have h5:k+1≤len:=by omega
 simp [z0g,ti140,ti157,hH,z0Y,h2,h3,h4,h5]
theorem zOA (n:Int):env.keyOk 3 (.int .i64 n)=true:=rfl
theorem zNx {tn e n m id g i k:Nat} {z:AVal} {cl:Bool} (hk:0 < k):binOp env .eql tn ⟨.slice e,n,m,z⟩ (.ref id g i k cl) (.lit true 0 [])=some (.bool false):=by
 obtain ⟨k,rfl⟩:∃ m,k=m+1:=⟨k - 1,by omega⟩
 rfl
theorem zKy {walk:List Res} {g i:Nat} (hi:i < walk.length) (hlen:walk.length≤17) (hg:∀ w ∈ walk,-1≤w.gain∧w.gain≤1) {b:List Res × Int} {bv:AVal} (hb:BestV walk g bv b.1) (hbl:b.1.length≤17) (hbg:-17≤b.2∧b.2≤17):∀ (n k:Nat) (s:Int) (seen:List Nat) (j0 j1 j2 j3 j4 j6 j7 j14 j15 j16 j17 j18 j19 j20 j21 j22 j23 j24 j25 j26 j27 j28 j29 j30 j31 j32 j33 j34 j35 j36 j37 j40 j41 j42 j43 j44 j45 j46 j47 j48 j49 j50 j51 j52 j53 j54 j55 j56 j57 j58 j59 j60 j61 j62 j63 j64 j65 j66 j67 j68 j69 j70 j71 j72 j73 j74 j75 j76 j77 j78 j79 j80 j81 j82 j83 j84 j85 j86 j87 j88 j89 j90 j91 j92 j93 j94 j95 j96 j97 j98 j99 j100:AVal),k+n=walk.length→i≤k→-((k:Int) - i)≤s∧s≤(k:Int) - i →
    Goes (execT env (Try.f146.at [1,1,1,1,1,0,1,0,0,1,1,0,0,1,1,1,1,0]) ⟨[j0,j1,j2,j3,j4,.ref 0 g 0 walk.length false,j6,j7,bv,.int .i64 b.2,.int .i64 i,.int .i64 s,.mapp 1,.int .i64 k,j14,j15,j16,j17,j18,j19,j20,j21,j22,j23,j24,j25,j26,j27,j28,j29,j30,j31,j32,j33,j34,j35,j36,j37,.int .i64 walk.length,.int .i64 i,j40,j41,j42,j43,j44,j45,j46,j47,j48,j49,j50,j51,j52,j53,j54,j55,j56,j57,j58,j59,j60,j61,j62,j63,j64,j65,j66,j67,j68,j69,j70,j71,j72,j73,j74,j75,j76,j77,j78,j79,j80,j81,j82,j83,j84,j85,j86,j87,j88,j89,j90,j91,j92,j93,j94,j95,j96,j97,j98,j99,j100],[.cells g 6 true (z0P walk),.map (mapE seen)],[],0,[5]⟩) (zGE walk g i (zD0 b walk i (scan (walk.getD i default).to (walk.drop k) s (k - i) seen))):=by
 have hbs:∀ m,0 < m→scrub m bv=bv:=by
  intro m hm
  rcases hb with ⟨_,rfl⟩ | ⟨_,i,n,rfl,_⟩
  · rfl
  · rw [zEO,if_pos hm]
 intro n
 induction n with
 | zero=>
   intro k s seen;intros;rename_i hk _ _
   have hd:decide ((k:Int) < (walk.length:Int))=false:=decide_eq_false (by omega)
   have hdr:walk.drop k=[]:=List.drop_eq_nil_of_le (by omega)
   rw [hdr]
   conv in (Func.at _ _)=>whnf
   rw [exec_loop]
   simp (config:={ maxSteps:=2000000 }) only [go_sem,simprocAttr,hd,scan,zD0]
   exact ⟨rfl,bv,_,_,hb,frP (by kernel_rfl)⟩
 | succ n ih=>
   intro k s seen;intros;rename_i hk hik hs
   have hkl:k < walk.length:=by omega
   have hd:decide ((k:Int) < (walk.length:Int))=true:=decide_eq_true (by omega)
   have hdi:decide ((i:Int) < (walk.length:Int))=true:=decide_eq_true (by omega)
   have k0:(0:Int)≤(k:Int):=by omega
   have i0:(0:Int)≤(i:Int):=by omega
   obtain ⟨w,hw,hdr⟩:=z0T hkl
   have gk:=z7w hw
   have gi:=z8Z (l:=walk) hi
   have hgw:=hg w (List.mem_of_getElem? hw)
   have ws1:IntKind.i64.wrap (s+w.gain)=s+w.gain:=i64_in _ (by omega)
   have wk:=z00 (show k < 2 ^ 63 - 1 by omega)
   have ki:k - i+1=k+1 - i:=by omega
   rw [hdr]
   unfold scan
   conv in (Func.at _ _)=>whnf
   rw [exec_loop]
   by_cases hst:w.start=(walk.getD i default).to
   · have e1:decide ((w.start:Int)=((walk.getD i default).to:Int))=true:=decide_eq_true (by omega)
     rw [if_pos hst,ki]
     have wn:IntKind.i64.wrap (IntKind.i64.wrap ((k:Int) - i)+1)=((k+1 - i:Nat):Int):=by rw [i64_in ((k:Int) - i) (by omega),i64_in _ (by omega)];omega
     have m2:=z4Z (a:=b.2) (b:=((k+1 - i:Nat):Int)) (A:=17) (B:=17) (by omega) (by omega) (by decide)
     have m1:=z4Z (a:=s+w.gain) (b:=(b.1.length:Int)) (A:=17) (B:=17) (by omega) (by omega) (by decide)
     have w1:IntKind.i64.wrap ((s+w.gain) * (b.1.length:Int))=(s+w.gain) * (b.1.length:Int):=i64_in _ (by omega)
     have w2:IntKind.i64.wrap (b.2 * ((k+1 - i:Nat):Int))=b.2 * ((k+1 - i:Nat):Int):=i64_in _ (by omega)
     have sl:=zTC (H:=[.cells g 6 true (z0P walk),.map (mapE seen),.cells 0 6 true [resV w]]) rfl hik hkl
     have hne:(walk.drop i).take (k+1 - i) ≠ []:=by
      intro h
      have:=congrArg List.length h
      rw [List.length_take,List.length_drop] at this
      simp only [List.length_nil] at this
      omega
     have hnew:BestV walk g (.ref 0 g i (k+1 - i) true) ((walk.drop i).take (k+1 - i)):=.inr ⟨hne,i,k+1 - i,rfl,rfl,by rw [List.length_take,List.length_drop];omega⟩
     rcases hb with ⟨hb0,rfl⟩ | ⟨hbn,i',n',rfl,hbe,hbl'⟩
     · have hc:b.1=[] ∨ b.2 * ((k+1 - i:Nat):Int) < (s+w.gain) * b.1.length:=.inl hb0
       simp (config:={ maxSteps:=2000000 }) only [go_sem,simprocAttr,hd,hdi,k0,i0,Int.toNat_natCast,gk,gi,ws1,e1,wn,wk,sl,zJm,zD0,if_pos hc]
       exact ⟨rfl,_,_,_,hnew,frP (by kernel_rfl)⟩
     · have hpos:0 < n':=by rw [← hbl'];exact List.length_pos_iff.2 hbn
       rw [hbl'] at w1
       cases hz:decide (b.2 * ((k+1 - i:Nat):Int) < (s+w.gain) * (n':Int)) with
       | true=>
         have hc:b.1=[] ∨ b.2 * ((k+1 - i:Nat):Int) < (s+w.gain) * b.1.length:=.inr (by rw [hbl'];exact of_decide_eq_true hz)
         simp (config:={ maxSteps:=2000000 }) only [go_sem,simprocAttr,hd,hdi,k0,i0,Int.toNat_natCast,gk,gi,ws1,e1,wn,wk,sl,zNx hpos,w1,w2,hz,zD0,if_pos hc]
         exact ⟨rfl,_,_,_,hnew,frP (by kernel_rfl)⟩
       | false=>
         have hc:¬ (b.1=[] ∨ b.2 * ((k+1 - i:Nat):Int) < (s+w.gain) * b.1.length):=fun h=>h.elim hbn (by rw [hbl'];exact of_decide_eq_false hz)
         simp (config:={ maxSteps:=2000000 }) only [go_sem,simprocAttr,hd,hdi,k0,i0,Int.toNat_natCast,gk,gi,ws1,e1,wn,wk,sl,zNx hpos,w1,w2,hz,zD0,if_neg hc]
         exact ⟨rfl,_,_,_,.inr ⟨hbn,i',n',rfl,hbe,hbl'⟩,frP (by kernel_rfl)⟩
   · have e1:decide ((w.start:Int)=((walk.getD i default).to:Int))=false:=decide_eq_false (by omega)
     rw [if_neg hst]
     cases hsn:seen.contains w.start with
     | true=>
       obtain ⟨x,hf⟩:=zDe.1 hsn
       simp (config:={ maxSteps:=2000000 }) only [go_sem,simprocAttr,hd,hdi,k0,i0,Int.toNat_natCast,gk,gi,ws1,e1,zOA,hf,zD0]
       exact ⟨rfl,bv,_,_,hb,frP (by kernel_rfl)⟩
     | false=>
       have hf:=zDe.2 hsn
       have hm:=zNB hsn
       have ih':=ih (k+1) (s+w.gain) (w.start :: seen)
       rw [← ki] at ih'
       have hb2:=hbs 2 (by decide)
       simp (config:={ maxSteps:=2000000 }) only [go_sem,simprocAttr,hd,hdi,k0,i0,Int.toNat_natCast,gk,gi,ws1,e1,zOA,hf,hm,trunc,List.map_cons,List.map_nil,hb2,wk]
       exact ih' _ _ _ _ _ _ _ _ _ _ _ _ _ _ _ _ _ _ _ _ _ _ _ _ _ _ _ _ _ _ _ _ _ _ _ _ _ _ _ _ _ _ _ _ _ _ _ _ _ _ _ _ _ _ _ _ _ _ _ _ _ _ _ _ _ _ _ _ _ _ _ _ _ _ _ _ _ _ _ _ _ _ _ _ _ _ _ _ _ _ _ _ (by omega) (by omega) (by omega)
set_option maxRecDepth 10000
set_option maxHeartbeats 2000000
theorem zKx (a:Nat):∀ (l:List Res) (s:Int) (n:Nat) (seen:List Nat) (s':Int) (n':Nat),(∀ w ∈ l,-1≤w.gain∧w.gain≤1)→scan a l s n seen=some (s',n')→s - l.length≤s'∧s'≤s+l.length
 | [],s,n,seen,s',n',_,h=>by simp [scan] at h
 | w :: l,s,n,seen,s',n',hg,h=>by
   have hw:=hg w (by simp)
   unfold scan at h
   simp only [List.length_cons]
   split at h
   · cases h;omega
   · split at h
     · cases h
     · have:=zKx a l _ _ _ _ _ (fun x hx=>hg x (by simp [hx])) h
       omega
theorem zGp {walk:List Res} (hg:∀ w ∈ walk,-1≤w.gain∧w.gain≤1):∀ n,(z2o walk n).1.length≤walk.length∧-(walk.length:Int)≤(z2o walk n).2∧(z2o walk n).2≤walk.length
 | 0=>by simp [z2o]
 | n+1=>by
   have ih:=zGp hg n
   rw [z64,zD1]
   cases hs:scan (walk.getD n default).to (walk.drop n) 0 0 [] with
   | none=>exact ih
   | some x=>
     obtain ⟨s,m⟩:=x
     have h1:=zKx _ _ _ _ _ _ _ (fun w hw=>hg w (List.mem_of_mem_drop hw)) hs
     rw [List.length_drop] at h1
     simp only [zD0]
     split
     · refine ⟨by rw [List.length_take,List.length_drop];omega,by omega,by omega⟩
     · exact ih
theorem BestV.scrub {walk:List Res} {g:Nat} {bv:AVal} {l:List Res} (h:BestV walk g bv l) {m:Nat} (hm:0 < m):Tidy.scrub m bv=bv:=by
 rcases h with ⟨_,rfl⟩ | ⟨_,i,n,rfl,_⟩
 · rfl
 · rw [zEO,if_pos hm]
theorem zFx (b x:Blk) (X:Heap) (hb:underB 1 b=true) (T:List AVal) (ro:Nat) (V:List Nat):trunc 1 ⟨T,b :: x :: X,[],ro,V⟩=⟨T.map (Tidy.scrub 1),[b],[],ro,V⟩:=by
 unfold trunc
 simp [hb]
def zGC (walk:List Res) (g:Nat) (b:List Res × Int) (e:Ex) (t:St):Prop:=e=.exit 2∧∃ (bv:AVal),BestV walk g bv b.1∧FrP 101 [(8,bv),(9,.int .i64 b.2)] [.cells g 6 true (z0P walk)] [] 0 [5] t
theorem zI8 {walk:List Res} {g:Nat} (hlen:walk.length≤17) (hg:∀ w ∈ walk,-1≤w.gain∧w.gain≤1):∀ (n i:Nat) (bv:AVal) (j0 j1 j2 j3 j4 j6 j7 j10 j11 j12 j13 j14 j15 j16 j17 j18 j19 j20 j21 j22 j23 j24 j25 j26 j27 j28 j29 j30 j31 j32 j33 j34 j35 j36 j37 j40 j41 j42 j43 j44 j45 j46 j47 j48 j49 j50 j51 j52 j53 j54 j55 j56 j57 j58 j59 j60 j61 j62 j63 j64 j65 j66 j67 j68 j69 j70 j71 j72 j73 j74 j75 j76 j77 j78 j79 j80 j81 j82 j83 j84 j85 j86 j87 j88 j89 j90 j91 j92 j93 j94 j95 j96 j97 j98 j99 j100:AVal),i+n=walk.length→BestV walk g bv (z2o walk i).1 →
    Goes (execT env (Try.f146.at [1,1,1,1,1,0,1,0]) ⟨[j0,j1,j2,j3,j4,.ref 0 g 0 walk.length false,j6,j7,bv,.int .i64 (z2o walk i).2,j10,j11,j12,j13,j14,j15,j16,j17,j18,j19,j20,j21,j22,j23,j24,j25,j26,j27,j28,j29,j30,j31,j32,j33,j34,j35,j36,j37,.int .i64 walk.length,.int .i64 i,j40,j41,j42,j43,j44,j45,j46,j47,j48,j49,j50,j51,j52,j53,j54,j55,j56,j57,j58,j59,j60,j61,j62,j63,j64,j65,j66,j67,j68,j69,j70,j71,j72,j73,j74,j75,j76,j77,j78,j79,j80,j81,j82,j83,j84,j85,j86,j87,j88,j89,j90,j91,j92,j93,j94,j95,j96,j97,j98,j99,j100],[.cells g 6 true (z0P walk)],[],0,[5]⟩) (zGC walk g (z2o walk walk.length)):=by
 intro n
 induction n with
 | zero=>
   intro i bv;intros;rename_i hi hb
   have hd:decide ((i:Int) < (walk.length:Int))=false:=decide_eq_false (by omega)
   have:i=walk.length:=by omega
   subst this
   conv in (Func.at _ _)=>whnf
   rw [exec_loop]
   simp (config:={ maxSteps:=2000000 }) only [go_sem,simprocAttr,hd]
   exact ⟨rfl,bv,hb,frP (by kernel_rfl)⟩
 | succ n ih=>
   intro i bv;intros;rename_i hi hb
   have hd:decide ((i:Int) < (walk.length:Int))=true:=decide_eq_true (by omega)
   have bd:=zGp hg i
   obtain ⟨e,t,hx,hp⟩:=zKy (i:=i) (by omega) hlen hg hb (by omega) (by omega) (walk.length - i) i 0 [] _ _ _ _ _ _ _ _ _ _ _ _ _ _ _ _ _ _ _ _ _ _ _ _ _ _ _ _ _ _ _ _ _ _ _ _ _ _ _ _ _ _ _ _ _ _ _ _ _ _ _ _ _ _ _ _ _ _ _ _ _ _ _ _ _ _ _ _ _ _ _ _ _ _ _ _ _ _ _ _ _ _ _ _ _ _ _ _ _ _ _ _ (by omega) (Nat.le_refl _) (by omega)
   unfold zGE at hp
   obtain ⟨rfl,bv',x,X,hb',jp,rfl⟩:=hp
   rw [Nat.sub_self,← zD1,← z64] at hb'
   have em:mapE []=[]:=rfl
   have tf:=zFx (.cells g 6 true (z0P walk)) x X rfl
   have sb:=hb'.scrub (show 0 < 1 by decide)
   have ih':=ih (i+1) bv'
   conv at hx in (Func.at _ _)=>whnf
   simp (config:={ maxSteps:=2000000 }) only [em,Nat.sub_self,← zD1,← z64] at hx
   conv in (Func.at _ _)=>whnf
   rw [exec_loop]
   simp (config:={ maxSteps:=2000000 }) only [go_sem,simprocAttr,hd]
   rw [hx]
   simp (config:={ maxSteps:=2000000 }) only [go_sem,simprocAttr,tf,sb,List.map_cons,List.map_nil,z00 (show i < 2 ^ 63 - 1 by omega)]
   exact ih' _ _ _ _ _ _ _ _ _ _ _ _ _ _ _ _ _ _ _ _ _ _ _ _ _ _ _ _ _ _ _ _ _ _ _ _ _ _ _ _ _ _ _ _ _ _ _ _ _ _ _ _ _ _ _ _ _ _ _ _ _ _ _ _ _ _ _ _ _ _ _ _ _ _ _ _ _ _ _ _ _ _ _ _ _ _ _ _ _ _ _ _ _ _ _ _ (by omega) hb'
def cycV (l:List Res):AVal:=if l=[] then .lit true 0 [] else .lit true 6 (z0P l)
def z6l (walk:List Res):List Res:=if (z2o walk walk.length).2≤0 then [] else (z2o walk walk.length).1
theorem zMd {ws:List Res} {N:Nat} (hN:N≤17) (hN0:0 < N) (hto:∀ w ∈ ws,w.to < N) (hst:∀ k v,((kRow ws N k).getD v wo0).last.start < N) {v:Nat} (hv:v < N) {walk:List Res} (hwk:walkS (kRow ws N) N v=walk) (hg:∀ w ∈ walk,-1≤w.gain∧w.gain≤1):
    ∃ (u:AVal) (H':Heap),runT env 146 [.lit false 1 (tabL ws N),.int .i64 v] [] 0=some (.ret u,H')∧handBack H' 0 [] 4 u=some (cycV (z6l walk)):=by
 have hl:=z1Y (kRow ws N) N v
 rw [hwk] at hl
 have W:=fun (j2 j3 j4 j7 j8 j9 j10 j11 j12 j13 j14 j15 j16 j17 j18 j19 j20 j21 j22 j23 j24 j25 j26 j27 j28 j29 j30 j31 j32 j33 j34 j35 j36 j37 j38 j39 j40 j41 j42 j43 j44 j45 j46 j47 j48 j49 j50 j51 j52 j53 j54 j55 j56 j57 j58 j59 j60 j61 j62 j63 j64 j65 j66 j67 j68 j69 j70 j71 j72 j73 j74 j75 j76 j77 j78 j79 j80 j81 j82 j83 j84 j85 j86 j87 j88 j89 j90 j91 j92 j93 j94 j95 j96 j97 j98 j99 j100:AVal)=>zLL hN hto hst N v 0 [] j2 j3 j4 j7 j8 j9 j10 j11 j12 j13 j14 j15 j16 j17 j18 j19 j20 j21 j22 j23 j24 j25 j26 j27 j28 j29 j30 j31 j32 j33 j34 j35 j36 j37 j38 j39 j40 j41 j42 j43 j44 j45 j46 j47 j48 j49 j50 j51 j52 j53 j54 j55 j56 j57 j58 j59 j60 j61 j62 j63 j64 j65 j66 j67 j68 j69 j70 j71 j72 j73 j74 j75 j76 j77 j78 j79 j80 j81 j82 j83 j84 j85 j86 j87 j88 j89 j90 j91 j92 j93 j94 j95 j96 j97 j98 j99 j100 (Nat.le_refl _) hv (by simp;omega)
 rw [hwk] at W
 obtain ⟨e1,t1,hx1,hp1⟩:=W _ _ _ _ _ _ _ _ _ _ _ _ _ _ _ _ _ _ _ _ _ _ _ _ _ _ _ _ _ _ _ _ _ _ _ _ _ _ _ _ _ _ _ _ _ _ _ _ _ _ _ _ _ _ _ _ _ _ _ _ _ _ _ _ _ _ _ _ _ _ _ _ _ _ _ _ _ _ _ _ _ _ _ _ _ _ _ _ _ _ _ _ _ _ _ _ _
 unfold zGF at hp1
 obtain ⟨rfl,g,jp,rfl⟩:=hp1
 have hne:z0P walk ≠ []:=by
  intro h
  have:=congrArg List.length h
  rw [z0w,hl] at this
  simp at this;omega
 have ea:accB 6 g (z0P walk)=.cells g 6 true (z0P walk):=if_neg hne
 have eg:accG g (z0P walk)=g:=if_neg hne
 have hb0:BestV walk g (.lit true 0 []) (z2o walk 0).1:=.inl ⟨rfl,rfl⟩
 obtain ⟨e2,t2,hx2,hp2⟩:=zI8 (by omega) hg walk.length 0 (.lit true 0 []) _ _ _ _ _ _ _ _ _ _ _ _ _ _ _ _ _ _ _ _ _ _ _ _ _ _ _ _ _ _ _ _ _ _ _ _ _ _ _ _ _ _ _ _ _ _ _ _ _ _ _ _ _ _ _ _ _ _ _ _ _ _ _ _ _ _ _ _ _ _ _ _ _ _ _ _ _ _ _ _ _ _ _ _ _ _ _ _ _ _ _ _ _ _ _ _ (by omega) hb0
 unfold zGC at hp2
 obtain ⟨rfl,bv,hbv,jq,rfl⟩:=hp2
 have tl:(tabL ws N).length=N+1:=z0E _ _
 have wN:IntKind.i64.wrap (((N+1:Nat):Int) - 1)=(N:Int):=by rw [i64_in _ (by omega)];omega
 have ew0:z0P []=[]:=rfl
 have l0:z2o walk 0=([],0):=rfl
 simp (config:={ maxSteps:=2000000 }) only [go_sem,simprocAttr,Try.f146,ew0,z1c,z1d,List.nil_append,ea,eg,List.length_nil,z0w,Int.natCast_zero,Int.ofNat_zero] at hx1
 simp (config:={ maxSteps:=2000000 }) only [go_sem,simprocAttr,Try.f146,l0,Int.natCast_zero,Int.ofNat_zero] at hx2
 cases hz:decide ((z2o walk walk.length).2≤0) with
 | true=>
   refine ⟨.lit true 0 [],[.cells g 6 true (z0P walk)],?_,?_⟩
   · rw [run_unfold fn146 rfl]
     simp (config:={ maxSteps:=2000000 }) only [go_sem,simprocAttr,Try.f146,tl,wN]
     rw [hx1]
     simp (config:={ maxSteps:=2000000 }) only [go_sem,simprocAttr,z0w]
     rw [hx2]
     simp (config:={ maxSteps:=2000000 }) only [go_sem,simprocAttr,hz,unwind,modeEx,resultsOf,one]
   · unfold z6l cycV
     rw [if_pos (of_decide_eq_true hz),if_pos rfl];rfl
 | false=>
   have hz':=of_decide_eq_false hz
   refine ⟨bv,[.cells g 6 true (z0P walk)],?_,?_⟩
   · rw [run_unfold fn146 rfl]
     simp (config:={ maxSteps:=2000000 }) only [go_sem,simprocAttr,Try.f146,tl,wN]
     rw [hx1]
     simp (config:={ maxSteps:=2000000 }) only [go_sem,simprocAttr,z0w]
     rw [hx2]
     simp (config:={ maxSteps:=2000000 }) only [go_sem,simprocAttr,hz,unwind,modeEx,resultsOf,one]
   · unfold z6l
     rw [if_neg hz']
     rcases hbv with ⟨h1,rfl⟩ | ⟨h1,i,n,rfl,h2,h3⟩
     · unfold cycV
       rw [if_pos h1];rfl
     · unfold cycV
       rw [if_neg h1]
       have hle:i+n≤walk.length:=by
        have:=h3
        rw [h2,List.length_take,List.length_drop] at this
        have hpos:0 < n:=by rw [← h3];exact List.length_pos_iff.2 h1
        omega
       have e1:((z0P walk).drop i).take n=z0P (z2o walk walk.length).1:=by rw [h2];simp [z0P,List.map_take,List.map_drop]
       simp [handBack,toLit,noRef,AVal.under,z0w,hle,e1]
set_option maxRecDepth 10000
set_option maxHeartbeats 4000000
theorem zI3 {ws:List Res} {N:Nat} (hN:0 < N) (hst:∀ w ∈ ws,w.start < N) (k v:Nat):((kRow ws N k).getD v wo0).last.start < N:=by
 have h0:∀ (n:Nat) (x:Wo),x.last.start < N→((List.replicate n x).getD v wo0).last.start < N:=fun n x hx=>by
  rw [List.getD_eq_getElem?_getD,List.getElem?_replicate]
  split
  · exact hx
  · exact hN
 cases k with
 | zero=>exact h0 _ _ hN
 | succ k=>
   have:∀ (us:List Res) (cur:List Wo),(∀ w ∈ us,w ∈ ws)→(∀ v,(cur.getD v wo0).last.start < N)→∀ v,((us.foldl (z2E (kRow ws N k)) cur).getD v wo0).last.start < N:=by
    intro us
    induction us with
    | nil=>intro cur _ h;exact h
    | cons w us ih=>
      intro cur hu h
      refine ih _ (fun x hx=>hu x (by simp [hx])) fun v=>?_
      unfold z2E
      split
      · by_cases e:w.to=v
        · subst e
          by_cases hl:w.to < cur.length
          · rw [z17 hl];exact hst w (hu w (by simp))
          · rw [List.set_eq_of_length_le (by omega)];exact h _
        · rw [getD_set_ne e];exact h v
      · exact h v
   exact this ws _ (fun _ h=>h) (fun v=>by
    rw [List.getD_eq_getElem?_getD,List.getElem?_replicate]
    split
    · exact hN
    · exact hN) v
theorem zKK {n:Nat} {f:AVal→Option AVal} {g h:Nat→AVal} (hf:∀ i,i < n→f (g i)=some (h i)):mapO f (vecA n g)=some (vecA n h):=by
 induction n with
 | zero=>rfl
 | succ n ih=>
   have:∀ (a b:List AVal) (x y:AVal),mapO f a=some b→f x=some y→mapO f (a++[x])=some (b++[y]):=by
    intro a
    induction a with
    | nil=>intro b x y ha hx;cases ha;simp [mapO,hx]
    | cons z a iha=>
      intro b x y ha hx
      simp only [mapO] at ha
      cases hz:f z with
      | none=>rw [hz] at ha;simp at ha
      | some z'=>
        rw [hz] at ha
        cases hma:mapO f a with
        | none=>rw [hma] at ha;simp at ha
        | some a'=>
          rw [hma] at ha
          simp only [Option.some.injEq] at ha
          subst ha
          simp only [List.cons_append,mapO,hz,iha a' x y hma hx]
   rw [z5n,z5n]
   exact this _ _ _ _ (ih fun i hi=>hf i (by omega)) (hf n (by omega))
theorem z6C {H:Heap}:∀ (ids seen:List Nat) (n:Nat),(∀ id ∈ ids,∃ g sz es,H[id]?=some (.cells g sz true es))→ids.Nodup→(∀ id ∈ ids,id ∉ seen)→ids.length≤n→reach H n ids seen=some (seen++ids)
 | [],seen,n,_,_,_,_=>by cases n <;> simp [reach]
 | id :: ids,seen,n,hf,hn,hs,hl=>by
   obtain ⟨n,rfl⟩:∃ m,n=m+1:=⟨n - 1,by simp at hl;omega⟩
   obtain ⟨g,sz,es,hH⟩:=hf id (by simp)
   simp only [List.nodup_cons] at hn
   have hc:seen.contains id=false:=by simpa using hs id (by simp)
   simp only [reach,hc,Bool.false_eq_true,if_false,hH,if_true]
   rw [z6C ids (seen++[id]) n (fun x hx=>hf x (by simp [hx])) hn.2 (fun x hx=>by
    simp only [List.mem_append,List.mem_singleton,not_or]
    exact ⟨hs x (by simp [hx]),fun e=>hn.1 (e ▸ hx)⟩) (by simp at hl;omega)]
   simp
theorem zQ9 (N:Nat):refsL (tbV N N)=(List.range (N+1)).map (3+·):=by
 have:∀ l:List Nat,(∀ i ∈ l,i≤N)→refsL (l.map fun i=>if i≤N then AVal.ref (3+i) 0 0 N false else .lit true 0 [])=l.map (3+·):=by
  intro l
  induction l with
  | nil=>intro _;rfl
  | cons x l ih=>
    intro h
    simp only [List.map_cons,refsL,ih fun i hi=>h i (by simp [hi])]
    rw [if_pos (h x (by simp))]
    rfl
 exact this _ fun i hi=>by simp at hi;omega
section
variable {R C gn:Nat} {G:Net} {f:Nat→Int} {ws:List Res} {N:Nat}
theorem zQX (hto:∀ w ∈ ws,w.to < N):toLit (fun _=>true) (tabH R C gn G f ws N N N) 8 (.ref 2 0 0 (N+1) false)=some (.lit false 1 (tabL ws N)):=by
 have hl:(tbV N N).length=N+1:=z0E _ _
 have ht:(tbV N N).take (N+1)=tbV N N:=List.take_of_length_le (by omega)
 have hm:mapO (toLit (fun _=>true) (tabH R C gn G f ws N N N) 7) (tbV N N)=some (tabL ws N):=by
  refine zKK fun i hi=>?_
  rw [if_pos (by omega)]
  have hr:=z6H (R:=R) (C:=C) (gn:=gn) (G:=G) (f:=f) (ws:=ws) (N:=N) (j:=N) (k:=N) (show i≤N by omega)
  have hk:=z63 hto i
  have hw:(wosV (kRow ws N i)).length=N:=by rw [zG6,hk]
  have htk:(wosV (kRow ws N i)).take N=wosV (kRow ws N i):=List.take_of_length_le (by omega)
  simp [toLit,noRef,AVal.under,hr,rowB,hw,htk]
 rw [toLit]
 have hu:noRef (AVal.ref 2 0 0 (N+1) false)=false:=rfl
 simp [hu,z9C,hl,ht,hm]
theorem zLE (hN:N≤17):∃ ids,reach (tabH R C gn G f ws N N N) fuel0 [2] []=some ids∧∀ id ∈ ids,2≤id:=by
 have h:=z6C (H:=tabH R C gn G f ws N N N) ((List.range (N+1)).map (3+·)) [2] 63 (fun id hid=>by
  obtain ⟨i,hi,rfl⟩:=List.mem_map.1 hid
  simp at hi
  exact ⟨_,_,_,z6H (by omega)⟩) (by
  unfold List.Nodup
  rw [List.pairwise_map]
  exact List.Pairwise.imp (fun h e=>h (by omega)) (List.nodup_range (n:=N+1))) (fun id hid=>by
  obtain ⟨i,_,rfl⟩:=List.mem_map.1 hid
  simp;omega) (by simp;omega)
 refine ⟨[2]++(List.range (N+1)).map (3+·),?_,fun id hid=>?_⟩
 · unfold fuel0
   simp only [reach,List.contains_nil,Bool.false_eq_true,if_false,z9C,List.nil_append,zQ9]
   exact h
 · simp only [List.cons_append,List.nil_append,List.mem_cons,List.mem_map] at hid
   rcases hid with rfl | ⟨i,_,rfl⟩ <;> omega
end
theorem loop_lent {R C gn:Nat} {G:Net} {f:Nat→Int} {ws:List Res} {N:Nat} (hN:N≤17) (hN0:0 < N) (hws:∀ w ∈ ws,w.to < N∧w.start < N) {v:Nat} (hv:v < N) {walk:List Res} (hwk:walkS (kRow ws N) N v=walk) (hg:∀ w ∈ walk,-1≤w.gain∧w.gain≤1) (nx:Nat):
    ∃ us,callT env 146 [.ref 2 0 0 (N+1) false,.int .i64 v] 2 (tabH R C gn G f ws N N N) nx=some (.ret (cycV (z6l walk)),.ups us):=by
 obtain ⟨u,H',hr,hb⟩:=zMd hN hN0 (fun w hw=>(hws w hw).1) (fun k v=>zI3 hN0 (fun w hw=>(hws w hw).2) k v) hv hwk hg
 obtain ⟨ids,hi,hid⟩:=zLE (R:=R) (C:=C) (gn:=gn) (G:=G) (f:=f) (ws:=ws) (N:=N) hN
 have htl:=zQX (R:=R) (C:=C) (gn:=gn) (G:=G) (f:=f) (ws:=ws) (N:=N) (fun w hw=>(hws w hw).1)
 have hl:lend (tabH R C gn G f ws N N N) (env.hint 146).lits [.ref 2 0 0 (N+1) false,.int .i64 v] 0=some ([.lit false 1 (tabL ws N),.int .i64 v],ids):=by
  have hre:(AVal.ref 2 0 0 (N+1) false).refs=[2]:=rfl
  simp [lend,hint146,noRef,AVal.under,htl,hre,hi]
 have hall:(ids.all fun id=>decide (2≤id))=true:=List.all_eq_true.2 fun id h=>by simpa using hid id h
 have hcv:noRef (cycV (z6l walk))=true:=by unfold cycV;split <;> rfl
 unfold callT
 rw [callF_small rfl,hl]
 have h1:(ids.all fun id=>!([]:List Nat).contains id)=true:=by simp
 have hre2:reach (tabH R C gn G f ws N N N) fuel0 (refsL [AVal.lit false 1 (tabL ws N),.int .i64 v]) []=some []:=rfl
 simp only [hre2,getAll,h1,List.all_nil,hint146,Bool.not_true,Bool.and_false,Bool.or_false,Bool.false_eq_true,if_false,List.map_nil]
 rw [show renL (idx []) [AVal.lit false 1 (tabL ws N),.int .i64 v]=[AVal.lit false 1 (tabL ws N),.int .i64 v] from rfl,hr]
 simp only [Option.bind_some,callBack,keepOf,hint146,Bool.false_eq_true,if_false,List.filter_nil,uniq,getAll,List.length_nil,hb,hall,if_true]
 rw [(ren_noRef _).1 _ hcv]
 split
 · exact ⟨_,rfl⟩
 · exact ⟨_,rfl⟩
set_option maxRecDepth 10000
set_option maxHeartbeats 4000000
theorem zJc {R C gn:Nat} {G:Net} {f gf:Nat→Int} (hs:NetS G f gf) (hG:G.Ok) (hGN:G.N=1+R+C) (hR:R≤8) (hC:C≤8) {gv:AVal} (hg:GainV gv G.n gf):
    ∃ H',runT env 137 [.ptr 0 0 0 0,gv] [netB R C 1 gn G.n,arcB gn G f] 2=some (.ret (cycV (cycleS (G.ways f gf G.n) G.N)),H'):=by
 have hn8:=hs.n
 have hwl:=z5B G f gf G.n
 have hws:∀ w ∈ G.ways f gf G.n,w.to < G.N∧w.start < G.N:=fun w hw=>⟨(G.ways_to hG hw).1,(G.ways_to hG hw).2.1⟩
 have hgw:∀ w ∈ G.ways f gf G.n,-1≤w.gain∧w.gain≤1:=fun w hw=>by
  obtain ⟨j,hj,⟨_,rfl⟩ | ⟨_,rfl⟩⟩:=Net.mem_ways.1 hw
  · exact hs.g j hj
  · have:=hs.g j hj
    simp only [Net.bwd];omega
 have hN0:0 < G.N:=by omega
 have hN17:G.N≤17:=by omega
 have can:NetAt [netB R C 1 gn G.n,arcB gn G f] 0 1 R C gn G.n (arcB gn G f):=⟨rfl,rfl,by decide,z0c _ _ _⟩
 have wc:=zEj can hs hg 2
 have nc:=z8Q can hR hC 2
 rw [← hGN] at nc
 generalize hW:G.ways f gf G.n=ws at hwl hws hgw wc ⊢
 generalize hZ:(if ws=[] then 0 else 6)=sz at wc
 have hsz:ws=[] ∨ sz=6:=by
  by_cases h:ws=[]
  · exact .inl h
  · exact .inr (by rw [← hZ,if_neg h])
 -- the table laid
 have hb0:wosV (List.replicate G.N wo0)=wosV (stV G.N 0):=by
  rw [z24]
  exact congrArg wosV (z1D fun i _=>by rw [if_neg (by omega)])
 have r1:List.replicate G.N (AVal.agg [.bool false,.int .i64 0,.int .i64 0,.bool false,.int .i64 0,.int .i64 0,.int .i64 0,.int .i64 0])=wosV (stV G.N 0):=by rw [zOZ,← hb0];simp [wosV]
 have r2:AVal.ref 3 0 0 G.N false :: List.replicate G.N (AVal.lit true 0 [])=tbV G.N 0:=by
  have h:(List.replicate (G.N+1) (AVal.lit true 0 [])).set 0 (.ref 3 0 0 G.N false)=tbV G.N 0:=by
   rw [z24,z7u]
   refine z1D fun i _=>?_
   by_cases h:i=0
   · subst h;simp
   · rw [if_neg h,if_neg (by omega)]
  rw [← h,List.replicate_succ];rfl
 have t3:(tbV G.N 0)[0]?=some (.ref 3 0 0 G.N false):=by rw [z54 (Nat.zero_le _),if_pos (Nat.le_refl _)]
 have wN:IntKind.i64.wrap ((G.N:Int)+1)=((G.N+1:Nat):Int):=by rw [i64_in _ (by omega)];omega
 have N0:(0:Int)≤(G.N:Int):=by omega
 have N1:(0:Int)≤((G.N+1:Nat):Int):=by omega
 have m1:G.N * 65≤z04:=by unfold z04;omega
 have m2:(G.N+1) * 25≤z04:=by unfold z04;omega
 have d0:decide ((0:Int) < ((G.N+1:Nat):Int))=true:=decide_eq_true (by omega)
 have k0:z3K (kRow ws G.N) G.N 0=(-1,0,1):=rfl
 simp only [z40,hZ,netB,arcB] at wc
 simp only [netB,arcB] at nc
 obtain ⟨e1,t1,hx1,hp1⟩:=zOw (R:=R) (C:=C) (gn:=gn) (sz:=sz) (G:=G) (f:=f) (ws:=ws) hN17 G.N 0 _ _ _ _ _ _ _ _ _ _ _ _ _ _ _ _ _ _ _ _ _ _ _ _ _ _ _ _ _ _ _ _ _ _ _ _ _ _ _ _ _ _ _ _ _ _ _ _ _ _ _ _ _ _ _ _ _ _ _ _ _ _ _ _ _ _ _ _ _ _ _ _ _ _ _ _ _ _ _ _ _ _ _ _ _ _ _ _ _ _ _ _ _ _ _ _ _ _ _ _ _ _ _ _ _ _ _ _ _ _ _ _ _ _ _ _ _ _ _ _ _ _ _ _ _ _ _ _ _ _ _ _ _ _ _ _ _ _ _ _ _ _ _ _ _ _ _ _ _ _ _ _ _ _ _ _ _ _ _ _ _ _ _ _ _ _ _ _ _ _ _ _ _ _ _ _ _ _ _ _ _ _ _ _ _ _ _ _ _ _ _ _ _ (by omega)
 unfold zNi at hp1
 obtain ⟨rfl,jp,rfl⟩:=hp1
 conv at hx1 in (Func.at _ _)=>whnf
 simp (config:={ maxSteps:=4000000 }) only [netB,arcB,Int.natCast_zero,Int.ofNat_zero] at hx1
 rw [run_unfold fn137 rfl]
 simp (config:={ maxSteps:=4000000 }) only [go_sem,simprocAttr,Try.f137,netB,arcB,wc,nc,wN,N0,N1,m1,m2,d0,Int.toNat_natCast,r1,r2,t3]
 rw [hx1]
 obtain ⟨e2,t2,hx2,hp2⟩:=zNO (R:=R) (C:=C) (gn:=gn) (G:=G) (f:=f) hsz hN17 hws hgw (by omega) G.N 0 _ _ _ _ _ _ _ _ _ _ _ _ _ _ _ _ _ _ _ _ _ _ _ _ _ _ _ _ _ _ _ _ _ _ _ _ _ _ _ _ _ _ _ _ _ _ _ _ _ _ _ _ _ _ _ _ _ _ _ _ _ _ _ _ _ _ _ _ _ _ _ _ _ _ _ _ _ _ _ _ _ _ _ _ _ _ _ _ _ _ _ _ _ _ _ _ _ _ _ _ _ _ _ _ _ _ _ _ _ _ _ _ _ _ _ _ _ _ _ _ _ _ _ _ _ _ _ _ _ _ _ _ _ _ _ _ _ _ _ _ _ _ _ _ _ _ _ _ _ _ _ _ _ _ _ _ _ _ _ _ _ _ _ _ _ _ _ _ _ _ _ _ _ _ _ _ _ _ _ _ _ _ _ _ _ _ _ _ _ _ _ _ _ _ (by omega)
 unfold TabPost at hp2
 obtain ⟨rfl,jq,rfl⟩:=hp2
 conv at hx2 in (Func.at _ _)=>whnf
 simp (config:={ maxSteps:=4000000 }) only [Nat.zero_add,Int.natCast_one,Int.ofNat_one] at hx2
 simp (config:={ maxSteps:=4000000 }) only [go_sem,simprocAttr]
 rw [hx2]
 obtain ⟨e3,t3,hx3,hp3⟩:=zJ5 (R:=R) (C:=C) (gn:=gn) (G:=G) (f:=f) hN17 (fun w hw=>(hws w hw).1) hgw G.N 0 _ _ _ _ _ _ _ _ _ _ _ _ _ _ _ _ _ _ _ _ _ _ _ _ _ _ _ _ _ _ _ _ _ _ _ _ _ _ _ _ _ _ _ _ _ _ _ _ _ _ _ _ _ _ _ _ _ _ _ _ _ _ _ _ _ _ _ _ _ _ _ _ _ _ _ _ _ _ _ _ _ _ _ _ _ _ _ _ _ _ _ _ _ _ _ _ _ _ _ _ _ _ _ _ _ _ _ _ _ _ _ _ _ _ _ _ _ _ _ _ _ _ _ _ _ _ _ _ _ _ _ _ _ _ _ _ _ _ _ _ _ _ _ _ _ _ _ _ _ _ _ _ _ _ _ _ _ _ _ _ _ _ _ _ _ _ _ _ _ _ _ _ _ _ _ _ _ _ _ _ _ _ _ _ _ _ _ _ _ _ _ (by omega)
 unfold zGA at hp3
 obtain ⟨rfl,jr,rfl⟩:=hp3
 conv at hx3 in (Func.at _ _)=>whnf
 simp (config:={ maxSteps:=4000000 }) only [k0,Int.natCast_zero,Int.ofNat_zero] at hx3
 simp (config:={ maxSteps:=4000000 }) only [go_sem,simprocAttr]
 rw [hx3]
 have hk:=(z95 (kRow ws G.N) G.N (fun v hv=>(zKB G.N v ws).2 hv) G.N (Nat.le_refl _)).2.2
 have hl:=z2X (R:=R) (C:=C) (gn:=gn) (G:=G) (f:=f) (ws:=ws) (N:=G.N) (j:=G.N) (k:=G.N)
 rcases hk with ⟨h3,_⟩ | ⟨⟨v,hv,h3,h4,h5⟩,_⟩
 · have hc:cycleS ws G.N=[]:=by unfold cycleS;rw [h3];rfl
   have dm:decide ((-1:Int) < 0)=true:=rfl
   rw [h3,hc]
   simp (config:={ maxSteps:=4000000 }) only [go_sem,simprocAttr,dm,unwind,modeEx,resultsOf,one,cycV,if_true]
   exact ⟨_,rfl⟩
 · have dv:decide ((v:Int) < 0)=false:=decide_eq_false (by omega)
   rw [h3]
   cases hz:decide ((z3K (kRow ws G.N) G.N G.N).2.1≤0) with
   | true=>
     have hc:cycleS ws G.N=[]:=by unfold cycleS;rw [if_pos (.inr (of_decide_eq_true hz))]
     rw [hc]
     simp (config:={ maxSteps:=4000000 }) only [go_sem,simprocAttr,dv,hz,unwind,modeEx,resultsOf,one,cycV,if_true]
     exact ⟨_,rfl⟩
   | false=>
     obtain ⟨u,_,hin⟩:=z6I (fun w hw=>(hws w hw).1) h4
     obtain ⟨us,lc⟩:=loop_lent (R:=R) (C:=C) (gn:=gn) (G:=G) (f:=f) hN17 hN0 hws hv rfl (fun w hw=>hgw w (hin w hw)) (G.N+4)
     have hc:cycleS ws G.N=z6l (walkS (kRow ws G.N) G.N v):=by
      unfold cycleS z6l
      rw [if_neg (by rw [h3];exact fun h=>h.elim (of_decide_eq_false dv) (of_decide_eq_false hz)),h3,Int.toNat_natCast,z1Y]
     rw [hc]
     simp (config:={ maxSteps:=4000000 }) only [go_sem,simprocAttr,dv,hz,hl,lc,unwind,modeEx,resultsOf,one]
     exact ⟨_,rfl⟩
theorem zHh {H:Heap} {b ab R C gn:Nat} {G:Net} {f gf:Nat→Int} (hs:NetS G f gf) (hG:G.Ok) (hGN:G.N=1+R+C) (hR:R≤8) (hC:C≤8) {gv:AVal} (hg:GainV gv G.n gf) (hA:NetAt H b ab R C gn G.n (arcB gn G f)) (ro nx:Nat):
    callT env 137 [.ptr b 0 0 0,gv] ro H nx=some (.ret (cycV (cycleS (G.ways f gf G.n) G.N)),.ups []):=by
 have hu:underL 0 [gv]=true:=by rcases hg with ⟨rfl,_⟩ | ⟨cl,x,xs,rfl,_⟩ <;> rfl
 obtain ⟨H',hr⟩:=zJc (gn:=gn) hs hG hGN hR hC hg
 have hb:handBack H' 2 [] 4 (cycV (cycleS (G.ways f gf G.n) G.N))=some (cycV (cycleS (G.ways f gf G.n) G.N)):=by
  unfold cycV;split <;> rfl
 have hn:noRef (cycV (cycleS (G.ways f gf G.n) G.N))=true:=by unfold cycV;split <;> rfl
 exact z1g rfl rfl rfl rfl hA (z1P rfl hu) hu hr hb hn
end Go.Proofs.Ytgfejpngfikjiaa.Tidy
namespace Go.Proofs.Ytgfejpngfikjiaa.Tidy
def brings (G:Net) (g f:Nat→Int):Int:=sumN G.n fun j=>g j * f j
theorem z6L {G:Net} (hG:G.Ok) (f g:Nat→Int):(∀ w ∈ G.ways f g G.n,w.to < G.N)∧∀ w ∈ G.ways f g G.n,w.start < G.N:=⟨fun _ hw=>(G.ways_to hG hw).1,fun _ hw=>(G.ways_to hG hw).2.1⟩
theorem zAk {G:Net} {f g:Nat→Int} {w:Res} (h:w ∈ G.ways f g G.n):w.arc < G.n∧w.gain=if w.back then - g w.arc else g w.arc:=by
 obtain ⟨j,hj,⟨_,rfl⟩ | ⟨_,rfl⟩⟩:=Net.mem_ways.1 h
 · exact ⟨hj,rfl⟩
 · exact ⟨hj,rfl⟩
theorem zN4 {G:Net} (hG:G.Ok) {f g:Nat→Int} (hf:G.In f) (hc:G.Circ f) (h:cycleS (G.ways f g G.n) G.N ≠ []):
    0 < z26 (cycleS (G.ways f g G.n) G.N)∧G.In (push f (z26 (cycleS (G.ways f g G.n) G.N)) (cycleS (G.ways f g G.n) G.N))∧G.Circ (push f (z26 (cycleS (G.ways f g G.n) G.N)) (cycleS (G.ways f g G.n) G.N)) ∧
    brings G g f+1≤brings G g (push f (z26 (cycleS (G.ways f g G.n) G.N)) (cycleS (G.ways f g G.n) G.N)):=by
 obtain ⟨⟨a,h1⟩,h2,h3,h4,_⟩:=z9b (z6L hG f g).1 h
 generalize cycleS (G.ways f g G.n) G.N=c at h1 h2 h3 h4 ⊢
 have hl:=z3o c (2 ^ 40)
 have hpos:0 < z26 c:=hl.2.2 (by decide) fun w hw=>(G.ways_to hG (h3 w hw)).2.2
 refine ⟨hpos,Net.push_within hf (by omega) h3 hl.2.1 h2,fun P=>?_,?_⟩
 · rw [Net.push_rdiv P (z26 c) c f a a (fun w hw=>Net.own_ways (h3 w hw)) h1,hc P,Int.sub_self,Int.mul_zero];rfl
 · unfold brings
   rw [zAB c f fun w hw=>zAk (h3 w hw)]
   have:1 * 1≤z26 c * gsum c:=Int.mul_le_mul (by omega) (by omega) (by decide) (by omega)
   unfold gsum at this
   omega
theorem zKr {G:Net} (hG:G.Ok) {f g:Nat→Int} (hc:G.Circ f) (h:cycleS (G.ways f g G.n) G.N=[]) {f':Nat→Int} (h1:G.In f') (h2:G.Circ f'):brings G g f'≤brings G g f:=by
 obtain ⟨P,hP⟩:=zF9 (z6L hG f g).1 (z6L hG f g).2 h
 refine Net.greatest (P:=P) hc h1 h2 fun j hj=>⟨fun hlt=>?_,fun hlt=>?_⟩
 · exact hP (G.fwd f g j) (Net.mem_ways.2 ⟨j,hj,.inl ⟨hlt,rfl⟩⟩)
 · have:=hP (G.bwd f g j) (Net.mem_ways.2 ⟨j,hj,.inr ⟨hlt,rfl⟩⟩)
   simp only [Net.bwd] at this
   omega
theorem z4R {G:Net} {f g:Nat→Int} (hf:∀ j,j < G.n→0≤f j∧f j≤2 ^ 30) (hg:∀ j,j < G.n→-1≤g j∧g j≤1):∀ n,n≤G.n→-(n * 2 ^ 30:Int)≤sumN n (fun j=>g j * f j)∧sumN n (fun j=>g j * f j)≤n * 2 ^ 30
 | 0,_=>by simp [sumN]
 | n+1,hn=>by
   have ih:=z4R hf hg n (by omega)
   have h1:=hf n (by omega)
   have h2:=hg n (by omega)
   have h3:-(2 ^ 30)≤g n * f n∧g n * f n≤2 ^ 30:=by
    have:g n=-1 ∨ g n=0 ∨ g n=1:=by omega
    rcases this with e | e | e <;> rw [e] <;> omega
   simp only [sumN]
   omega
end Go.Proofs.Ytgfejpngfikjiaa.Tidy
