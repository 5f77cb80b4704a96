/-
 What the functions that SharesTablesSpec reaches compute;the law,run.
-/
import Derived.Test.YtgfejpngfikjiaaCb
import Derived.Test.YtgfejpngfikjiaaCd
import Derived.Test.YtgfejpngfikjiaaCe
import Derived.Test.YtgfejpngfikjiaaCf
set_option linter.all false
namespace Go.Proofs.Ytgfejpngfikjiaa.Tidy
open Go
abbrev RowD:=Nat × List AVal
def rowT (sz:Nat):Nat→List RowD→Heap
 | _,[]=>[]
 | p,r :: rs=>.cells r.1 sz true r.2 :: .cells 0 1 false [.ref p r.1 0 r.2.length false] :: rowT sz (p+2) rs
def rowR:Nat→List RowD→List AVal
 | _,[]=>[]
 | p,r :: rs=>.ref p r.1 0 r.2.length false :: rowR (p+2) rs
theorem z0z (sz:Nat):∀ (rs:List RowD) (p:Nat),(rowT sz p rs).length=2 * rs.length
 | [],_=>rfl
 | r :: rs,p=>by simp only [rowT,List.length_cons,z0z sz rs];omega
theorem z1K:∀ (rs:List RowD) (p:Nat),(rowR p rs).length=rs.length
 | [],_=>rfl
 | r :: rs,p=>by simp only [rowR,List.length_cons,z1K rs]
theorem z4Q (sz:Nat) (r:RowD):∀ (rs:List RowD) (p:Nat),rowT sz p (rs++[r])=rowT sz p rs++[.cells r.1 sz true r.2,.cells 0 1 false [.ref (p+2 * rs.length) r.1 0 r.2.length false]]
 | [],p=>rfl
 | x :: rs,p=>by
   simp only [List.cons_append,rowT,z4Q sz r rs,List.length_cons]
   rw [show p+2+2 * rs.length=p+2 * (rs.length+1) by omega]
theorem z3g (r:RowD):∀ (rs:List RowD) (p:Nat),rowR p (rs++[r])=rowR p rs++[.ref (p+2 * rs.length) r.1 0 r.2.length false]
 | [],p=>rfl
 | x :: rs,p=>by
   simp only [List.cons_append,rowR,z3g r rs,List.length_cons]
   rw [show p+2+2 * rs.length=p+2 * (rs.length+1) by omega]
theorem z5g (sz:Nat):∀ (rs:List RowD) (p i:Nat) (r:RowD),rs[i]?=some r→(rowT sz p rs)[2 * i]?=some (.cells r.1 sz true r.2)
 | [],_,i,r,h=>by simp at h
 | x :: rs,p,0,r,h=>by simp at h;subst h;rfl
 | x :: rs,p,i+1,r,h=>by
   simp only [List.getElem?_cons_succ] at h
   have:=z5g sz rs (p+2) i r h
   rw [show 2 * (i+1)=2 * i+1+1 by omega]
   simpa [rowT] using this
theorem z8P:∀ (rs:List RowD) (p i:Nat) (r:RowD),rs[i]?=some r→(rowR p rs)[i]?=some (.ref (p+2 * i) r.1 0 r.2.length false)
 | [],_,i,r,h=>by simp at h
 | x :: rs,p,0,r,h=>by simp at h;subst h;rfl
 | x :: rs,p,i+1,r,h=>by
   simp only [List.getElem?_cons_succ] at h
   have:=z8P rs (p+2) i r h
   rw [show p+2 * (i+1)=p+2+2 * i by omega]
   simpa [rowR] using this
def accR (g p:Nat) (rs:List RowD):Blk:=if rs=[] then .cells 0 0 false [] else .cells g 1 false (rowR p rs)
def gR (g:Nat) (rs:List RowD):Nat:=if rs=[] then 0 else g
theorem zEx (g p:Nat):accR g p []=.cells 0 0 false []:=rfl
theorem zIS (g:Nat):gR g []=0:=rfl
theorem z7M {t e n m:Nat} {z:AVal} {te:TI} (ht:env.ti t=some ⟨.slice e,n,m,z⟩) (he:env.ti e=some te) (hz:te.sz=1∧te.bytes=24∧te.zero.cellsOf.length=1∧te.zero.isTuple=false) (hfl:z0s env 8 e=false)
    {H:Heap} {q j g p:Nat} {rs:List RowD} {r:RowD} {cl:Bool} (hH:H[q]?=some (accR g p rs)) (hj:H[j]?=some (.cells 0 1 false [.ref (p+2 * rs.length) r.1 0 r.2.length false])) (hb:rs.length < 2 ^ 20) (nx:Nat) {ro:Nat} (hro:ro≤q):
    ∃ g',z0H env ro nx t (.ref q (gR g rs) 0 rs.length false) (.ref j 0 0 1 cl) H=some (.ref q (gR g' (rs++[r])) 0 (rs++[r]).length false,[(q,accR g' p (rs++[r]))]):=by
 have hne:∀ l:List RowD,l++[r] ≠ []:=by simp
 obtain ⟨z1,z2,z3,z4⟩:=hz
 have hel:z15 H (.ref j 0 0 1 cl)=some (1,[.ref (p+2 * rs.length) r.1 0 r.2.length false]):=by simp [z15,hj]
 by_cases h:rs=[]
 · subst h
   refine ⟨1,?_⟩
   simp only [List.length_nil] at hel
   simp only [accR,gR,if_true,List.nil_append] at hH ⊢
   simp [z0H,ht,he,hel,z1,z2,z3,z4,hH,hfl,hro,rowR,z04]
 · have hgr:=append_ref (E:=env) (ro:=ro) (nx:=nx) (t:=t) (e:=e) (n:=n) (m:=m) (z:=z) (te:=te) (H:=H) (id:=q) (g:=g) (len:=rs.length) (x:=.ref j 0 0 1 cl) (nsz:=1) (new:=[.ref (p+2 * rs.length) r.1 0 r.2.length false]) (fl:=false) (bs:=rowR p rs) ht he hel ⟨by omega,by omega,z4⟩ z1.symm (by simp)
     (by rw [hH,accR,if_neg h,z1]) (z1K rs p) (List.length_pos_iff.2 h) hro (by rw [z2];simp only [List.length_singleton,z04];omega) (fun h=>by cases h)
   refine ⟨g+1,?_⟩
   simp only [gR,if_neg h,if_neg (hne rs),accR]
   rw [hgr,z1,z3g]
   simp
section
variable {A B:Heap} {g sz:Nat} {rs:List RowD}
end
theorem z3S {m:Nat} {T:List AVal} {H:Heap} {df:List (Nat × List AVal)} {ro:Nat} {V:List Nat} {i g sz:Nat} {es:List AVal} {p g' o n:Nat} {cl:Bool} (hi:i < m) (hb:H[i]?=some (.cells g sz false es)) (hr:AVal.ref p g' o n cl ∈ es) (hp:m≤p):trunc m ⟨T,H,df,ro,V⟩=⟨T,H,df,ro,V⟩:=by
 unfold trunc
 by_cases h1:H.length≤m
 · simp only [h1,if_true]
 · have h2:(H.take m).all (underB m)=false:=by
     cases h:(H.take m).all (underB m) with
     | false=>rfl
     | true=>
       have h3:(H.take m)[i]?=some (.cells g sz false es):=by rw [List.getElem?_take,if_pos hi,hb]
       have h4:=List.all_eq_true.1 h _ (List.mem_of_getElem? h3)
       simp only [underB,Bool.false_or] at h4
       have h5:=underL_mem h4 _ hr
       simp only [AVal.under,decide_eq_true_eq] at h5
       omega
   simp only [h1,if_false,h2,Bool.false_and,Bool.false_eq_true]
theorem z6o {H:Heap} {ok:Nat→Bool} {sz n:Nat}:∀ (rs:List RowD) (p:Nat),(∀ i r,rs[i]?=some r→H[p+2 * i]?=some (.cells r.1 sz true r.2))→(∀ j,p≤j→ok j=true)→mapO (toLit ok H (n+1)) (rowR p rs)=some (rs.map fun r=>.lit false sz r.2)
 | [],_,_,_=>rfl
 | r :: rs,p,h,hok=>by
   have h0:=h 0 r rfl
   have ih:=z6o (H:=H) (ok:=ok) (sz:=sz) (n:=n) rs (p+2) (fun i x hx=>by
    have:=h (i+1) x (by simpa using hx)
    rw [show p+2+2 * i=p+2 * (i+1) by omega];exact this) fun j hj=>hok j (by omega)
   simp only [Nat.mul_zero,Nat.add_zero] at h0
   have ht:(r.2.drop 0).take r.2.length=r.2:=by simp
   simp only [rowR,mapO,ih,List.map_cons]
   simp [toLit,noRef,AVal.under,h0,hok p (Nat.le_refl _)]
theorem z0d {X:Heap} {nx:Nat} (hX:X.length=nx) (b b':Blk):(X++[b]).set nx b'=X++[b']:=by
 subst hX
 rw [List.set_append_right _ _ (by omega),Nat.sub_self];rfl
theorem z08 {X:Heap} {nx:Nat} (hX:X.length=nx) (b:Blk):(X++[b])[nx]?=some b:=by
 subst hX;simp
theorem z06 {X:Heap} {nx:Nat} (hX:X.length=nx) (b:Blk):(X++[b]).length=nx+1:=by simp [hX]
theorem z4d {X:Heap} {nx i:Nat} (hX:X.length=nx) (b:Blk) (hi:i < nx):(X++[b])[i]?=X[i]?:=by
 rw [List.getElem?_append_left (by omega)]
def rowsLit (sz:Nat) (rs:List RowD):AVal:=.lit false (if rs=[] then 0 else 1) (rs.map fun r=>.lit false sz r.2)
end Go.Proofs.Ytgfejpngfikjiaa.Tidy
namespace Go.Proofs.Ytgfejpngfikjiaa.Tidy
open Go Go.IntWalk
set_option maxRecDepth 10000
set_option linter.unusedSimpArgs false
set_option maxHeartbeats 4000000
theorem z3t {bs new:List AVal} (h:new.length=bs.length):putList bs 0 new=new:=by
 have:=putList_append [] new bs (by omega)
 rw [List.nil_append,List.length_nil] at this
 rw [this,List.drop_eq_nil_of_le (by omega)];simp
def rowA (t:Tab) (i:Nat):List AVal:=(t.cells.getD i []).map spV
theorem z72 (t:Tab) (i:Nat):(rowA t i).all noRef=true:=by
 unfold rowA
 rw [List.all_eq_true]
 intro x hx
 obtain ⟨y,_,rfl⟩:=List.mem_map.1 hx
 rfl
def clD (t:Tab) (n:Nat):List RowD:=(List.range n).map fun i=>(0,rowA t (i+1))
theorem zF7 (t:Tab) (n:Nat):clD t (n+1)=clD t n++[(0,rowA t (n+1))]:=by simp [clD,List.range_succ]
theorem z2B (t:Tab) (n:Nat):(clD t n).length=n:=by simp [clD]
def clH (T:TabV) (g n:Nat):Heap:=[boxT T,.cells 0 3 false [.agg [.lit true 0 [],.lit true 0 [],.lit true 0 []]],.cells 0 2 true (T.rows.l.map spV),.cells 0 2 true (T.cols.l.map spV),.cells 0 0 false [],.cells 0 0 false [],.cells 0 0 false [],
 .cells 0 3 false [.agg [.ref 2 0 0 T.tab.R false,.ref 3 0 0 T.tab.C false,.ref 10 g 0 (n+1) false]],.cells 0 2 true (rowA T.tab 0),.cells 0 1 false [.ref 8 0 0 T.tab.C false],.cells g 1 false (.ref 8 0 0 T.tab.C false :: rowR 11 (clD T.tab n))]++rowT 2 11 (clD T.tab n)
theorem zGB {T:TabV} (hT:T.Wf) (hO:T.tab.Ok):∀ (n m g:Nat) (j0 j4 j5 j6 j7 j8 j9 j10 j11 j12 j13 j14 j15 j16 j17 j18 j19 j20 j21 j22 j23 j24 j25 j26 j30 j31 j32 j33 j34 j35 j36 j37 j38 j39 j40 j41 j42 j43 j44 j45 j46:AVal),m+1+n=T.tab.R →
    Goes (execT env (Try.f96.at [1,1,1,1,0,1,0]) ⟨[j0,.ptr 0 0 0 0,.ptr 1 0 0 0,.ptr 7 0 0 0,j4,j5,j6,j7,j8,j9,j10,j11,j12,j13,j14,j15,j16,j17,j18,j19,j20,j21,j22,j23,j24,j25,j26,.lit T.cl T.sz (T.cells.map SlV.v),.int .i64 T.tab.R,.int .i64 (m+1:Nat),j30,j31,j32,j33,j34,j35,j36,j37,j38,j39,j40,j41,j42,j43,j44,j45,j46],clH T g m,[],0,[3,42]⟩) fun ex st=>
     ex=.exit 0∧∃ (g:Nat),FrP 47 [(2,.ptr 1 0 0 0),(3,.ptr 7 0 0 0)] (clH T g (T.tab.R - 1)) [] 0 [3,42] st:=by
 have hR8:=hO.R8
 have hC8:=hO.C8
 intro n
 induction n with
 | zero=>
   intro m g;intros;rename_i hm
   have hd:decide (((m+1:Nat):Int) < (T.tab.R:Int))=false:=by simp;omega
   have e:T.tab.R - 1=m:=by omega
   rw [e]
   simp only [go_sem,simprocAttr,Try.f96]
   rw [exec_loop]
   simp only [go_sem,simprocAttr,hd]
   exact ⟨g,frP (by kernel_rfl)⟩
 | succ n ih=>
   intro m g;intros;rename_i hm
   have hmR:m+1 < T.tab.R:=by omega
   have hd:decide (((m+1:Nat):Int) < (T.tab.R:Int))=true:=by simp;omega
   have i0:(0:Int)≤((m+1:Nat):Int):=by omega
   have c0:(0:Int)≤(T.tab.C:Int):=by omega
   have m1:T.tab.C * 17≤z04:=by unfold z04;omega
   obtain ⟨c,hcm,hc1,_,hsz,hcl,hce⟩:=TabV.at hT hO hmR (show 0 < T.tab.C from hO.C1)
   have hra:c.l.map spV=rowA T.tab (m+1):=by unfold rowA;rw [hce]
   have hrl:(rowA T.tab (m+1)).length=T.tab.C:=by rw [← hra,List.length_map,hcl]
   have htk:(rowA T.tab (m+1)).take T.tab.C=rowA T.tab (m+1):=List.take_of_length_le (by omega)
   have hpl:putList (List.replicate T.tab.C (AVal.agg [.int .i64 0,.int .i64 0])) 0 (rowA T.tab (m+1))=rowA T.tab (m+1):=z3t (by rw [hrl,List.length_replicate])
   have hnr:(rowA T.tab (m+1)).all noRef=true:=z72 _ _
   have hTl:(rowT 2 11 (clD T.tab m)).length=2 * m:=by rw [z0z,z2B]
   have hl1:∀ b,(rowT 2 11 (clD T.tab m)++[b]).length=2 * m+1:=fun b=>z06 hTl b
   have hg1:∀ b,(rowT 2 11 (clD T.tab m)++[b])[2 * m]?=some b:=fun b=>z08 hTl b
   have hs1:∀ b b',(rowT 2 11 (clD T.tab m)++[b]).set (2 * m) b'=rowT 2 11 (clD T.tab m)++[b']:=fun b b'=>z0d hTl b b'
   have z0:(2 * m+1+1+1+1+1+1+1+1+1+1+1 < 2 * m+1+1+1+1+1+1+1+1+1+1+1+1)=True:=eq_true (Nat.lt_succ_self _)
   have hCl:(clH T g m).length=2 * m+1+1+1+1+1+1+1+1+1+1+1:=by unfold clH;rw [List.length_append,hTl];simp only [List.length_cons,List.length_nil];omega
   have hel:z15 ((clH T g m++[.cells 0 2 true (rowA T.tab (m+1))])++[.cells 0 1 false [.ref (2 * m+1+1+1+1+1+1+1+1+1+1+1) 0 0 T.tab.C false]]) (.ref (2 * m+1+1+1+1+1+1+1+1+1+1+1+1) 0 0 1 false)=some (1,[.ref (2 * m+1+1+1+1+1+1+1+1+1+1+1) 0 0 T.tab.C false]):=by
    have:=z08 (z06 hCl (.cells 0 2 true (rowA T.tab (m+1)))) (.cells 0 1 false [.ref (2 * m+1+1+1+1+1+1+1+1+1+1+1) 0 0 T.tab.C false])
    simp only [z15,this]
    rfl
   have hl2:∀ b b',(rowT 2 11 (clD T.tab m)++[b]++[b']).length=2 * m+1+1:=fun b b'=>z06 (hl1 b) b'
   have ap:=append_ref (E:=env) (ro:=0) (nx:=2 * m+1+1+1+1+1+1+1+1+1+1+1+1+1) (g:=g) (id:=10) (len:=m+1) (fl:=false) (bs:=.ref 8 0 0 T.tab.C false :: rowR 11 (clD T.tab m)) ti23 ti22 hel ⟨by decide,rfl,rfl⟩ rfl (by simp) rfl (by simp [z1K,z2B]) (by omega) (Nat.zero_le _) (by unfold z04;simp only [List.length_singleton];omega) (fun h=>by cases h)
   have hr1:(AVal.ref 8 0 0 T.tab.C false :: rowR 11 (clD T.tab m))++[.ref (2 * m+1+1+1+1+1+1+1+1+1+1+1) 0 0 T.tab.C false]=.ref 8 0 0 T.tab.C false :: rowR 11 (clD T.tab (m+1)):=by
    rw [zF7,z3g,z2B,hrl,show 11+2 * m=2 * m+1+1+1+1+1+1+1+1+1+1+1 by omega];rfl
   have ht1:rowT 2 11 (clD T.tab m)++[.cells 0 2 true (rowA T.tab (m+1))]++[.cells 0 1 false [.ref (2 * m+1+1+1+1+1+1+1+1+1+1+1) 0 0 T.tab.C false]]=rowT 2 11 (clD T.tab (m+1)):=by
    rw [zF7,z4Q,z2B,hrl,show 11+2 * m=2 * m+1+1+1+1+1+1+1+1+1+1+1 by omega];simp
   have hTl':(rowT 2 11 (clD T.tab (m+1))).length=2 * m+1+1:=by rw [z0z,z2B];omega
   rw [hr1] at ap
   simp only [clH,boxT,List.cons_append,List.nil_append,List.length_singleton,ht1] at ap
   have hmem:AVal.ref (2 * m+1+1+1+1+1+1+1+1+1+1+1) 0 0 T.tab.C false ∈ (AVal.ref 8 0 0 T.tab.C false :: rowR 11 (clD T.tab (m+1))):=by rw [← hr1];simp
   have htr:∀ Tm V,trunc (2 * m+1+1+1+1+1+1+1+1+1+1+1) ⟨Tm,clH T (g+1) (m+1),[],0,V⟩=⟨Tm,clH T (g+1) (m+1),[],0,V⟩:=fun Tm V=>z3S (i:=10) (by omega) (by unfold clH;rfl) hmem (Nat.le_refl _)
   simp only [clH,boxT,List.cons_append,List.nil_append] at htr
   have wi:IntKind.i64.wrap (((m+1:Nat):Int)+1)=((m+1+1:Nat):Int):=z00 (by omega)
   have z1:(10 < 2 * m+1+1+1+1+1+1+1+1+1+1+1+1+1)=True:=eq_true (by omega)
   have z2:(7 < 2 * m+1+1+1+1+1+1+1+1+1+1+1+1+1)=True:=eq_true (by omega)
   have ih':=ih (m+1) (g+1)
   simp only [go_sem,simprocAttr,Try.f96,clH,boxT,hsz] at ih' ⊢
   rw [exec_loop]
   simp only [go_sem,simprocAttr,hd,i0,Int.toNat_natCast,hc1,hcl,List.length_map,c0,m1,hra,hTl,hl1,hg1,hs1,htk,hpl,hrl,hnr,z0,hl2,ap,ht1,hTl',z1,z2,wi,htr]
   exact ih' _ _ _ _ _ _ _ _ _ _ _ _ _ _ _ _ _ _ _ _ _ _ _ _ _ _ _ _ _ _ _ _ _ _ _ _ _ _ _ _ _ (by omega)
theorem bd25 (a b c d a' b' c' d':Nat) (e e':Bool):build env ⟨.struct [(22,0),(22,1),(23,2)],3,72,.agg [.lit true 0 [],.lit true 0 [],.lit true 0 []]⟩ [(0,.ref a b c d e),(1,.ref a' b' c' d' e')]=some (.agg [.ref a b c d e,.ref a' b' c' d' e',.lit true 0 []]):=rfl
def clX (T:TabV) (nx g:Nat):Heap:=[boxT T,.cells 0 3 false [.agg [.ref (nx+2) 0 0 T.tab.R false,.ref (nx+3) 0 0 T.tab.C false,.ref (nx+10) g 0 T.tab.R false]],.cells 0 2 true (T.rows.l.map spV),.cells 0 2 true (T.cols.l.map spV),.cells 0 0 false [],.cells 0 0 false [],.cells 0 0 false [],
 .cells 0 3 false [.agg [.ref (nx+2) 0 0 T.tab.R false,.ref (nx+3) 0 0 T.tab.C false,.ref (nx+10) g 0 T.tab.R false]],.cells 0 2 true (rowA T.tab 0),.cells 0 1 false [.ref (nx+8) 0 0 T.tab.C false],.cells g 1 false (.ref (nx+8) 0 0 T.tab.C false :: rowR (nx+11) (clD T.tab (T.tab.R - 1)))]++rowT 2 (nx+11) (clD T.tab (T.tab.R - 1))
def clP (T:TabV):Heap:=[boxT T,.cells 0 3 false [.agg [.lit true 0 [],.lit true 0 [],.lit true 0 []]],.cells 0 2 true (T.rows.l.map spV),.cells 0 2 true (T.cols.l.map spV),.cells 0 0 false [],.cells 0 0 false [],.cells 0 0 false [],
 .cells 0 3 false [.agg [.ref 2 0 0 T.tab.R false,.ref 3 0 0 T.tab.C false,.lit true 0 []]],.cells 0 2 true (rowA T.tab 0),.cells 0 1 false [.ref 8 0 0 T.tab.C false]]
theorem zC6 (T:TabV):z0H env 0 10 23 (.lit true 0 []) (.ref 9 0 0 1 false) (clP T)=some (.ref 10 0 0 1 false,[(10,.cells 0 1 false [.ref 8 0 0 T.tab.C false])]):=by
 have h:=append_lit (E:=env) (ro:=0) (nx:=10) (sz:=0) (es:=[]) (H:=clP T) (x:=.ref 9 0 0 1 false) (nsz:=1) (new:=[.ref 8 0 0 T.tab.C false]) ti23 ti22 rfl ⟨by decide,rfl,rfl⟩ rfl (by simp) (.inl rfl) (show (0+1) * 25≤z04 by decide) (fun h=>by cases h)
 rw [h];rfl
theorem zHu {T:TabV} (hT:T.Wf) (hO:T.tab.Ok):∃ g,runT env 96 [T.v] [] 0=some (.ret (.agg [.ref 2 0 0 T.tab.R false,.ref 3 0 0 T.tab.C false,.ref 10 g 0 T.tab.R false]),clX T 0 g):=by
 have hR8:=hO.R8
 have hC8:=hO.C8
 have hR1:=hO.R1
 have hd:decide ((0:Int) < (T.tab.R:Int))=true:=by simp;omega
 have lr:T.rows.l.length=T.tab.R:=rfl
 have lc:T.cols.l.length=T.tab.C:=rfl
 have ll:T.cells.length=T.tab.R:=by have:=hO.len;simpa [TabV.tab] using this
 have r0:(0:Int)≤(T.tab.R:Int):=by omega
 have c0:(0:Int)≤(T.tab.C:Int):=by omega
 have m0:T.tab.R * 17≤z04:=by unfold z04;omega
 have m1:T.tab.C * 17≤z04:=by unfold z04;omega
 obtain ⟨c,hcm,hc1,_,hsz,hcl,hce⟩:=TabV.at hT hO hR1 (show 0 < T.tab.C from hO.C1)
 have hra:c.l.map spV=rowA T.tab 0:=by unfold rowA;rw [hce]
 have hrl:(rowA T.tab 0).length=T.tab.C:=by rw [← hra,List.length_map,hcl]
 have htk:(rowA T.tab 0).take T.tab.C=rowA T.tab 0:=List.take_of_length_le (by omega)
 have hpl:putList (List.replicate T.tab.C (AVal.agg [.int .i64 0,.int .i64 0])) 0 (rowA T.tab 0)=rowA T.tab 0:=z3t (by rw [hrl,List.length_replicate])
 have hnr:(rowA T.tab 0).all noRef=true:=z72 _ _
 have tk1:(T.rows.l.map spV).take T.tab.R=T.rows.l.map spV:=List.take_of_length_le (by rw [List.length_map];exact Nat.le_refl _)
 have tk2:(T.cols.l.map spV).take T.tab.C=T.cols.l.map spV:=List.take_of_length_le (by rw [List.length_map];exact Nat.le_refl _)
 have pl1:putList (List.replicate T.tab.R (AVal.agg [.int .i64 0,.int .i64 0])) 0 (T.rows.l.map spV)=T.rows.l.map spV:=z3t (by rw [List.length_map,List.length_replicate];rfl)
 have pl2:putList (List.replicate T.tab.C (AVal.agg [.int .i64 0,.int .i64 0])) 0 (T.cols.l.map spV)=T.cols.l.map spV:=z3t (by rw [List.length_map,List.length_replicate];rfl)
 have all_pure:∀ l:List Spn,(l.map spV).all noRef=true:=fun l=>by
  rw [List.all_eq_true]
  intro x hx
  obtain ⟨y,_,rfl⟩:=List.mem_map.1 hx
  rfl
 have hs1:∀ {α:Type} (l:List α),l=[] ∨ (2:Nat)=2:=fun _=>.inr rfl
 have hzr:(T.rows.l.map spV).isEmpty=false:=by
  cases h:T.rows.l with
  | nil=>rw [h] at lr;simp at lr;omega
  | cons a l=>rfl
 have hzc:(T.cols.l.map spV).isEmpty=false:=by
  cases h:T.cols.l with
  | nil=>rw [h] at lc;simp at lc;have:=hO.C1;omega
  | cons a l=>rfl
 have z1:T.rows.sz=2:=(TabV.rowAt hT hR1).2
 have z2:T.cols.sz=2:=(TabV.colAt hT (show 0 < T.tab.C from hO.C1)).2
 obtain ⟨ex,st,hx,hp⟩:=zGB hT hO (T.tab.R - 1) 0 0 _ _ _ _ _ _ _ _ _ _ _ _ _ _ _ _ _ _ _ _ _ _ _ _ _ _ _ _ _ _ _ _ _ _ _ _ _ _ _ _ _ (by omega)
 obtain ⟨rfl,g,jp,rfl⟩:=hp
 refine ⟨g,?_⟩
 have e0:clD T.tab 0=[]:=rfl
 have e1:((0+1:Nat):Int)=1:=rfl
 have eR:T.tab.R - 1+1=T.tab.R:=by omega
 simp only [go_sem,simprocAttr,Try.f96,clH,boxT,hsz,e0,rowR,rowT,e1] at hx
 have htr:∀ Tm V,trunc 8 ⟨Tm,clH T 0 0,[],0,V⟩=⟨Tm,clH T 0 0,[],0,V⟩:=fun Tm V=>by
  unfold trunc clH
  simp [clD,rowT,rowR,underB,underL,AVal.under,boxT]
 have w1:IntKind.i64.wrap 1=1:=by decide
 simp only [clH,boxT,e0,rowR,rowT,List.cons_append,List.nil_append] at htr
 have ap:=zC6 T
 simp only [clP,boxT] at ap
 rw [run_unfold fn96 rfl]
 simp only [go_sem,simprocAttr,Try.f96,z0E,List.length_map,lr,lc,r0,c0,m0,m1,Int.toNat_natCast,bd25]
 rw [apart_ok]
 · simp only [go_sem,simprocAttr,z0E,List.length_map,lr,lc,z1,z2,hzr,hzc,tk1,tk2,pl1,pl2,all_pure,ll]
   rw [exec_loop]
   simp only [go_sem,simprocAttr,hd,hc1,hsz,hcl,List.length_map,c0,m1,Int.toNat_natCast,hra,hrl,htk,hpl,hnr,ap,htr,w1]
   rw [hx]
   simp only [go_sem,simprocAttr,unwind,modeEx,resultsOf,one,eR]
   rfl
 · kernel_rfl
set_option maxRecDepth 10000
set_option maxHeartbeats 2000000
theorem z3M {H:Heap}:∀ (ids seen:List Nat) (n:Nat),(∀ id ∈ ids,∃ g sz es,H[id]?=some (.cells g sz true es))→ids.length≤n→∃ l,reach H n ids seen=some l
 | [],seen,n,_,_=>by cases n <;> exact ⟨_,rfl⟩
 | id :: ids,seen,n,hf,hl=>by
   obtain ⟨n,rfl⟩:∃ m,n=m+1:=⟨n - 1,by simp at hl;omega⟩
   obtain ⟨g,sz,es,hH⟩:=hf id (by simp)
   have ih:=fun seen=>z3M (H:=H) ids seen n (fun x hx=>hf x (by simp [hx])) (by simp at hl;omega)
   simp only [reach,hH,if_true]
   split
   · exact ih _
   · exact ih _
theorem z21 {f:Nat} {args qs:List AVal} {lent:List Nat} {v w:AVal} {H H':Heap} (hw:(env.hint f).whole=false) (hka:(env.hint f).keepAll=false) (hk:(env.hint f).keep=[]) (hro:(env.hint f).ro=false)
    (hl:lend H (env.hint f).lits args 0=some (qs,lent)) (hq:underL 0 qs=true) (hr:runT env f qs [] 0=some (.ret v,H')) (hb:handBack H' 0 [] 4 v=some w) (hn:noRef w=true) (nx:Nat):
    ∃ us,callT env f args 0 H nx=some (.ret w,.ups us)∧(w.noLit=true→us=[]):=by
 unfold callT
 rw [callF_small hw,hl]
 have h0:(lent.all fun id=>decide (0≤id))=true:=List.all_eq_true.2 fun _ _=>by simp
 have h1:(lent.all fun id=>!([]:List Nat).contains id)=true:=List.all_eq_true.2 fun _ _=>by simp
 simp only [refs_noRef.2 qs hq,reach,getAll,h1,hro,List.all_nil,Bool.not_true,Bool.or_false,Bool.and_false,Bool.false_eq_true,if_false,List.map_nil,List.length_nil,(ren_noRef (idx [])).2 qs hq]
 rw [hr]
 simp only [Option.bind_some,callBack,keepOf,hka,hk,Bool.false_eq_true,if_false,List.filter_nil,uniq,getAll,List.length_nil,hb,h0,if_true]
 rw [(ren_noRef _).1 w hn]
 cases hnl:w.noLit with
 | true=>
   refine ⟨[],?_,fun _=>rfl⟩
   simp [callUpd,hro,numbered]
 | false=>
   simp only [Bool.false_and,Bool.or_false]
   split
   · exact ⟨_,rfl,fun h=>by cases h⟩
   · exact ⟨_,rfl,fun h=>by cases h⟩
structure TbAt (H:Heap) (a b q ga gb g:Nat) (ps:Nat→Nat) (t:Tab):Prop where
 rows:H[a]?=some (.cells ga 2 true (t.rows.map spV))
 cols:H[b]?=some (.cells gb 2 true (t.cols.map spV))
 acc:H[q]?=some (.cells g 1 false (vecA t.R fun i=>.ref (ps i) 0 0 t.C false))
 row:∀ i,i < t.R→H[ps i]?=some (.cells 0 2 true (rowA t i))
 ab:a ≠ b
 aq:a ≠ q
 bq:b ≠ q
 pa:∀ i,i < t.R→ps i ≠ a∧ps i ≠ b∧ps i ≠ q
 pp:∀ i j,i < t.R→j < t.R→ps i=ps j→i=j
def memT (t:Tab) (a b q ga gb g:Nat):AVal:=.agg [.ref a ga 0 t.R false,.ref b gb 0 t.C false,.ref q g 0 t.R false]
def canon (t:Tab):TabV:=⟨⟨false,2,t.rows⟩,⟨false,2,t.cols⟩,false,1,t.cells.map fun l=>⟨false,2,l⟩⟩
theorem z0P (t:Tab):(canon t).tab=t:=by
 unfold canon TabV.tab
 simp [Function.comp_def]
theorem z1S {t:Tab} (hR:t.R≤8) (hC:t.C≤8) (hl:t.cells.length=t.R) (hw:∀ l ∈ t.cells,l.length=t.C):(canon t).Wf where
 rows:=.inr rfl
 cols:=.inr rfl
 cells:=.inr rfl
 each s hs:=by obtain ⟨l,_,rfl⟩:=List.mem_map.1 hs;exact .inr rfl
 lr:=by show t.R < _;omega
 lc:=by show t.C < _;omega
 ll:=by simp only [canon,List.length_map];omega
 le s hs:=by
  obtain ⟨l,hl,rfl⟩:=List.mem_map.1 hs
  have:=hw l hl
  show l.length < _;omega
theorem z0V {t:Tab} (hl:t.cells.length=t.R) (hw:∀ l ∈ t.cells,l.length=t.C) {i:Nat} (hi:i < t.R):(rowA t i).length=t.C:=by
 unfold rowA
 rw [List.length_map]
 exact hw _ (z1D (by omega) _)
section
variable {H:Heap} {a b q ga gb g:Nat} {ps:Nat→Nat} {t:Tab}
theorem TbAt.mono (h:TbAt H a b q ga gb g ps t) {H':Heap} (e:∀ i,i=a ∨ i=b ∨ i=q ∨ (∃ j,j < t.R∧i=ps j)→H'[i]?=H[i]?):TbAt H' a b q ga gb g ps t where
 rows:=by rw [e a (.inl rfl)];exact h.rows
 cols:=by rw [e b (.inr (.inl rfl))];exact h.cols
 acc:=by rw [e q (.inr (.inr (.inl rfl)))];exact h.acc
 row i hi:=by rw [e _ (.inr (.inr (.inr ⟨i,hi,rfl⟩)))];exact h.row i hi
 ab:=h.ab
 aq:=h.aq
 bq:=h.bq
 pa:=h.pa
 pp:=h.pp
theorem TbAt.lt (h:TbAt H a b q ga gb g ps t):a < H.length∧b < H.length∧q < H.length∧∀ i,i < t.R→ps i < H.length:=
 ⟨(List.getElem?_eq_some_iff.1 h.rows).1,(List.getElem?_eq_some_iff.1 h.cols).1,(List.getElem?_eq_some_iff.1 h.acc).1,fun i hi=>(List.getElem?_eq_some_iff.1 (h.row i hi)).1⟩
theorem TbAt.more (h:TbAt H a b q ga gb g ps t) (Z:Heap):TbAt (H++Z) a b q ga gb g ps t:=by
 obtain ⟨l1,l2,l3,l4⟩:=h.lt
 refine h.mono fun i hi=>?_
 rw [List.getElem?_append_left]
 rcases hi with rfl | rfl | rfl | ⟨j,hj,rfl⟩
 · exact l1
 · exact l2
 · exact l3
 · exact l4 j hj
theorem TbAt.toLit (h:TbAt H a b q ga gb g ps t) (hl:t.cells.length=t.R) (hw:∀ l ∈ t.cells,l.length=t.C) (ok:Nat→Bool) (ha:ok a=true) (hb:ok b=true) (hq:ok q=true) (hp:∀ i,i < t.R→ok (ps i)=true) (n:Nat):toLit ok H (n+3) (memT t a b q ga gb g)=some (canon t).v:=by
 have t1:(t.rows.map spV).take t.R=t.rows.map spV:=List.take_of_length_le (by simp)
 have t2:(t.cols.map spV).take t.C=t.cols.map spV:=List.take_of_length_le (by simp)
 have t3:(vecA t.R fun i=>AVal.ref (ps i) 0 0 t.C false).take t.R=vecA t.R fun i=>AVal.ref (ps i) 0 0 t.C false:=List.take_of_length_le (by rw [z0C];exact Nat.le_refl _)
 have hm:mapO (Tidy.toLit ok H (n+1)) (vecA t.R fun i=>AVal.ref (ps i) 0 0 t.C false)=some (vecA t.R fun i=>AVal.lit false 2 (rowA t i)):=by
  have:∀ (m:Nat),m≤t.R→mapO (Tidy.toLit ok H (n+1)) ((List.range m).map fun i=>AVal.ref (ps i) 0 0 t.C false)=some ((List.range m).map fun i=>AVal.lit false 2 (rowA t i)):=by
   intro m hm
   have gen:∀ l:List Nat,(∀ i ∈ l,i < t.R)→mapO (Tidy.toLit ok H (n+1)) (l.map fun i=>AVal.ref (ps i) 0 0 t.C false)=some (l.map fun i=>AVal.lit false 2 (rowA t i)):=by
    intro l
    induction l with
    | nil=>intro _;rfl
    | cons i l ih=>
      intro hl'
      have hi:=hl' i (by simp)
      have hr:=h.row i hi
      have hrl:=z0V hl hw hi
      have htk:(rowA t i).take t.C=rowA t i:=List.take_of_length_le (by omega)
      simp only [List.map_cons,mapO,ih fun j hj=>hl' j (by simp [hj])]
      simp [Tidy.toLit,noRef,AVal.under,hr,hp i hi,hrl,htk]
   exact gen _ fun i hi=>by rw [List.mem_range] at hi;omega
  exact this t.R (Nat.le_refl _)
 have ec:(canon t).v=.agg [.lit false 2 (t.rows.map spV),.lit false 2 (t.cols.map spV),.lit false 1 (vecA t.R fun i=>AVal.lit false 2 (rowA t i))]:=by
  show AVal.agg [_,_,.lit false 1 ((t.cells.map fun l=>(⟨false,2,l⟩:SlV)).map SlV.v)]=_
  have e:(t.cells.map fun l=>(⟨false,2,l⟩:SlV)).map SlV.v=vecA t.R fun i=>AVal.lit false 2 (rowA t i):=?_
  · rw [e];rfl
  unfold vecA
  rw [List.map_map]
  apply List.ext_getElem
  · simp [hl]
  · intro i h1 h2
    have hi:i < t.cells.length:=by simpa using h1
    simp [rowA,SlV.v,hi]
 have ea:Tidy.toLit ok H (n+2) (.ref a ga 0 t.R false)=some (.lit false 2 (t.rows.map spV)):=by
  simp [Tidy.toLit,noRef,AVal.under,h.rows,ha,t1]
 have eb:Tidy.toLit ok H (n+2) (.ref b gb 0 t.C false)=some (.lit false 2 (t.cols.map spV)):=by
  simp [Tidy.toLit,noRef,AVal.under,h.cols,hb,t2]
 have eq:Tidy.toLit ok H (n+2) (.ref q g 0 t.R false)=some (.lit false 1 (vecA t.R fun i=>AVal.lit false 2 (rowA t i))):=by
  unfold Tidy.toLit
  simp only [noRef,AVal.under,Nat.not_lt_zero,decide_false,Bool.false_eq_true,if_false,h.acc,hq,decide_true,Nat.zero_add,z0C,Nat.le_refl,Bool.and_true,if_true,List.drop_zero,t3,hm]
  rfl
 rw [ec]
 unfold Tidy.toLit
 simp only [memT,noRef,AVal.under,underL,Nat.not_lt_zero,decide_false,Bool.false_and,Bool.false_eq_true,if_false,mapO,ea,eb,eq]
 rfl
theorem TbAt.lend (h:TbAt H a b q ga gb g ps t) (hR:t.R≤8) (hl:t.cells.length=t.R) (hw:∀ l ∈ t.cells,l.length=t.C) {lits:List Nat} (h0:lits.contains 0=true) {args:List AVal} (ha:underL 0 args=true):∃ ids,lend H lits (memT t a b q ga gb g :: args) 0=some ((canon t).v :: args,ids):=by
 have hlit:=h.toLit hl hw (fun _=>true) rfl rfl rfl (fun _ _=>rfl) 5
 have hre:∃ l,reach H fuel0 (memT t a b q ga gb g).refs []=some l:=by
  have hrefs:(memT t a b q ga gb g).refs=[a,b,q]:=rfl
  rw [hrefs]
  have hab:b ≠ a:=Ne.symm h.ab
  have haq:q ≠ a:=Ne.symm h.aq
  have hbq:q ≠ b:=Ne.symm h.bq
  have hrl:refsL (vecA t.R fun i=>AVal.ref (ps i) 0 0 t.C false)=vecA t.R ps:=by
   unfold vecA
   induction (List.range t.R) with
   | nil=>rfl
   | cons i l ih=>simp [refsL,AVal.refs,ih]
  obtain ⟨l,hl⟩:=z3M (H:=H) (vecA t.R ps) [a,b,q] 61 (fun id hid=>by
   unfold vecA at hid
   obtain ⟨i,hi,rfl⟩:=List.mem_map.1 hid
   exact ⟨_,_,_,h.row i (List.mem_range.1 hi)⟩) (by rw [z0C];omega)
  refine ⟨l,?_⟩
  unfold fuel0
  simp [reach,h.rows,h.cols,h.acc,hab,haq,hbq,hrl,hl]
 obtain ⟨l,hre⟩:=hre
 have hnr:noRef (memT t a b q ga gb g)=false:=rfl
 refine ⟨l++[],?_⟩
 unfold Tidy.lend
 rw [lend_noRef H lits args 1 ha]
 simp only [h0,hnr,Bool.not_false,Bool.and_self,if_true,hlit,hre]
end
theorem renR_rows (f:Nat→Option Nat) (nx:Nat):∀ (rs:List RowD) (p:Nat),(∀ i,i < rs.length→f (p+2 * i)=some (nx+p+2 * i))→renL f (rowR p rs)=rowR (nx+p) rs
 | [],_,_=>rfl
 | r :: rs,p,h=>by
   have h0:=h 0 (by simp)
   have ih:=renR_rows f nx rs (p+2) fun i hi=>by
    have:=h (i+1) (by simp;omega)
    rw [show p+2+2 * i=p+2 * (i+1) by omega,this,show nx+p+2 * (i+1)=nx+(p+2)+2 * i by omega]
   simp only [Nat.mul_zero,Nat.add_zero] at h0
   simp only [rowR,renL,AVal.ren,h0,ih,Nat.add_assoc]
theorem z9Q (f:Nat→Option Nat) (nx sz:Nat):∀ (rs:List RowD) (p:Nat),(∀ i,i < rs.length→f (p+2 * i)=some (nx+p+2 * i))→(rowT sz p rs).map (renB f)=rowT sz (nx+p) rs
 | [],_,_=>rfl
 | r :: rs,p,h=>by
   have h0:=h 0 (by simp)
   have ih:=z9Q f nx sz rs (p+2) fun i hi=>by
    have:=h (i+1) (by simp;omega)
    rw [show p+2+2 * i=p+2 * (i+1) by omega,this,show nx+p+2 * (i+1)=nx+(p+2)+2 * i by omega]
   simp only [Nat.mul_zero,Nat.add_zero] at h0
   simp only [rowT,List.map_cons,renB,renL,AVal.ren,h0,ih,Nat.add_assoc,if_true,Bool.false_eq_true,if_false]
def clP' (nx i:Nat):Nat:=if i=0 then nx+8 else nx+9+2 * i
theorem z61 (T:TabV) (nx g:Nat) (hR:1≤T.tab.R):(clX T nx g).length=9+2 * T.tab.R:=by
 unfold clX
 rw [List.length_append,z0z,z2B]
 simp only [List.length_cons,List.length_nil];omega
theorem z3L {T:TabV} (hT:T.Wf) (hO:T.tab.Ok):∃ g,∀ (ro:Nat) (H:Heap) (nx:Nat),callT env 96 [T.v] ro H nx=some (.ret (memT T.tab (nx+2) (nx+3) (nx+10) 0 0 g),.ups (numbered nx (clX T nx g))):=by
 have hR1:=hO.R1
 obtain ⟨g,hr⟩:=zHu hT hO
 refine ⟨g,fun ro H nx=>?_⟩
 have hlen:=z61 T 0 g hR1
 have hc:∀ j,j < 9+2 * T.tab.R→(List.range' 0 (clX T 0 g).length).contains j=true:=fun j hj=>by
  rw [hlen];simp;omega
 have hf:∀ j,j < 9+2 * T.tab.R→nxF nx (clX T 0 g).length j=some (nx+j):=fun j hj=>by
  unfold nxF;rw [hlen,if_pos hj]
 rw [z1R rfl rfl rfl z0b hr (w:=.agg [.ref 2 0 0 T.tab.R false,.ref 3 0 0 T.tab.C false,.ref 10 g 0 T.tab.R false]) (by
  simp only [handBack,mapO,hc 2 (by omega),hc 3 (by omega),hc 10 (by omega),Bool.or_true,if_true,Option.map_some])]
 have e1:(clX T 0 g).map (renB (nxF nx (clX T 0 g).length))=clX T nx g:=by
  generalize hF:nxF nx (clX T 0 g).length=F at hf ⊢
  have r1:=z9Q F nx 2 (clD T.tab (T.tab.R - 1)) 11 fun i hi=>by
   rw [z2B] at hi
   rw [hf _ (by omega)];congr 1;omega
  have r2:=renR_rows F nx (clD T.tab (T.tab.R - 1)) 11 fun i hi=>by
   rw [z2B] at hi
   rw [hf _ (by omega)];congr 1;omega
  unfold clX
  simp only [List.map_append,List.map_cons,List.map_nil,Nat.zero_add,r1,z3E]
  simp only [renB,renL,AVal.ren,hf 2 (by omega),hf 3 (by omega),hf 8 (by omega),hf 10 (by omega),r2,if_true,Bool.false_eq_true,if_false]
 rw [e1]
 simp only [AVal.ren,renL,hf 2 (by omega),hf 3 (by omega),hf 10 (by omega),memT]
theorem z5U {T:TabV} (hO:T.tab.Ok) (H:Heap) (g:Nat):TbAt (H++clX T H.length g) (H.length+2) (H.length+3) (H.length+10) 0 0 g (clP' H.length) T.tab:=by
 have hR1:=hO.R1
 have hg:∀ i,(H++clX T H.length g)[H.length+i]?=(clX T H.length g)[i]?:=fun i=>by
  rw [List.getElem?_append_right (by omega),Nat.add_sub_cancel_left]
 have hacc:AVal.ref (H.length+8) 0 0 T.tab.C false :: rowR (H.length+11) (clD T.tab (T.tab.R - 1))=vecA T.tab.R fun i=>.ref (clP' H.length i) 0 0 T.tab.C false:=by
  apply List.ext_getElem?
  intro i
  cases i with
  | zero=>rw [vecA_get _ (by omega)];rfl
  | succ i=>
    rw [List.getElem?_cons_succ]
    by_cases hi:i+1 < T.tab.R
    · rw [vecA_get _ hi]
      have hd:(clD T.tab (T.tab.R - 1))[i]?=some (0,rowA T.tab (i+1)):=by
       unfold clD
       rw [List.getElem?_map,List.getElem?_range (by omega)];rfl
      rw [z8P _ _ _ _ hd]
      have hrl:=z0V (t:=T.tab) hO.len hO.wid hi
      show some (AVal.ref (H.length+11+2 * i) 0 0 (rowA T.tab (i+1)).length false)=_
      rw [hrl]
      unfold clP'
      rw [if_neg (by omega),show H.length+9+2 * (i+1)=H.length+11+2 * i by omega]
    · rw [List.getElem?_eq_none (by rw [z1K,z2B];omega),List.getElem?_eq_none (by rw [z0C];omega)]
 refine ⟨?_,?_,?_,fun i hi=>?_,by omega,by omega,by omega,fun i hi=>?_,fun i j hi hj e=>?_⟩
 · rw [hg];rfl
 · rw [hg];rfl
 · rw [hg,← hacc];rfl
 · unfold clP'
   by_cases h0:i=0
   · subst h0;rw [if_pos rfl,hg];rfl
   · rw [if_neg h0,Nat.add_assoc,hg]
     have hd:(clD T.tab (T.tab.R - 1))[i - 1]?=some (0,rowA T.tab i):=by
      unfold clD
      rw [List.getElem?_map,List.getElem?_range (by omega)]
      simp only [Option.map_some]
      rw [show i - 1+1=i by omega]
     have:=z5g 2 (clD T.tab (T.tab.R - 1)) (H.length+11) (i - 1) _ hd
     unfold clX
     rw [List.getElem?_append_right (by simp;omega)]
     simp only [List.length_cons,List.length_nil]
     rw [show 9+2 * i - (0+1+1+1+1+1+1+1+1+1+1+1)=2 * (i - 1) by omega]
     exact this
 · unfold clP'
   split <;> omega
 · unfold clP' at e
   split at e <;> split at e <;> omega
set_option maxRecDepth 10000
set_option maxHeartbeats 2000000
set_option maxRecDepth 10000
set_option maxHeartbeats 2000000
def matM (t:Tab) (x:Nat→Nat→Int):MatV:=⟨false,1,vecA t.R fun i=>⟨false,1,vecA t.C (x i)⟩⟩
def MatAns (t:Tab) (v:AVal):Prop:=(t.ok=false∧v=.tuple [.lit true 0 [],.bool false,.int .i64 60]) ∨ (t.Ok∧canB t=false∧v=.tuple [.lit true 0 [],.bool false,.int .i64 0]) ∨
 (t.Ok∧canB t=true∧∃ x,Fits t x∧v=.tuple [(matM t x).v,.bool true,.int .i64 0])
theorem MatAns.pure {t:Tab} {v:AVal} (h:MatAns t v):noRef v=true:=by
 rcases h with ⟨_,rfl⟩ | ⟨_,_,rfl⟩ | ⟨_,_,x,_,rfl⟩ <;> rfl
set_option maxRecDepth 10000
set_option maxHeartbeats 2000000
def Tab.setCell (t:Tab) (i k:Nat) (x:Spn):Tab:=⟨t.rows,t.cols,t.cells.set i ((t.cells.getD i []).set k x)⟩
theorem z1O {t:Tab} (hO:t.Ok) {i k:Nat} {x:Spn} (hi:i < t.R) (hx:x.ok=true):(t.setCell i k x).Ok:=by
 have hw:∀ l ∈ t.cells.set i ((t.cells.getD i []).set k x),l.length=t.C∧∀ y ∈ l,y.ok=true:=by
  intro l hl
  rcases List.mem_or_eq_of_mem_set hl with h | rfl
  · exact ⟨hO.wid l h,hO.cel l h⟩
  · have h1:t.cells.getD i [] ∈ t.cells:=z1D (by rw [hO.len];exact hi) _
    refine ⟨by rw [List.length_set];exact hO.wid _ h1,fun y hy=>?_⟩
    rcases List.mem_or_eq_of_mem_set hy with h | rfl
    · exact hO.cel _ h1 y h
    · exact hx
 exact { hO with
  len:=by show (t.cells.set i _).length=t.R;rw [List.length_set];exact hO.len
  wid:=fun l hl=>(hw l hl).1
  cel:=fun l hl=>(hw l hl).2 }
theorem z3v {t:Tab} (hO:t.Ok) {i k:Nat} (x:Spn) (hi:i < t.R) (hk:k < t.C) (i' k':Nat):(t.setCell i k x).cell i' k'=if i'=i∧k'=k then x else t.cell i' k':=by
 have hl:=hO.len
 have h1:t.cells.getD i [] ∈ t.cells:=z1D (by omega) _
 have hw:=hO.wid _ h1
 unfold Tab.cell Tab.setCell
 simp only
 by_cases h:i'=i
 · subst h
   have e1:(t.cells.set i' ((t.cells.getD i' []).set k x)).getD i' []=(t.cells.getD i' []).set k x:=by
    rw [List.getD_eq_getElem?_getD,List.getElem?_set_self (by omega)];rfl
   rw [e1]
   by_cases h2:k'=k
   · subst h2
     rw [if_pos ⟨rfl,rfl⟩,List.getD_eq_getElem?_getD,List.getElem?_set_self (by omega)];rfl
   · rw [if_neg (fun e=>h2 e.2),List.getD_eq_getElem?_getD,List.getElem?_set_ne (Ne.symm h2),← List.getD_eq_getElem?_getD]
 · rw [if_neg (fun e=>h e.1)]
   have e1:(t.cells.set i ((t.cells.getD i []).set k x)).getD i' []=t.cells.getD i' []:=by
    rw [List.getD_eq_getElem?_getD,List.getElem?_set_ne (Ne.symm h),← List.getD_eq_getElem?_getD]
   rw [e1]
theorem zL1 {t:Tab} (hl:t.cells.length=t.R) {i k:Nat} (x:Spn) (hi:i < t.R) (i':Nat):rowA (t.setCell i k x) i'=if i'=i then (rowA t i).set k (spV x) else rowA t i':=by
 unfold rowA Tab.setCell
 simp only
 by_cases h:i'=i
 · subst h
   rw [if_pos rfl,List.getD_eq_getElem?_getD (l:=t.cells.set _ _),List.getElem?_set_self (by omega)]
   simp only [Option.getD_some]
   rw [List.map_set]
 · rw [if_neg h,List.getD_eq_getElem?_getD (l:=t.cells.set _ _),List.getElem?_set_ne (Ne.symm h),← List.getD_eq_getElem?_getD]
theorem TbAt.write {H:Heap} {a b q ga gb g:Nat} {ps:Nat→Nat} {t:Tab} (h:TbAt H a b q ga gb g ps t) (hl:t.cells.length=t.R) {i k:Nat} (hi:i < t.R) (x:Spn):
    TbAt (H.set (ps i) (.cells 0 2 true ((rowA t i).set k (spV x)))) a b q ga gb g ps (t.setCell i k x):=by
 obtain ⟨l1,l2,l3,l4⟩:=h.lt
 obtain ⟨p1,p2,p3⟩:=h.pa i hi
 refine ⟨?_,?_,?_,fun j hj=>?_,h.ab,h.aq,h.bq,h.pa,h.pp⟩
 · rw [List.getElem?_set_ne p1];exact h.rows
 · rw [List.getElem?_set_ne p2];exact h.cols
 · rw [List.getElem?_set_ne p3];exact h.acc
 · rw [zL1 hl x hi]
   by_cases e:j=i
   · subst e;rw [if_pos rfl,List.getElem?_set_self (l4 j hi)]
   · rw [if_neg e,List.getElem?_set_ne (fun e'=>e (h.pp i j hi hj e').symm)]
     exact h.row j hj
theorem z2m {t:Tab} (hO:t.Ok) {i k:Nat} (hi:i < t.R) (hk:k < t.C):(rowA t i)[k]?=some (spV (t.cell i k)):=by
 have h1:t.cells.getD i [] ∈ t.cells:=z1D (by rw [hO.len];exact hi) _
 have hw:=hO.wid _ h1
 unfold rowA Tab.cell
 rw [List.getElem?_map,List.getElem?_eq_getElem (by omega),List.getD_eq_getElem?_getD (l:=t.cells.getD i []),List.getElem?_eq_getElem (by omega)]
 rfl
noncomputable def attB (t:Tab) (i k n:Int):Bool:=(t.cell i.toNat k.toNat).has n && canB (t.setCell i.toNat k.toNat ⟨n,n⟩)
def AttAns (t:Tab) (i k n:Int) (v:AVal):Prop:=(askS t i k ≠ 0∧v=.tuple [.lit true 0 [],.bool false,.int .i64 (askS t i k)]) ∨
 (askS t i k=0∧attB t i k n=false∧v=.tuple [.lit true 0 [],.bool false,.int .i64 0]) ∨
 (askS t i k=0∧t.Ok∧outB t i k=false∧attB t i k n=true∧∃ x,Fits (t.setCell i.toNat k.toNat ⟨n,n⟩) x∧v=.tuple [(matM t x).v,.bool true,.int .i64 0])
theorem AttAns.pure {t:Tab} {i k n:Int} {v:AVal} (h:AttAns t i k n v):noRef v=true:=by
 rcases h with ⟨_,rfl⟩ | ⟨_,_,rfl⟩ | ⟨_,_,_,_,x,_,rfl⟩ <;> rfl
set_option maxRecDepth 10000
set_option maxHeartbeats 4000000
def zHS (bf:Array Nat):List Foot→Bool
 | []=>true
 | a :: l=>(l.all fun b=>(bf.getD b.i 0).testBit a.i || !clash a b) && zHS bf l
theorem z0L {bf:Array Nat}:∀ {l:List Foot},zHS bf l=true→apart bf l=true
 | [],_=>rfl
 | a :: l,h=>by
   simp only [zHS,Bool.and_eq_true] at h
   simp only [apart,Bool.and_eq_true]
   refine ⟨?_,z0L h.2⟩
   rw [← h.1]
   congr 1
   funext b
   exact Bool.or_comm _ _
theorem z29 (l:List Spn):(l.map spV).all noRef=true:=by
 rw [List.all_eq_true]
 intro x hx
 obtain ⟨y,_,rfl⟩:=List.mem_map.1 hx
 rfl
theorem zAB {H:Heap} {id:Nat} (hH:H[id]?=some (.cells 0 0 false [])) (cl:Bool) {l:List Spn} (h1:l ≠ []) (h8:l.length≤8) (nx:Nat):z0H env 0 nx 22 (.ref id 0 0 0 false) (.lit cl 2 (l.map spV)) H=some (.ref id 1 0 l.length false,[(id,.cells 1 2 true (l.map spV))]):=by
 have hnr:=z29 l
 have hb:l.length * 17≤z04:=by unfold z04;omega
 have hlt:¬ (l.length≤0):=by
  have:=List.length_pos_iff.2 h1
  omega
 have hfl:z0s env 8 39=true:=rfl
 simp [z0H,ti22,ti39,z15,hH,hfl,hnr,hb,h1,AVal.cellsOf,AVal.isTuple]
def cpD (t:Tab) (n:Nat):List RowD:=(List.range n).map fun i=>(0,rowA t i)
theorem zBA (t:Tab) (n:Nat):cpD t (n+1)=cpD t n++[(0,rowA t n)]:=by simp [cpD,List.range_succ]
theorem z16 (t:Tab) (n:Nat):(cpD t n).length=n:=by simp [cpD]
def cpH (T:TabV) (g n:Nat):Heap:=[boxT T,.cells 0 3 false [.agg [.lit true 0 [],.lit true 0 [],.lit true 0 []]],.cells 1 2 true (T.rows.l.map spV),.cells 1 2 true (T.cols.l.map spV),accR g 6 (cpD T.tab n),
 .cells 0 3 false [.agg [.ref 2 1 0 T.tab.R false,.ref 3 1 0 T.tab.C false,.ref 4 (gR g (cpD T.tab n)) 0 n false]]]++rowT 2 6 (cpD T.tab n)
theorem zDn {T:TabV} (hT:T.Wf) (hO:T.tab.Ok):∀ (n m g:Nat) (j0 j5 j6 j7 j8 j9 j10 j11 j12 j13 j14 j15 j16 j17 j18 j19 j20 j21 j22 j23 j24 j25 j26 j27 j28 j29 j30 j31 j32 j33 j34 j35 j36:AVal),m+n=T.tab.R →
    Goes (execT env (Try.f89.at [1,1,1,1,0,1,0]) ⟨[j0,.ptr 0 0 0 0,.ptr 1 0 0 0,.ptr 5 0 0 0,.int .i64 m,j5,j6,j7,j8,j9,j10,j11,j12,j13,j14,j15,j16,j17,j18,j19,j20,j21,j22,j23,j24,j25,j26,j27,j28,j29,j30,j31,j32,j33,j34,j35,j36],cpH T g m,[],0,[3,33]⟩) fun ex st=>
     ex=.exit 0∧∃ (g:Nat),FrP 37 [(2,.ptr 1 0 0 0),(3,.ptr 5 0 0 0)] (cpH T g T.tab.R) [] 0 [3,33] st:=by
 have hR8:=hO.R8
 have hC8:=hO.C8
 have hC1:=hO.C1
 have ll:T.cells.length=T.tab.R:=by have:=hO.len;simpa [TabV.tab] using this
 intro n
 induction n with
 | zero=>
   intro m g;intros;rename_i hm
   have hd:decide ((m:Int) < (T.tab.R:Int))=false:=by simp;omega
   have:m=T.tab.R:=by omega
   subst this
   simp only [go_sem,simprocAttr,Try.f89,cpH,boxT]
   rw [exec_loop]
   simp only [go_sem,simprocAttr,List.length_map,ll,hd]
   exact ⟨g,frP (by kernel_rfl)⟩
 | succ n ih=>
   intro m g;intros;rename_i hm
   have hmR:m < T.tab.R:=by omega
   have hd:decide ((m:Int) < (T.tab.R:Int))=true:=by simp;omega
   have i0:(0:Int)≤(m:Int):=by omega
   obtain ⟨c,hcm,hc1,_,hsz,hcl,hce⟩:=TabV.at hT hO hmR (show 0 < T.tab.C from hO.C1)
   have hsz:=eq_true hsz
   have hra:c.l.map spV=rowA T.tab m:=by unfold rowA;rw [hce]
   have hrl:(rowA T.tab m).length=T.tab.C:=by rw [← hra,List.length_map,hcl]
   have hnr:(rowA T.tab m).all noRef=true:=z72 _ _
   have hne:rowA T.tab m ≠ []:=fun e=>by rw [e] at hrl;simp at hrl;omega
   have hTl:(rowT 2 6 (cpD T.tab m)).length=2 * m:=by rw [z0z,z16]
   have hCl:(cpH T g m).length=2 * m+1+1+1+1+1+1:=by unfold cpH;rw [List.length_append,hTl];simp only [List.length_cons,List.length_nil];omega
   have ap1:=fun (H:Heap) (nx:Nat)=>append_lit (E:=env) (ro:=0) (nx:=nx) (sz:=2) (es:=[]) (H:=H) (x:=.lit c.cl 2 (rowA T.tab m)) (nsz:=2) (new:=rowA T.tab m) ti22 ti39 rfl ⟨by decide,rfl,rfl⟩ rfl hne (.inl rfl) (by rw [hrl];show (0+T.tab.C) * 17≤z04;unfold z04;omega) (fun _=>hnr)
   obtain ⟨g',ap2⟩:=z7M (t:=23) (H:=(cpH T g m++[.cells 0 2 true (rowA T.tab m)])++[.cells 0 1 false [.ref (2 * m+1+1+1+1+1+1) 0 0 T.tab.C false]]) (q:=4) (j:=2 * m+1+1+1+1+1+1+1) (g:=g) (p:=6) (rs:=cpD T.tab m) (r:=(0,rowA T.tab m)) (cl:=false) (ro:=0) ti23 ti22 ⟨rfl,rfl,rfl,rfl⟩ rfl
    (by unfold cpH;rfl) (by
      rw [z08 (z06 hCl _) _,z16]
      show some (Blk.cells 0 1 false [AVal.ref (2 * m+1+1+1+1+1+1) 0 0 T.tab.C false])=some (Blk.cells 0 1 false [AVal.ref (6+2 * m) 0 0 (rowA T.tab m).length false])
      rw [hrl,show 6+2 * m=2 * m+1+1+1+1+1+1 by omega]) (by rw [z16];omega) (2 * m+1+1+1+1+1+1+1+1) (Nat.zero_le _)
   rw [← zBA,z16,z16] at ap2
   have ht1:rowT 2 6 (cpD T.tab m)++[.cells 0 2 true (rowA T.tab m)]++[.cells 0 1 false [.ref (2 * m+1+1+1+1+1+1) 0 0 T.tab.C false]]=rowT 2 6 (cpD T.tab (m+1)):=by
    rw [zBA,z4Q,z16,hrl,show 6+2 * m=2 * m+1+1+1+1+1+1 by omega];simp
   have hl1:∀ b,(rowT 2 6 (cpD T.tab m)++[b]).length=2 * m+1:=fun b=>z06 hTl b
   have hTl':(rowT 2 6 (cpD T.tab (m+1))).length=2 * m+1+1:=by rw [z0z,z16];omega
   have hmem:AVal.ref (2 * m+1+1+1+1+1+1) 0 0 T.tab.C false ∈ rowR 6 (cpD T.tab (m+1)):=by
    rw [zBA,z3g,z16,hrl,show 6+2 * m=2 * m+1+1+1+1+1+1 by omega];simp
   have hcne:cpD T.tab (m+1) ≠ []:=fun e=>by have:=z16 T.tab (m+1);rw [e] at this;simp at this
   have htr:∀ Tm V,trunc (2 * m+1+1+1+1+1+1) ⟨Tm,cpH T g' (m+1),[],0,V⟩=⟨Tm,cpH T g' (m+1),[],0,V⟩:=fun Tm V=>z3S (i:=4) (g:=g') (sz:=1) (es:=rowR 6 (cpD T.tab (m+1))) (by omega) (by unfold cpH accR;rw [if_neg hcne];rfl) hmem (Nat.le_refl _)
   have wi:IntKind.i64.wrap ((m:Int)+1)=((m+1:Nat):Int):=z00 (by omega)
   have y60:(0 < 2 * m+1+1+1+1+1+1)=True:=eq_true (by omega)
   have y61:(1 < 2 * m+1+1+1+1+1+1)=True:=eq_true (by omega)
   have y62:(2 < 2 * m+1+1+1+1+1+1)=True:=eq_true (by omega)
   have y63:(3 < 2 * m+1+1+1+1+1+1)=True:=eq_true (by omega)
   have y64:(4 < 2 * m+1+1+1+1+1+1)=True:=eq_true (by omega)
   have y65:(5 < 2 * m+1+1+1+1+1+1)=True:=eq_true (by omega)
   have y70:(0 < 2 * m+1+1+1+1+1+1+1)=True:=eq_true (by omega)
   have y71:(1 < 2 * m+1+1+1+1+1+1+1)=True:=eq_true (by omega)
   have y72:(2 < 2 * m+1+1+1+1+1+1+1)=True:=eq_true (by omega)
   have y73:(3 < 2 * m+1+1+1+1+1+1+1)=True:=eq_true (by omega)
   have y74:(4 < 2 * m+1+1+1+1+1+1+1)=True:=eq_true (by omega)
   have y75:(5 < 2 * m+1+1+1+1+1+1+1)=True:=eq_true (by omega)
   have y80:(0 < 2 * m+1+1+1+1+1+1+1+1)=True:=eq_true (by omega)
   have y81:(1 < 2 * m+1+1+1+1+1+1+1+1)=True:=eq_true (by omega)
   have y82:(2 < 2 * m+1+1+1+1+1+1+1+1)=True:=eq_true (by omega)
   have y83:(3 < 2 * m+1+1+1+1+1+1+1+1)=True:=eq_true (by omega)
   have y84:(4 < 2 * m+1+1+1+1+1+1+1+1)=True:=eq_true (by omega)
   have y85:(5 < 2 * m+1+1+1+1+1+1+1+1)=True:=eq_true (by omega)
   have z1:(4 < 2 * m+1+1+1+1+1+1+1+1)=True:=eq_true (by omega)
   have z2:(5 < 2 * m+1+1+1+1+1+1+1+1)=True:=eq_true (by omega)
   have ih':=ih (m+1) g'
   simp only [cpH,boxT,List.cons_append,List.nil_append,ht1] at ap2 htr
   simp only [go_sem,simprocAttr,Try.f89,cpH,boxT] at ih' ⊢
   rw [exec_loop]
   simp only [go_sem,simprocAttr,List.length_map,ll,hd,i0,Int.toNat_natCast,hc1,hcl,hsz,hra,hrl,hTl,hl1,ap1,ap2,ht1,hTl',z1,z2,Nat.lt_add_one,y60,y61,y62,y63,y64,y65,y70,y71,y72,y73,y74,y75,y80,y81,y82,y83,y84,y85]
   rw [apart_ok]
   · simp only [go_sem,simprocAttr,hTl',htr,wi]
     exact ih' _ _ _ _ _ _ _ _ _ _ _ _ _ _ _ _ _ _ _ _ _ _ _ _ _ _ _ _ _ _ _ _ _ (by omega)
   · exact z0L (by kernel_rfl)
def cpX (T:TabV) (nx g:Nat):Heap:=[boxT T,.cells 0 3 false [memT T.tab (nx+2) (nx+3) (nx+4) 1 1 g],.cells 1 2 true (T.rows.l.map spV),.cells 1 2 true (T.cols.l.map spV),.cells g 1 false (rowR (nx+6) (cpD T.tab T.tab.R)),
 .cells 0 3 false [memT T.tab (nx+2) (nx+3) (nx+4) 1 1 g]]++rowT 2 (nx+6) (cpD T.tab T.tab.R)
theorem zGD {T:TabV} (hT:T.Wf) (hO:T.tab.Ok):∃ g,runT env 89 [T.v] [] 0=some (.ret (memT T.tab 2 3 4 1 1 g),cpX T 0 g):=by
 have hR8:=hO.R8
 have hC8:=hO.C8
 have hR1:=hO.R1
 have hC1:=hO.C1
 have lr:T.rows.l.length=T.tab.R:=rfl
 have lc:T.cols.l.length=T.tab.C:=rfl
 have hrn:T.rows.l ≠ []:=fun e=>by rw [e] at lr;simp at lr;omega
 have hcn:T.cols.l ≠ []:=fun e=>by rw [e] at lc;simp at lc;omega
 have z1:T.rows.sz=2:=(TabV.rowAt hT hR1).2
 have z2:T.cols.sz=2:=(TabV.colAt hT (show 0 < T.tab.C from hC1)).2
 obtain ⟨ex,st,hx,hp⟩:=zDn hT hO T.tab.R 0 0 _ _ _ _ _ _ _ _ _ _ _ _ _ _ _ _ _ _ _ _ _ _ _ _ _ _ _ _ _ _ _ _ _ (by omega)
 obtain ⟨rfl,g,jp,rfl⟩:=hp
 refine ⟨g,?_⟩
 have e0:cpD T.tab 0=[]:=rfl
 have hne:cpD T.tab T.tab.R ≠ []:=fun e=>by have:=z16 T.tab T.tab.R;rw [e] at this;simp at this;omega
 have eA:accR g 6 (cpD T.tab T.tab.R)=.cells g 1 false (rowR 6 (cpD T.tab T.tab.R)):=if_neg hne
 have eG:gR g (cpD T.tab T.tab.R)=g:=if_neg hne
 have a1:=zAB (H:=[boxT T,.cells 0 3 false [.agg [.lit true 0 [],.lit true 0 [],.lit true 0 []]],.cells 0 0 false [],.cells 0 0 false [],.cells 0 0 false [],.cells 0 3 false [.agg [.ref 2 0 0 0 false,.ref 3 0 0 0 false,.ref 4 0 0 0 false]]]) (id:=2) rfl T.rows.cl hrn (by omega) 6
 have a2:=zAB (H:=[boxT T,.cells 0 3 false [.agg [.lit true 0 [],.lit true 0 [],.lit true 0 []]],.cells 1 2 true (T.rows.l.map spV),.cells 0 0 false [],.cells 0 0 false [],.cells 0 3 false [.agg [.ref 2 1 0 T.tab.R false,.ref 3 0 0 0 false,.ref 4 0 0 0 false]]]) (id:=3) rfl T.cols.cl hcn (by omega) 6
 simp only [boxT,lr,lc] at a1 a2
 simp only [go_sem,simprocAttr,Try.f89,cpH,boxT,e0,rowT,zEx,zIS,Int.ofNat_zero,Int.natCast_zero] at hx
 rw [run_unfold fn89 rfl]
 simp only [go_sem,simprocAttr,Try.f89,z0E,z1,z2,a1,a2]
 rw [hx]
 simp only [go_sem,simprocAttr,cpH,boxT,eA,eG,unwind,modeEx,resultsOf,one]
 rfl
theorem zDo (T:TabV) (nx g:Nat):(cpX T nx g).length=6+2 * T.tab.R:=by
 unfold cpX
 rw [List.length_append,z0z,z16]
 simp only [List.length_cons,List.length_nil]
theorem z2s {T:TabV} (hT:T.Wf) (hO:T.tab.Ok):∃ g,∀ (ro:Nat) (H:Heap) (nx:Nat),callT env 89 [T.v] ro H nx=some (.ret (memT T.tab (nx+2) (nx+3) (nx+4) 1 1 g),.ups (numbered nx (cpX T nx g))):=by
 have hR1:=hO.R1
 obtain ⟨g,hr⟩:=zGD hT hO
 refine ⟨g,fun ro H nx=>?_⟩
 have hlen:=zDo T 0 g
 have hc:∀ j,j < 6+2 * T.tab.R→(List.range' 0 (cpX T 0 g).length).contains j=true:=fun j hj=>by
  rw [hlen];simp;omega
 have hf:∀ j,j < 6+2 * T.tab.R→nxF nx (cpX T 0 g).length j=some (nx+j):=fun j hj=>by
  unfold nxF;rw [hlen,if_pos hj]
 rw [z1R rfl rfl rfl z0b hr (w:=memT T.tab 2 3 4 1 1 g) (by
  unfold memT
  simp only [handBack,mapO,hc 2 (by omega),hc 3 (by omega),hc 4 (by omega),Bool.or_true,if_true,Option.map_some])]
 have e1:(cpX T 0 g).map (renB (nxF nx (cpX T 0 g).length))=cpX T nx g:=by
  generalize hF:nxF nx (cpX T 0 g).length=F at hf ⊢
  have r1:=z9Q F nx 2 (cpD T.tab T.tab.R) 6 fun i hi=>by
   rw [z16] at hi
   rw [hf _ (by omega)];congr 1;omega
  have r2:=renR_rows F nx (cpD T.tab T.tab.R) 6 fun i hi=>by
   rw [z16] at hi
   rw [hf _ (by omega)];congr 1;omega
  unfold cpX memT
  simp only [List.map_append,List.map_cons,List.map_nil,Nat.zero_add,r1,z3E]
  simp only [renB,renL,AVal.ren,hf 2 (by omega),hf 3 (by omega),hf 4 (by omega),r2,if_true,Bool.false_eq_true,if_false]
 rw [e1]
 simp only [AVal.ren,renL,hf 2 (by omega),hf 3 (by omega),hf 4 (by omega),memT]
def cpP (nx i:Nat):Nat:=nx+6+2 * i
theorem z4F {T:TabV} (hO:T.tab.Ok) (H:Heap) (g:Nat):TbAt (H++cpX T H.length g) (H.length+2) (H.length+3) (H.length+4) 1 1 g (cpP H.length) T.tab:=by
 have hR1:=hO.R1
 have hg:∀ i,(H++cpX T H.length g)[H.length+i]?=(cpX T H.length g)[i]?:=fun i=>by
  rw [List.getElem?_append_right (by omega),Nat.add_sub_cancel_left]
 have hd:∀ i,i < T.tab.R→(cpD T.tab T.tab.R)[i]?=some (0,rowA T.tab i):=fun i hi=>by
  unfold cpD
  rw [List.getElem?_map,List.getElem?_range hi];try rfl
 have hacc:rowR (H.length+6) (cpD T.tab T.tab.R)=vecA T.tab.R fun i=>.ref (cpP H.length i) 0 0 T.tab.C false:=by
  apply List.ext_getElem?
  intro i
  by_cases hi:i < T.tab.R
  · rw [vecA_get _ hi,z8P _ _ _ _ (hd i hi)]
    have hrl:=z0V (t:=T.tab) hO.len hO.wid hi
    show some (AVal.ref (H.length+6+2 * i) 0 0 (rowA T.tab i).length false)=_
    rw [hrl];try rfl
  · rw [List.getElem?_eq_none (by rw [z1K,z16];omega),List.getElem?_eq_none (by rw [z0C];omega)]
 refine ⟨?_,?_,?_,fun i hi=>?_,by omega,by omega,by omega,fun i hi=>?_,fun i j hi hj e=>?_⟩
 · rw [hg];rfl
 · rw [hg];rfl
 · rw [hg,← hacc];rfl
 · unfold cpP
   rw [Nat.add_assoc,hg]
   have:=z5g 2 (cpD T.tab T.tab.R) (H.length+6) i _ (hd i hi)
   unfold cpX
   rw [List.getElem?_append_right (by simp only [List.length_cons,List.length_nil];omega)]
   simp only [List.length_cons,List.length_nil]
   rw [show 6+2 * i - (0+1+1+1+1+1+1)=2 * i by omega]
   exact this
 · unfold cpP;omega
 · unfold cpP at e;omega
set_option maxRecDepth 10000
set_option maxHeartbeats 4000000
def colL (t:Tab) (k n:Nat):List Spn:=(List.range n).map fun i=>t.cell i k
def Tab.turn (t:Tab):Tab:=⟨t.cols,t.rows,(List.range t.C).map fun k=>colL t k t.R⟩
def colN (t:Tab) (k n:Nat):List AVal:=(colL t k n).map spV
theorem z62 (t:Tab) (k n:Nat):(colL t k n).length=n:=by simp [colL]
theorem z0x (t:Tab) (k n:Nat):(colN t k n).length=n:=by simp [colN,colL]
theorem zCG (t:Tab) (k n:Nat):colN t k (n+1)=colN t k n++[spV (t.cell n k)]:=by simp [colN,colL,List.range_succ]
def accN (l:List AVal):Blk:=if l=[] then .cells 0 0 false [] else .cells l.length 2 true l
theorem z2c {l:List AVal} (h:l ≠ []):accN l=.cells l.length 2 true l:=if_neg h
theorem z2M {H:Heap} {id n:Nat} {es:List AVal} {x:Spn} (hH:H[id]?=some (accN es)) (hn:es.length=n) (hb:n < 2 ^ 30) (nx:Nat) {ro:Nat} (hro:ro≤id):
    z0H env ro nx 22 (.ref id n 0 n false) (.lit true 2 [spV x]) H=some (.ref id (n+1) 0 (n+1) false,[(id,accN (es++[spV x]))]):=by
 subst hn
 have hfl:z0s env 8 39=true:=rfl
 have hne:es++[spV x] ≠ []:=by simp
 have hln:(es++[spV x]).length=es.length+1:=by simp
 by_cases h:es=[]
 · subst h
   have hH':H[id]?=some (.cells 0 0 false []):=hH
   have hnr:noRef (spV x)=true:=rfl
   have hm:17≤z04:=by decide
   simp [z0H,ti22,ti39,z15,hH',hfl,hro,z1Y,accN,AVal.cellsOf,AVal.isTuple,hnr,hm]
 · have hgr:=append_ref (E:=env) (ro:=ro) (nx:=nx) (H:=H) (id:=id) (g:=es.length) (len:=es.length) (x:=.lit true 2 [spV x]) (nsz:=2) (new:=[spV x]) (fl:=true) (bs:=es) ti22 ti39 rfl ⟨by decide,rfl,rfl⟩ rfl (by simp)
     (by rw [hH,accN,if_neg h]) rfl (List.length_pos_iff.2 h) hro (by show (es.length+1) * 17≤2 ^ 45;omega) (fun _=>rfl)
   rw [hgr,accN,if_neg hne,hln]
   rfl
theorem zFr {T:TabV} (hT:T.Wf) (hO:T.tab.Ok) {X:Heap} {nx:Nat} (hX:X.length=nx) (h0:X[0]?=some (boxT T)) (hn:0 < nx) {k:Nat} (hk:k < T.tab.C):∀ (n i:Nat) (j0 j7 j8 j9 j10 j11 j12 j13 j14 j15 j16 j17 j18 j19 j20 j21 j22 j23 j24 j25 j26 j27 j28 j29 j30 j31 j32 j33 j34 j35 j36 j37 j38 j39 j40 j41 j42 j43 j44 j45 j46 j47:AVal),i+n=T.tab.R →
    Goes (execT env (Try.f91.at [1,1,0,1,0,0,1,0,0,1,0,1,0]) ⟨[j0,.ptr 0 0 0 0,.ptr 1 0 0 0,.ptr 7 0 0 0,.int .i64 k,.ref nx i 0 i false,.int .i64 i,j7,j8,j9,j10,j11,j12,j13,j14,j15,j16,j17,j18,j19,j20,j21,j22,j23,j24,j25,j26,j27,j28,j29,j30,j31,j32,j33,j34,j35,j36,j37,j38,j39,j40,j41,j42,j43,j44,j45,j46,j47],X++[accN (colN T.tab k i)],[],0,[3,5,44]⟩) fun ex s=>
     ex=.exit 2∧FrP 48 [(1,.ptr 0 0 0 0),(2,.ptr 1 0 0 0),(3,.ptr 7 0 0 0),(4,.int .i64 k),(5,.ref nx T.tab.R 0 T.tab.R false)] (X++[accN (colN T.tab k T.tab.R)]) [] 0 [3,5,44] s:=by
 have hR8:=hO.R8
 have hC8:=hO.C8
 have lr:T.rows.l.length=T.tab.R:=rfl
 intro n
 induction n with
 | zero=>
   intro i;intros;rename_i hi
   have hd:decide ((i:Int) < (T.tab.R:Int))=false:=by simp;omega
   have:i=T.tab.R:=by omega
   subst this
   have hL:=z08 hX (accN (colN T.tab k T.tab.R))
   have h0':∀ b,(X++[b])[0]?=some (boxT T):=fun b=>by rw [z4d hX _ hn,h0]
   simp only [boxT] at h0'
   simp only [go_sem,simprocAttr,Try.f91]
   rw [exec_loop]
   simp only [go_sem,simprocAttr,h0',List.length_map,lr,hd]
   exact frP (by kernel_rfl)
 | succ n ih=>
   intro i;intros;rename_i hi
   have hiR:i < T.tab.R:=by omega
   have hd:decide ((i:Int) < (T.tab.R:Int))=true:=by simp;omega
   have i0:(0:Int)≤(i:Int):=by omega
   have k0:(0:Int)≤(k:Int):=by omega
   obtain ⟨c,_,q1,q2,q3,_,_⟩:=TabV.at hT hO hiR hk
   have q3:=eq_true q3
   have h0':∀ b,(X++[b])[0]?=some (boxT T):=fun b=>by rw [z4d hX _ hn,h0]
   have ap:=z2M (H:=X++[accN (colN T.tab k i)]) (id:=nx) (n:=i) (es:=colN T.tab k i) (x:=T.tab.cell i k) (z08 hX _) (z0x _ _ _) (by omega) (nx+1) (ro:=0) (Nat.zero_le _)
   rw [← zCG] at ap
   have hL:∀ b,(X++[b]).length=nx+1:=fun b=>z06 hX b
   have hst:∀ b b',(X++[b]).set nx b'=X++[b']:=fun b b'=>z0d hX b b'
   have lt1:(nx < nx+1)=True:=eq_true (by omega)
   have htr:∀ Tm b,trunc (nx+1) ⟨Tm,X++[b],[],0,[3,5,44]⟩=⟨Tm,X++[b],[],0,[3,5,44]⟩:=fun Tm b=>by
    unfold trunc
    rw [if_pos (by rw [z06 hX];exact Nat.le_refl _)]
   have ih':=ih (i+1)
   simp only [boxT] at h0'
   simp only [go_sem,simprocAttr,Try.f91] at ih' ⊢
   rw [exec_loop]
   simp only [go_sem,simprocAttr,h0',List.length_map,lr,hd,i0,k0,Int.toNat_natCast,q1,q2,q3,hL,ap,hst,lt1,htr,z00 (show i < 2 ^ 63 - 1 by omega)]
   exact ih' _ _ _ _ _ _ _ _ _ _ _ _ _ _ _ _ _ _ _ _ _ _ _ _ _ _ _ _ _ _ _ _ _ _ _ _ _ _ _ _ _ _ (by omega)
def tuD (t:Tab) (n:Nat):List RowD:=(List.range n).map fun k=>(t.R,colN t (k+1) t.R)
theorem zBs (t:Tab) (n:Nat):tuD t (n+1)=tuD t n++[(t.R,colN t (n+1) t.R)]:=by simp [tuD,List.range_succ]
theorem tuD_length (t:Tab) (n:Nat):(tuD t n).length=n:=by simp [tuD]
def tuH (T:TabV) (n:Nat):Heap:=[boxT T,.cells 0 3 false [.agg [.lit true 0 [],.lit true 0 [],.lit true 0 []]],.cells 0 2 true (T.cols.l.map spV),.cells 0 2 true (T.rows.l.map spV),.cells 0 0 false [],.cells 0 0 false [],.cells 0 0 false [],
 .cells 0 3 false [.agg [.ref 2 0 0 T.tab.C false,.ref 3 0 0 T.tab.R false,.ref 10 n 0 (n+1) false]],.cells T.tab.R 2 true (colN T.tab 0 T.tab.R),.cells 0 1 false [.ref 8 T.tab.R 0 T.tab.R false],.cells n 1 false (.ref 8 T.tab.R 0 T.tab.R false :: rowR 11 (tuD T.tab n))]++rowT 2 11 (tuD T.tab n)
theorem zLS {T:TabV} (hT:T.Wf) (hO:T.tab.Ok):∀ (n m:Nat) (j0 j5 j6 j7 j8 j9 j10 j11 j12 j13 j14 j15 j16 j17 j18 j19 j20 j21 j22 j23 j24 j25 j26 j27 j28 j29 j30 j31 j32 j33 j34 j35 j36 j37 j38 j39 j40 j41 j42 j43 j44 j45 j46 j47:AVal),m+1+n=T.tab.C →
    Goes (execT env (Try.f91.at [1,1,0,1,0]) ⟨[j0,.ptr 0 0 0 0,.ptr 1 0 0 0,.ptr 7 0 0 0,.int .i64 (m+1:Nat),j5,j6,j7,j8,j9,j10,j11,j12,j13,j14,j15,j16,j17,j18,j19,j20,j21,j22,j23,j24,j25,j26,j27,j28,j29,j30,j31,j32,j33,j34,j35,j36,j37,j38,j39,j40,j41,j42,j43,j44,j45,j46,j47],tuH T m,[],0,[3,5,44]⟩) fun ex s=>
     ex=.exit 0∧FrP 48 [(2,.ptr 1 0 0 0),(3,.ptr 7 0 0 0)] (tuH T (T.tab.C - 1)) [] 0 [3,5,44] s:=by
 have hR8:=hO.R8
 have hC8:=hO.C8
 have hR1:=hO.R1
 have lc:T.cols.l.length=T.tab.C:=rfl
 intro n
 induction n with
 | zero=>
   intro m;intros;rename_i hm
   have hd:decide (((m+1:Nat):Int) < (T.tab.C:Int))=false:=by simp;omega
   have e:T.tab.C - 1=m:=by omega
   rw [e]
   simp only [go_sem,simprocAttr,Try.f91,tuH,boxT]
   rw [exec_loop]
   simp only [go_sem,simprocAttr,List.length_map,lc,hd]
   exact frP (by kernel_rfl)
 | succ n ih=>
   intro m;intros;rename_i hm
   have hmC:m+1 < T.tab.C:=by omega
   have hd:decide (((m+1:Nat):Int) < (T.tab.C:Int))=true:=by simp;omega
   have hTl:(rowT 2 11 (tuD T.tab m)).length=2 * m:=by rw [z0z,tuD_length]
   have hCl:(tuH T m).length=2 * m+1+1+1+1+1+1+1+1+1+1+1:=by unfold tuH;rw [List.length_append,hTl];simp only [List.length_cons,List.length_nil];omega
   obtain ⟨ex,st,hx,hp⟩:=zFr hT hO hCl (by unfold tuH;rfl) (by omega) hmC T.tab.R 0 _ _ _ _ _ _ _ _ _ _ _ _ _ _ _ _ _ _ _ _ _ _ _ _ _ _ _ _ _ _ _ _ _ _ _ _ _ _ _ _ _ _ (by omega)
   obtain ⟨rfl,jp,rfl⟩:=hp
   have hcne:colN T.tab (m+1) T.tab.R ≠ []:=fun e=>by have:=z0x T.tab (m+1) T.tab.R;rw [e] at this;simp at this;omega
   have hrl:=z0x T.tab (m+1) T.tab.R
   have c0:colN T.tab (m+1) 0=[]:=rfl
   have a0:accN []=.cells 0 0 false []:=rfl
   rw [c0,a0,z2c hcne,hrl] at hx
   have hl1:∀ b,(rowT 2 11 (tuD T.tab m)++[b]).length=2 * m+1:=fun b=>z06 hTl b
   have hl2:∀ b b',(rowT 2 11 (tuD T.tab m)++[b]++[b']).length=2 * m+1+1:=fun b b'=>z06 (hl1 b) b'
   have hel:z15 ((tuH T m++[.cells T.tab.R 2 true (colN T.tab (m+1) T.tab.R)])++[.cells 0 1 false [.ref (2 * m+1+1+1+1+1+1+1+1+1+1+1) T.tab.R 0 T.tab.R false]]) (.ref (2 * m+1+1+1+1+1+1+1+1+1+1+1+1) 0 0 1 false)=some (1,[.ref (2 * m+1+1+1+1+1+1+1+1+1+1+1) T.tab.R 0 T.tab.R false]):=by
    have:=z08 (z06 hCl (.cells T.tab.R 2 true (colN T.tab (m+1) T.tab.R))) (.cells 0 1 false [.ref (2 * m+1+1+1+1+1+1+1+1+1+1+1) T.tab.R 0 T.tab.R false])
    simp only [z15,this]
    rfl
   have ap:=append_ref (E:=env) (ro:=0) (nx:=2 * m+1+1+1+1+1+1+1+1+1+1+1+1+1) (g:=m) (id:=10) (len:=m+1) (fl:=false) (bs:=.ref 8 T.tab.R 0 T.tab.R false :: rowR 11 (tuD T.tab m)) ti23 ti22 hel ⟨by decide,rfl,rfl⟩ rfl (by simp) rfl (by simp [z1K,tuD_length]) (by omega) (Nat.zero_le _) (by unfold z04;simp only [List.length_singleton];omega) (fun h=>by cases h)
   have hr1:(AVal.ref 8 T.tab.R 0 T.tab.R false :: rowR 11 (tuD T.tab m))++[.ref (2 * m+1+1+1+1+1+1+1+1+1+1+1) T.tab.R 0 T.tab.R false]=.ref 8 T.tab.R 0 T.tab.R false :: rowR 11 (tuD T.tab (m+1)):=by
    rw [zBs,z3g,tuD_length,hrl,show 11+2 * m=2 * m+1+1+1+1+1+1+1+1+1+1+1 by omega];rfl
   have ht1:rowT 2 11 (tuD T.tab m)++[.cells T.tab.R 2 true (colN T.tab (m+1) T.tab.R)]++[.cells 0 1 false [.ref (2 * m+1+1+1+1+1+1+1+1+1+1+1) T.tab.R 0 T.tab.R false]]=rowT 2 11 (tuD T.tab (m+1)):=by
    rw [zBs,z4Q,tuD_length,hrl,show 11+2 * m=2 * m+1+1+1+1+1+1+1+1+1+1+1 by omega];simp
   have hTl':(rowT 2 11 (tuD T.tab (m+1))).length=2 * m+1+1:=by rw [z0z,tuD_length];omega
   rw [hr1] at ap
   simp only [tuH,boxT,List.cons_append,List.nil_append,List.length_singleton,ht1] at ap
   have hmem:AVal.ref (2 * m+1+1+1+1+1+1+1+1+1+1+1) T.tab.R 0 T.tab.R false ∈ (AVal.ref 8 T.tab.R 0 T.tab.R false :: rowR 11 (tuD T.tab (m+1))):=by rw [← hr1];simp
   have htr:∀ Tm V,trunc (2 * m+1+1+1+1+1+1+1+1+1+1+1) ⟨Tm,tuH T (m+1),[],0,V⟩=⟨Tm,tuH T (m+1),[],0,V⟩:=fun Tm V=>z3S (i:=10) (by omega) (by unfold tuH;rfl) hmem (Nat.le_refl _)
   simp only [tuH,boxT,List.cons_append,List.nil_append] at htr
   have wi:IntKind.i64.wrap (((m+1:Nat):Int)+1)=((m+1+1:Nat):Int):=z00 (by omega)
   have z1:(10 < 2 * m+1+1+1+1+1+1+1+1+1+1+1+1+1)=True:=eq_true (by omega)
   have z2:(7 < 2 * m+1+1+1+1+1+1+1+1+1+1+1+1+1)=True:=eq_true (by omega)
   have ih':=ih (m+1)
   simp only [go_sem,simprocAttr,Try.f91,tuH,boxT,Int.ofNat_zero,Int.natCast_zero] at hx
   simp only [go_sem,simprocAttr,Try.f91,tuH,boxT] at ih' ⊢
   rw [exec_loop]
   simp only [go_sem,simprocAttr,List.length_map,lc,hd,hTl]
   rw [hx]
   simp only [go_sem,simprocAttr,hTl,hl1,hl2,ap,ht1,hTl',z1,z2,wi,htr]
   exact ih' _ _ _ _ _ _ _ _ _ _ _ _ _ _ _ _ _ _ _ _ _ _ _ _ _ _ _ _ _ _ _ _ _ _ _ _ _ _ _ _ _ _ _ _ (by omega)
set_option maxRecDepth 10000
set_option maxHeartbeats 2000000
def ctH (T:TabV) (g1 g2:Nat) (l1 l2:List Bool):Heap:=[boxT T,.cells 0 2 false [.agg [.lit true 0 [],.lit true 0 []]],accB 1 g1 (z09 l1),accB 1 g2 (z09 l2),.cells 0 2 false [.agg [.ref 2 (accG g1 (z09 l1)) 0 l1.length false,.ref 3 (accG g2 (z09 l2)) 0 l2.length false]]]
set_option maxRecDepth 10000
set_option maxHeartbeats 4000000
def tuX (T:TabV) (n:Nat):Heap:=[boxT T,.cells 0 3 false [.agg [.ref 2 0 0 T.tab.C false,.ref 3 0 0 T.tab.R false,.ref 10 n 0 (n+1) false]],.cells 0 2 true (T.cols.l.map spV),.cells 0 2 true (T.rows.l.map spV),.cells 0 0 false [],.cells 0 0 false [],.cells 0 0 false [],
 .cells 0 3 false [.agg [.ref 2 0 0 T.tab.C false,.ref 3 0 0 T.tab.R false,.ref 10 n 0 (n+1) false]],.cells T.tab.R 2 true (colN T.tab 0 T.tab.R),.cells 0 1 false [.ref 8 T.tab.R 0 T.tab.R false],.cells n 1 false (.ref 8 T.tab.R 0 T.tab.R false :: rowR 11 (tuD T.tab n))]++rowT 2 11 (tuD T.tab n)
def tuP (T:TabV):Heap:=[boxT T,.cells 0 3 false [.agg [.lit true 0 [],.lit true 0 [],.lit true 0 []]],.cells 0 2 true (T.cols.l.map spV),.cells 0 2 true (T.rows.l.map spV),.cells 0 0 false [],.cells 0 0 false [],.cells 0 0 false [],
 .cells 0 3 false [.agg [.ref 2 0 0 T.tab.C false,.ref 3 0 0 T.tab.R false,.lit true 0 []]]]
theorem zEi {T:TabV} (hC:1≤T.tab.C):handBack (tuX T (T.tab.C - 1)) 0 [] 4 (.agg [.ref 2 0 0 T.tab.C false,.ref 3 0 0 T.tab.R false,.ref 10 (T.tab.C - 1) 0 T.tab.C false])=some (canon T.tab.turn).v:=by
 have hTl:(rowT 2 11 (tuD T.tab (T.tab.C - 1))).length=2 * (T.tab.C - 1):=by rw [z0z,tuD_length]
 have hm:=z6o (H:=tuX T (T.tab.C - 1)) (ok:=fun j=>decide (0≤j) && !([]:List Nat).contains j) (sz:=2) (n:=6) (tuD T.tab (T.tab.C - 1)) 11 (fun i r hi=>by
  have:=z5g 2 (tuD T.tab (T.tab.C - 1)) 11 i r hi
  unfold tuX
  rw [List.getElem?_append_right (by simp only [List.length_cons,List.length_nil];omega)]
  simp only [List.length_cons,List.length_nil]
  rw [show 11+2 * i - (0+1+1+1+1+1+1+1+1+1+1+1)=2 * i by omega]
  exact this) (fun j _=>by simp)
 have lr:T.rows.l.length=T.tab.R:=rfl
 have lc:T.cols.l.length=T.tab.C:=rfl
 have b2:(tuX T (T.tab.C - 1))[2]?=some (.cells 0 2 true (T.cols.l.map spV)):=rfl
 have b3:(tuX T (T.tab.C - 1))[3]?=some (.cells 0 2 true (T.rows.l.map spV)):=rfl
 have b8:(tuX T (T.tab.C - 1))[8]?=some (.cells T.tab.R 2 true (colN T.tab 0 T.tab.R)):=rfl
 have b10:(tuX T (T.tab.C - 1))[10]?=some (.cells (T.tab.C - 1) 1 false (.ref 8 T.tab.R 0 T.tab.R false :: rowR 11 (tuD T.tab (T.tab.C - 1)))):=rfl
 generalize tuX T (T.tab.C - 1)=X at hm b2 b3 b8 b10
 have t2:(T.cols.l.map spV).take T.tab.C=T.cols.l.map spV:=List.take_of_length_le (by rw [List.length_map];exact Nat.le_refl _)
 have t3:(T.rows.l.map spV).take T.tab.R=T.rows.l.map spV:=List.take_of_length_le (by rw [List.length_map];exact Nat.le_refl _)
 have t8:(colN T.tab 0 T.tab.R).take T.tab.R=colN T.tab 0 T.tab.R:=List.take_of_length_le (by rw [z0x];exact Nat.le_refl _)
 have hl10:(AVal.ref 8 T.tab.R 0 T.tab.R false :: rowR 11 (tuD T.tab (T.tab.C - 1))).length=T.tab.C:=by
  rw [List.length_cons,z1K,tuD_length];omega
 have t10:(AVal.ref 8 T.tab.R 0 T.tab.R false :: rowR 11 (tuD T.tab (T.tab.C - 1))).take T.tab.C=.ref 8 T.tab.R 0 T.tab.R false :: rowR 11 (tuD T.tab (T.tab.C - 1)):=List.take_of_length_le (by omega)
 have e8:toLit (fun j=>decide (0≤j) && !([]:List Nat).contains j) X 7 (.ref 8 T.tab.R 0 T.tab.R false)=some (.lit false 2 (colN T.tab 0 T.tab.R)):=by
  simp [toLit,noRef,AVal.under,b8,t8,z0x]
 have e2:toLit (fun j=>decide (0≤j) && !([]:List Nat).contains j) X 8 (.ref 2 0 0 T.tab.C false)=some (.lit false 2 (T.cols.l.map spV)):=by
  simp [toLit,noRef,AVal.under,b2,t2,lc]
 have e3:toLit (fun j=>decide (0≤j) && !([]:List Nat).contains j) X 8 (.ref 3 0 0 T.tab.R false)=some (.lit false 2 (T.rows.l.map spV)):=by
  simp [toLit,noRef,AVal.under,b3,t3,lr]
 have e10:toLit (fun j=>decide (0≤j) && !([]:List Nat).contains j) X 8 (.ref 10 (T.tab.C - 1) 0 T.tab.C false)=some (.lit false 1 (.lit false 2 (colN T.tab 0 T.tab.R) :: (tuD T.tab (T.tab.C - 1)).map fun r=>.lit false 2 r.2)):=by
  unfold toLit
  simp only [noRef,AVal.under,Nat.not_lt_zero,decide_false,Bool.false_eq_true,if_false,b10,decide_true,Nat.zero_add,hl10,Nat.le_refl,Bool.and_true,if_true,List.drop_zero,t10]
  simp only [mapO,e8,hm]
  simp
 have ec:(canon T.tab.turn).v=.agg [.lit false 2 (T.cols.l.map spV),.lit false 2 (T.rows.l.map spV),.lit false 1 (.lit false 2 (colN T.tab 0 T.tab.R) :: (tuD T.tab (T.tab.C - 1)).map fun r=>.lit false 2 r.2)]:=by
  have hr:List.range T.tab.C=0 :: (List.range (T.tab.C - 1)).map Nat.succ:=by
   rw [← List.range_succ_eq_map];congr 1;omega
  unfold canon Tab.turn TabV.v tuD
  simp only [hr,List.map_cons,List.map_map]
  rfl
 have hk:∀ (i:Nat) (v:AVal) (n:Nat),(∃ g o l c,v=.ref i g o l c)→handBack X 0 [] (n+1) v=toLit (fun j=>decide (0≤j) && !([]:List Nat).contains j) X 8 v:=by
  rintro i v n ⟨g,o,l,c,rfl⟩
  simp [handBack]
 rw [ec]
 unfold handBack
 simp only [mapO,hk 2 _ 2 ⟨_,_,_,_,rfl⟩,hk 3 _ 2 ⟨_,_,_,_,rfl⟩,hk 10 _ 2 ⟨_,_,_,_,rfl⟩,e2,e3,e10]
 rfl
theorem zLR (T:TabV):z0H env 0 10 23 (.lit true 0 []) (.ref 9 0 0 1 false) (tuP T++[.cells T.tab.R 2 true (colN T.tab 0 T.tab.R)]++[.cells 0 1 false [.ref 8 T.tab.R 0 T.tab.R false]])=some (.ref 10 0 0 1 false,[(10,.cells 0 1 false [.ref 8 T.tab.R 0 T.tab.R false])]):=by
 have h:=append_lit (E:=env) (ro:=0) (nx:=10) (sz:=0) (es:=[]) (H:=tuP T++[.cells T.tab.R 2 true (colN T.tab 0 T.tab.R)]++[.cells 0 1 false [.ref 8 T.tab.R 0 T.tab.R false]]) (x:=.ref 9 0 0 1 false) (nsz:=1) (new:=[.ref 8 T.tab.R 0 T.tab.R false]) ti23 ti22 rfl ⟨by decide,rfl,rfl⟩ rfl (by simp) (.inl rfl) (show (0+1) * 25≤z04 by decide) (fun h=>by cases h)
 rw [h];rfl
theorem zHB {T:TabV} (hT:T.Wf) (hO:T.tab.Ok):runT env 91 [T.v] [] 0=some (.ret (.agg [.ref 2 0 0 T.tab.C false,.ref 3 0 0 T.tab.R false,.ref 10 (T.tab.C - 1) 0 T.tab.C false]),tuX T (T.tab.C - 1)):=by
 have hR8:=hO.R8
 have hC8:=hO.C8
 have hR1:=hO.R1
 have hC1:=hO.C1
 have lr:T.rows.l.length=T.tab.R:=rfl
 have lc:T.cols.l.length=T.tab.C:=rfl
 have hrn:T.rows.l.map spV ≠ []:=fun e=>by have:=congrArg List.length e;rw [List.length_map,lr] at this;exact absurd this (by show T.tab.R ≠ 0;omega)
 have hcn:T.cols.l.map spV ≠ []:=fun e=>by have:=congrArg List.length e;rw [List.length_map,lc] at this;exact absurd this (by show T.tab.C ≠ 0;omega)
 have hrl:(T.rows.l.map spV).length=T.tab.R:=by rw [List.length_map];rfl
 have hcl:(T.cols.l.map spV).length=T.tab.C:=by rw [List.length_map];rfl
 have z1:T.rows.sz=2:=(TabV.rowAt hT hR1).2
 have z2:T.cols.sz=2:=(TabV.colAt hT (show 0 < T.tab.C from hC1)).2
 have ap1:=fun (H:Heap) (nx:Nat)=>append_lit (E:=env) (ro:=0) (nx:=nx) (sz:=2) (es:=[]) (H:=H) (x:=.lit T.cols.cl 2 (T.cols.l.map spV)) (nsz:=2) (new:=T.cols.l.map spV) ti22 ti39 rfl ⟨by decide,rfl,rfl⟩ rfl hcn (.inl rfl) (by rw [hcl];show (0+T.tab.C) * 17≤z04;unfold z04;omega) (fun _=>z29 _)
 have ap2:=fun (H:Heap) (nx:Nat)=>append_lit (E:=env) (ro:=0) (nx:=nx) (sz:=2) (es:=[]) (H:=H) (x:=.lit T.rows.cl 2 (T.rows.l.map spV)) (nsz:=2) (new:=T.rows.l.map spV) ti22 ti39 rfl ⟨by decide,rfl,rfl⟩ rfl hrn (.inl rfl) (by rw [hrl];show (0+T.tab.R) * 17≤z04;unfold z04;omega) (fun _=>z29 _)
 have hd:decide ((0:Int) < (T.tab.C:Int))=true:=by simp;omega
 obtain ⟨ex,st,hx,hp⟩:=zFr hT hO (X:=tuP T) (nx:=8) rfl rfl (by decide) (show 0 < T.tab.C from hC1) T.tab.R 0 _ _ _ _ _ _ _ _ _ _ _ _ _ _ _ _ _ _ _ _ _ _ _ _ _ _ _ _ _ _ _ _ _ _ _ _ _ _ _ _ _ _ (by omega)
 obtain ⟨rfl,jp,rfl⟩:=hp
 obtain ⟨ex2,st2,hx2,hp2⟩:=zLS hT hO (T.tab.C - 1) 0 _ _ _ _ _ _ _ _ _ _ _ _ _ _ _ _ _ _ _ _ _ _ _ _ _ _ _ _ _ _ _ _ _ _ _ _ _ _ _ _ _ _ _ _ (by omega)
 obtain ⟨rfl,jq,rfl⟩:=hp2
 have hcne:colN T.tab 0 T.tab.R ≠ []:=fun e=>by have:=z0x T.tab 0 T.tab.R;rw [e] at this;simp at this;omega
 have c0:colN T.tab 0 0=[]:=rfl
 have a0:accN []=.cells 0 0 false []:=rfl
 rw [c0,a0,z2c hcne,z0x] at hx
 have eC:T.tab.C - 1+1=T.tab.C:=by omega
 have e0:tuD T.tab 0=[]:=rfl
 have e1:((0+1:Nat):Int)=1:=rfl
 have w1:IntKind.i64.wrap 1=1:=by decide
 have ap:=zLR T
 have htr:∀ Tm V,trunc 8 ⟨Tm,tuH T 0,[],0,V⟩=⟨Tm,tuH T 0,[],0,V⟩:=fun Tm V=>by
  unfold trunc tuH
  simp [tuD,rowT,rowR,underB,underL,AVal.under,boxT]
 simp only [tuP,boxT,List.cons_append,List.nil_append] at ap
 simp only [tuH,boxT,e0,rowR,rowT,List.cons_append,List.nil_append] at htr
 simp only [go_sem,simprocAttr,Try.f91,tuP,boxT,Int.ofNat_zero,Int.natCast_zero] at hx
 simp only [go_sem,simprocAttr,Try.f91,tuH,boxT,e0,rowR,rowT,e1,eC] at hx2
 rw [run_unfold fn91 rfl]
 simp only [go_sem,simprocAttr,Try.f91,z0E,z1,z2,ap1,ap2,hrl,hcl,bd25]
 rw [apart_ok]
 · simp only [go_sem,simprocAttr,z0E,z1,z2,List.length_map,lr,lc]
   rw [exec_loop]
   simp only [go_sem,simprocAttr,List.length_map,lc,hd]
   rw [hx]
   simp only [go_sem,simprocAttr,ap,htr,w1]
   rw [hx2]
   simp only [go_sem,simprocAttr,unwind,modeEx,resultsOf,one,eC]
   unfold tuX
   rw [eC]
   rfl
 · kernel_rfl
theorem z9h {T:TabV} (hT:T.Wf) (hO:T.tab.Ok) (ro:Nat) (H:Heap) (nx:Nat):callT env 91 [T.v] ro H nx=some (.ret (canon T.tab.turn).v,.ups []):=
 z0r rfl rfl rfl z0b (zHB hT hO) (zEi hO.C1) rfl ro H nx
set_option maxRecDepth 10000
set_option maxHeartbeats 2000000
def outP (c:CutA) (i k:Nat):Bool:=c.l1.getD i false && !c.l2.getD k false
def inP (c:CutA) (i k:Nat):Bool:=!c.l1.getD i false && c.l2.getD k false
def rgH (T:TabV) (c:CutA):Heap:=[boxT T,.cells 0 2 false [c.v]]
theorem zFe {T:TabV} (hT:T.Wf) (hO:T.tab.Ok) {c:CutA} (hc:c.Wf) (h1:c.l1.length=T.tab.R) (h2:c.l2.length=T.tab.C) {i:Nat} (hi:i < T.tab.R) (d e:Spn)
    (hd:0≤d.lo∧d.lo≤2 ^ 40∧0≤d.hi∧d.hi≤2 ^ 40) (he:0≤e.lo∧e.lo≤2 ^ 40∧0≤e.hi∧e.hi≤2 ^ 40):∀ (n k:Nat) (j0 j1 j4 j11 j12 j13 j14 j15 j16 j17 j18 j19 j20 j21 j22 j23 j24 j25 j26 j27 j28 j29 j30 j31 j32 j33 j34 j35 j36 j37 j38 j39 j40 j41 j42 j43 j44 j45 j46 j47 j48 j49 j50 j51 j52 j53 j54 j55 j56 j57 j58 j59 j60 j61 j62 j63 j64 j65 j66 j67 j68 j69 j70 j71 j72 j73 j74 j75 j76 j77 j78 j79 j80 j81 j82 j83 j84 j85 j86 j87 j88 j89 j90 j91 j92 j93 j94 j95 j96 j97 j98 j99 j100 j101 j102 j103 j104 j105 j106 j107 j108 j109 j110 j111 j112 j113 j114 j115 j116 j117 j118 j119 j120 j121 j122 j123 j124 j125 j126 j127 j128 j129 j130 j131 j132 j133 j134 j135 j136 j137 j138 j139 j140 j141 j142 j143 j144 j145 j146 j147 j148 j149 j150 j151 j152:AVal),k+n=T.tab.C →
    Goes (execT env (Try.f80.at [1,1,0,1,0,0,1,0,0,1,1,0]) ⟨[j0,j1,.ptr 0 0 0 0,.ptr 1 0 0 0,j4,.int .i64 (z0G d (z0h k (outP c i) (T.tab.cell i))).lo,.int .i64 (z0G e (z0h k (inP c i) (T.tab.cell i))).hi,.int .i64 (z0G e (z0h k (inP c i) (T.tab.cell i))).lo,.int .i64 (z0G d (z0h k (outP c i) (T.tab.cell i))).hi,.int .i64 i,.int .i64 k,j11,j12,j13,j14,j15,j16,j17,j18,j19,j20,j21,j22,j23,j24,j25,j26,j27,j28,j29,j30,j31,j32,j33,j34,j35,j36,j37,j38,j39,j40,j41,j42,j43,j44,j45,j46,j47,j48,j49,j50,j51,j52,j53,j54,j55,j56,j57,j58,j59,j60,j61,j62,j63,j64,j65,j66,j67,j68,j69,j70,j71,j72,j73,j74,j75,j76,j77,j78,j79,j80,j81,j82,j83,j84,j85,j86,j87,j88,j89,j90,j91,j92,j93,j94,j95,j96,j97,j98,j99,j100,j101,j102,j103,j104,j105,j106,j107,j108,j109,j110,j111,j112,j113,j114,j115,j116,j117,j118,j119,j120,j121,j122,j123,j124,j125,j126,j127,j128,j129,j130,j131,j132,j133,j134,j135,j136,j137,j138,j139,j140,j141,j142,j143,j144,j145,j146,j147,j148,j149,j150,j151,j152],rgH T c,[],0,[]⟩) fun ex st=>
     ex=.exit 2∧FrP 153 [(2,.ptr 0 0 0 0),(3,.ptr 1 0 0 0),(5,.int .i64 (z0G d (z0h T.tab.C (outP c i) (T.tab.cell i))).lo),(6,.int .i64 (z0G e (z0h T.tab.C (inP c i) (T.tab.cell i))).hi),(7,.int .i64 (z0G e (z0h T.tab.C (inP c i) (T.tab.cell i))).lo),(8,.int .i64 (z0G d (z0h T.tab.C (outP c i) (T.tab.cell i))).hi),(9,.int .i64 i)] (rgH T c) [] 0 [] st:=by
 have hC8:=hO.C8
 intro n
 induction n with
 | zero=>
   intro k;intros;rename_i hk
   have hd:decide ((k:Int) < (T.tab.C:Int))=false:=by simp;omega
   have:k=T.tab.C:=by omega
   subst this
   simp only [go_sem,simprocAttr,Try.f80,rgH,boxT]
   rw [exec_loop]
   simp only [go_sem,simprocAttr,List.length_map,show T.cols.l.length=T.tab.C from rfl,hd]
   exact frP (by kernel_rfl)
 | succ n ih=>
   intro k;intros;rename_i hk
   have hkC:k < T.tab.C:=by omega
   have hdk:decide ((k:Int) < (T.tab.C:Int))=true:=by simp;omega
   have k0:(0:Int)≤(k:Int):=by omega
   have i0:(0:Int)≤(i:Int):=by omega
   obtain ⟨s,_,q1,q2,q3,_,_⟩:=TabV.at hT hO hi hkC
   have hz1:=z1j hc.s1 (List.getElem?_eq_getElem (show i < c.l1.length by omega))
   have hz2:=z1j hc.s2 (List.getElem?_eq_getElem (show k < c.l2.length by omega))
   have g1:=z0f (l:=c.l1) (i:=i) (by omega)
   have g2:=z0f (l:=c.l2) (i:=k) (by omega)
   have bd:=z20 (p:=outP c i) (f:=T.tab.cell i) (fun j hj=>hO.cell_ok hi hj) k (by omega)
   have be:=z20 (p:=inP c i) (f:=T.tab.cell i) (fun j hj=>hO.cell_ok hi hj) k (by omega)
   have bi:=hO.cell_ok hi hkC
   have e1:=z4L d k (outP c i) (T.tab.cell i)
   have e2:=z4L e k (inP c i) (T.tab.cell i)
   have ih':=ih (k+1)
   rw [e1,e2,show outP c i k=(c.l1.getD i false && !c.l2.getD k false) from rfl,show inP c i k=(!c.l1.getD i false && c.l2.getD k false) from rfl] at ih'
   have bx:∀ {x y:Spn},(0≤x.lo∧x.lo≤2 ^ 40∧0≤x.hi∧x.hi≤2 ^ 40)→(0≤y.lo∧y.lo≤k * 2 ^ 30∧0≤y.hi∧y.hi≤k * 2 ^ 30)→0≤(z0G x y).lo∧(z0G x y).lo≤2 ^ 41∧0≤(z0G x y).hi∧(z0G x y).hi≤2 ^ 41:=fun h h'=>by simp only [z0G];omega
   have bd:=bx hd bd
   have be:=bx he be
   generalize z0G d (z0h k (outP c i) (T.tab.cell i))=d1 at bd ih' ⊢
   generalize z0G e (z0h k (inP c i) (T.tab.cell i))=e1 at be ih' ⊢
   have w1:IntKind.i64.wrap (d1.lo+(T.tab.cell i k).lo)=(z0G d1 (T.tab.cell i k)).lo:=i64_in _ (by omega)
   have w2:IntKind.i64.wrap (d1.hi+(T.tab.cell i k).hi)=(z0G d1 (T.tab.cell i k)).hi:=i64_in _ (by omega)
   have w3:IntKind.i64.wrap (e1.lo+(T.tab.cell i k).lo)=(z0G e1 (T.tab.cell i k)).lo:=i64_in _ (by omega)
   have w4:IntKind.i64.wrap (e1.hi+(T.tab.cell i k).hi)=(z0G e1 (T.tab.cell i k)).hi:=i64_in _ (by omega)
   cases hb1:c.l1.getD i false <;> cases hb2:c.l2.getD k false <;> rw [hb1] at ih' g1 <;> rw [hb2] at ih' g2 <;>
    simp (config:={ maxSteps:=2000000 }) only [go_sem,simprocAttr,Try.f80,rgH,boxT,Bool.false_eq_true,if_false,if_true,Bool.not_true,Bool.not_false,Bool.and_true,Bool.and_false,Bool.true_and,Bool.false_and] at ih' ⊢ <;>
    rw [exec_loop] <;>
    simp (config:={ maxSteps:=2000000 }) only [go_sem,simprocAttr,List.length_map,show T.cols.l.length=T.tab.C from rfl,hdk,k0,i0,Int.toNat_natCast,q1,q2,q3,hz1,hz2,g1,g2,w1,w2,w3,w4,z00 (show k < 2 ^ 63 - 1 by omega)] <;>
    exact ih' _ _ _ _ _ _ _ _ _ _ _ _ _ _ _ _ _ _ _ _ _ _ _ _ _ _ _ _ _ _ _ _ _ _ _ _ _ _ _ _ _ _ _ _ _ _ _ _ _ _ _ _ _ _ _ _ _ _ _ _ _ _ _ _ _ _ _ _ _ _ _ _ _ _ _ _ _ _ _ _ _ _ _ _ _ _ _ _ _ _ _ _ _ _ _ _ _ _ _ _ _ _ _ _ _ _ _ _ _ _ _ _ _ _ _ _ _ _ _ _ _ _ _ _ _ _ _ _ _ _ _ _ _ _ _ _ _ _ _ _ _ _ _ _ _ (by omega)
set_option maxRecDepth 10000
set_option maxHeartbeats 2000000
def dS (t:Tab) (c:CutA):Nat→Spn
 | 0=>⟨0,0⟩
 | i+1=>z0G (dS t c i) (z0h t.C (outP c i) (t.cell i))
def eR (t:Tab) (c:CutA) (e:Spn) (i:Nat):Spn:=if c.l1.getD i false then z0G e (t.row i) else e
def eS (t:Tab) (c:CutA):Nat→Spn
 | 0=>⟨0,0⟩
 | i+1=>z0G (eR t c (eS t c i) i) (z0h t.C (inP c i) (t.cell i))
theorem zN4 {t:Tab} (hO:t.Ok) (c:CutA):∀ i,i≤t.R→0≤(dS t c i).lo∧(dS t c i).lo≤i * 2 ^ 34∧0≤(dS t c i).hi∧(dS t c i).hi≤i * 2 ^ 34
 | 0,_=>by simp [dS]
 | i+1,hi=>by
   have ih:=zN4 hO c i (by omega)
   have h1:=z20 (p:=outP c i) (f:=t.cell i) (fun j hj=>hO.cell_ok (i:=i) (by omega) hj) t.C (Nat.le_refl _)
   have hC8:=hO.C8
   simp only [dS,z0G];omega
theorem zPk {t:Tab} (hO:t.Ok) (c:CutA):∀ i,i≤t.R→0≤(eS t c i).lo∧(eS t c i).lo≤i * 2 ^ 34∧0≤(eS t c i).hi∧(eS t c i).hi≤i * 2 ^ 34
 | 0,_=>by simp [eS]
 | i+1,hi=>by
   have ih:=zPk hO c i (by omega)
   have h1:=z20 (p:=inP c i) (f:=t.cell i) (fun j hj=>hO.cell_ok (i:=i) (by omega) hj) t.C (Nat.le_refl _)
   have hC8:=hO.C8
   have h2:=hO.row_ok (show i < t.R by omega)
   simp only [eS,eR]
   split <;> (try simp only [z0G]) <;> omega
theorem zKx {T:TabV} (hT:T.Wf) (hO:T.tab.Ok) {c:CutA} (hc:c.Wf) (h1:c.l1.length=T.tab.R) (h2:c.l2.length=T.tab.C):∀ (n i:Nat) (j0 j1 j4 j10 j11 j12 j13 j14 j15 j16 j17 j18 j19 j20 j21 j22 j23 j24 j25 j26 j27 j28 j29 j30 j31 j32 j33 j34 j35 j36 j37 j38 j39 j40 j41 j42 j43 j44 j45 j46 j47 j48 j49 j50 j51 j52 j53 j54 j55 j56 j57 j58 j59 j60 j61 j62 j63 j64 j65 j66 j67 j68 j69 j70 j71 j72 j73 j74 j75 j76 j77 j78 j79 j80 j81 j82 j83 j84 j85 j86 j87 j88 j89 j90 j91 j92 j93 j94 j95 j96 j97 j98 j99 j100 j101 j102 j103 j104 j105 j106 j107 j108 j109 j110 j111 j112 j113 j114 j115 j116 j117 j118 j119 j120 j121 j122 j123 j124 j125 j126 j127 j128 j129 j130 j131 j132 j133 j134 j135 j136 j137 j138 j139 j140 j141 j142 j143 j144 j145 j146 j147 j148 j149 j150 j151 j152:AVal),i+n=T.tab.R →
    Goes (execT env (Try.f80.at [1,1,0,1,0]) ⟨[j0,j1,.ptr 0 0 0 0,.ptr 1 0 0 0,j4,.int .i64 (dS T.tab c i).lo,.int .i64 (eS T.tab c i).hi,.int .i64 (eS T.tab c i).lo,.int .i64 (dS T.tab c i).hi,.int .i64 i,j10,j11,j12,j13,j14,j15,j16,j17,j18,j19,j20,j21,j22,j23,j24,j25,j26,j27,j28,j29,j30,j31,j32,j33,j34,j35,j36,j37,j38,j39,j40,j41,j42,j43,j44,j45,j46,j47,j48,j49,j50,j51,j52,j53,j54,j55,j56,j57,j58,j59,j60,j61,j62,j63,j64,j65,j66,j67,j68,j69,j70,j71,j72,j73,j74,j75,j76,j77,j78,j79,j80,j81,j82,j83,j84,j85,j86,j87,j88,j89,j90,j91,j92,j93,j94,j95,j96,j97,j98,j99,j100,j101,j102,j103,j104,j105,j106,j107,j108,j109,j110,j111,j112,j113,j114,j115,j116,j117,j118,j119,j120,j121,j122,j123,j124,j125,j126,j127,j128,j129,j130,j131,j132,j133,j134,j135,j136,j137,j138,j139,j140,j141,j142,j143,j144,j145,j146,j147,j148,j149,j150,j151,j152],rgH T c,[],0,[]⟩) fun ex st=>
     ex=.exit 0∧FrP 153 [(2,.ptr 0 0 0 0),(3,.ptr 1 0 0 0),(5,.int .i64 (dS T.tab c T.tab.R).lo),(6,.int .i64 (eS T.tab c T.tab.R).hi),(7,.int .i64 (eS T.tab c T.tab.R).lo),(8,.int .i64 (dS T.tab c T.tab.R).hi)] (rgH T c) [] 0 [] st:=by
 have hR8:=hO.R8
 intro n
 induction n with
 | zero=>
   intro i;intros;rename_i hi
   have hd:decide ((i:Int) < (T.tab.R:Int))=false:=by simp;omega
   have:i=T.tab.R:=by omega
   subst this
   simp only [go_sem,simprocAttr,Try.f80,rgH,boxT]
   rw [exec_loop]
   simp only [go_sem,simprocAttr,List.length_map,show T.rows.l.length=T.tab.R from rfl,hd]
   exact frP (by kernel_rfl)
 | succ n ih=>
   intro i;intros;rename_i hi
   have hiR:i < T.tab.R:=by omega
   have hd:decide ((i:Int) < (T.tab.R:Int))=true:=by simp;omega
   have i0:(0:Int)≤(i:Int):=by omega
   obtain ⟨hx1,hx2⟩:=TabV.rowAt hT hiR
   have hs:=z1j hc.s1 (List.getElem?_eq_getElem (show i < c.l1.length by omega))
   have gb:=z0f (l:=c.l1) (i:=i) (by omega)
   have bd:=zN4 hO c i (by omega)
   have be:=zPk hO c i (by omega)
   have bi:=hO.row_ok hiR
   have w1:IntKind.i64.wrap ((eS T.tab c i).lo+(T.tab.row i).lo)=(z0G (eS T.tab c i) (T.tab.row i)).lo:=i64_in _ (by omega)
   have w2:IntKind.i64.wrap ((eS T.tab c i).hi+(T.tab.row i).hi)=(z0G (eS T.tab c i) (T.tab.row i)).hi:=i64_in _ (by omega)
   have he:0≤(eR T.tab c (eS T.tab c i) i).lo∧(eR T.tab c (eS T.tab c i) i).lo≤2 ^ 40∧0≤(eR T.tab c (eS T.tab c i) i).hi∧(eR T.tab c (eS T.tab c i) i).hi≤2 ^ 40:=by
    unfold eR
    split <;> (try simp only [z0G]) <;> omega
   have pz:∀ (d:Spn) p f,z0G d (z0h 0 p f)=d:=fun d p f=>by simp [z0G,z0h,sumN]
   have ed:z0G (dS T.tab c i) (z0h T.tab.C (outP c i) (T.tab.cell i))=dS T.tab c (i+1):=rfl
   have ee:z0G (eR T.tab c (eS T.tab c i) i) (z0h T.tab.C (inP c i) (T.tab.cell i))=eS T.tab c (i+1):=rfl
   have ih':=ih (i+1)
   simp (config:={ maxSteps:=2000000 }) only [go_sem,simprocAttr,Try.f80,Int.ofNat_zero,Int.natCast_zero,pz,rgH,boxT,ed,ee] at ih' ⊢
   cases hb:c.l1.getD i false with
   | false=>
     have er:eR T.tab c (eS T.tab c i) i=eS T.tab c i:=by unfold eR;rw [hb];rfl
     rw [hb] at gb
     obtain ⟨ex,st,hx,hp⟩:=zFe hT hO hc h1 h2 hiR (dS T.tab c i) (eR T.tab c (eS T.tab c i) i) (by omega) he T.tab.C 0 _ _ _ _ _ _ _ _ _ _ _ _ _ _ _ _ _ _ _ _ _ _ _ _ _ _ _ _ _ _ _ _ _ _ _ _ _ _ _ _ _ _ _ _ _ _ _ _ _ _ _ _ _ _ _ _ _ _ _ _ _ _ _ _ _ _ _ _ _ _ _ _ _ _ _ _ _ _ _ _ _ _ _ _ _ _ _ _ _ _ _ _ _ _ _ _ _ _ _ _ _ _ _ _ _ _ _ _ _ _ _ _ _ _ _ _ _ _ _ _ _ _ _ _ _ _ _ _ _ _ _ _ _ _ _ _ _ _ _ _ _ _ _ _ _ (by omega)
     obtain ⟨rfl,jp,rfl⟩:=hp
     simp (config:={ maxSteps:=2000000 }) only [go_sem,simprocAttr,Try.f80,Int.ofNat_zero,Int.natCast_zero,pz,rgH,boxT,ed,ee] at hx
     rw [er] at hx
     rw [exec_loop]
     simp only [go_sem,simprocAttr,List.length_map,show T.rows.l.length=T.tab.R from rfl,hd,i0,Int.toNat_natCast,hs,gb]
     rw [hx]
     simp only [go_sem,simprocAttr,z00 (show i < 2 ^ 63 - 1 by omega)]
     exact ih' _ _ _ _ _ _ _ _ _ _ _ _ _ _ _ _ _ _ _ _ _ _ _ _ _ _ _ _ _ _ _ _ _ _ _ _ _ _ _ _ _ _ _ _ _ _ _ _ _ _ _ _ _ _ _ _ _ _ _ _ _ _ _ _ _ _ _ _ _ _ _ _ _ _ _ _ _ _ _ _ _ _ _ _ _ _ _ _ _ _ _ _ _ _ _ _ _ _ _ _ _ _ _ _ _ _ _ _ _ _ _ _ _ _ _ _ _ _ _ _ _ _ _ _ _ _ _ _ _ _ _ _ _ _ _ _ _ _ _ _ _ _ _ _ _ _ (by omega)
   | true=>
     have er:eR T.tab c (eS T.tab c i) i=z0G (eS T.tab c i) (T.tab.row i):=by unfold eR;rw [hb];rfl
     rw [hb] at gb
     obtain ⟨ex,st,hx,hp⟩:=zFe hT hO hc h1 h2 hiR (dS T.tab c i) (eR T.tab c (eS T.tab c i) i) (by omega) he T.tab.C 0 _ _ _ _ _ _ _ _ _ _ _ _ _ _ _ _ _ _ _ _ _ _ _ _ _ _ _ _ _ _ _ _ _ _ _ _ _ _ _ _ _ _ _ _ _ _ _ _ _ _ _ _ _ _ _ _ _ _ _ _ _ _ _ _ _ _ _ _ _ _ _ _ _ _ _ _ _ _ _ _ _ _ _ _ _ _ _ _ _ _ _ _ _ _ _ _ _ _ _ _ _ _ _ _ _ _ _ _ _ _ _ _ _ _ _ _ _ _ _ _ _ _ _ _ _ _ _ _ _ _ _ _ _ _ _ _ _ _ _ _ _ _ _ _ _ (by omega)
     obtain ⟨rfl,jp,rfl⟩:=hp
     simp (config:={ maxSteps:=2000000 }) only [go_sem,simprocAttr,Try.f80,Int.ofNat_zero,Int.natCast_zero,pz,rgH,boxT,ed,ee] at hx
     rw [er] at hx
     rw [exec_loop]
     simp only [go_sem,simprocAttr,List.length_map,show T.rows.l.length=T.tab.R from rfl,hd,i0,Int.toNat_natCast,hs,gb,hx1,hx2,w1,w2]
     rw [hx]
     simp only [go_sem,simprocAttr,z00 (show i < 2 ^ 63 - 1 by omega)]
     exact ih' _ _ _ _ _ _ _ _ _ _ _ _ _ _ _ _ _ _ _ _ _ _ _ _ _ _ _ _ _ _ _ _ _ _ _ _ _ _ _ _ _ _ _ _ _ _ _ _ _ _ _ _ _ _ _ _ _ _ _ _ _ _ _ _ _ _ _ _ _ _ _ _ _ _ _ _ _ _ _ _ _ _ _ _ _ _ _ _ _ _ _ _ _ _ _ _ _ _ _ _ _ _ _ _ _ _ _ _ _ _ _ _ _ _ _ _ _ _ _ _ _ _ _ _ _ _ _ _ _ _ _ _ _ _ _ _ _ _ _ _ _ _ _ _ _ _ (by omega)
theorem zNm {T:TabV} (hT:T.Wf) (hO:T.tab.Ok) {c:CutA} (hc:c.Wf) (h2:c.l2.length=T.tab.C) (d:Spn) (hd:0≤d.lo∧d.lo≤2 ^ 40∧0≤d.hi∧d.hi≤2 ^ 40) (v6 v7:AVal):∀ (n k:Nat) (j0 j1 j4 j9 j10 j12 j13 j14 j15 j16 j17 j18 j19 j20 j21 j22 j23 j24 j25 j26 j27 j28 j29 j30 j31 j32 j33 j34 j35 j36 j37 j38 j39 j40 j41 j42 j43 j44 j45 j46 j47 j48 j49 j50 j51 j52 j53 j54 j55 j56 j57 j58 j59 j60 j61 j62 j63 j64 j65 j66 j67 j68 j69 j70 j71 j72 j73 j74 j75 j76 j77 j78 j79 j80 j81 j82 j83 j84 j85 j86 j87 j88 j89 j90 j91 j92 j93 j94 j95 j96 j97 j98 j99 j100 j101 j102 j103 j104 j105 j106 j107 j108 j109 j110 j111 j112 j113 j114 j115 j116 j117 j118 j119 j120 j121 j122 j123 j124 j125 j126 j127 j128 j129 j130 j131 j132 j133 j134 j135 j136 j137 j138 j139 j140 j141 j142 j143 j144 j145 j146 j147 j148 j149 j150 j151 j152:AVal),k+n=T.tab.C →
    Goes (execT env (Try.f80.at [1,1,1,0,1,0]) ⟨[j0,j1,.ptr 0 0 0 0,.ptr 1 0 0 0,j4,.int .i64 (z0G d (z0h k (fun k=>c.l2.getD k false) T.tab.col)).lo,v6,v7,.int .i64 (z0G d (z0h k (fun k=>c.l2.getD k false) T.tab.col)).hi,j9,j10,.int .i64 k,j12,j13,j14,j15,j16,j17,j18,j19,j20,j21,j22,j23,j24,j25,j26,j27,j28,j29,j30,j31,j32,j33,j34,j35,j36,j37,j38,j39,j40,j41,j42,j43,j44,j45,j46,j47,j48,j49,j50,j51,j52,j53,j54,j55,j56,j57,j58,j59,j60,j61,j62,j63,j64,j65,j66,j67,j68,j69,j70,j71,j72,j73,j74,j75,j76,j77,j78,j79,j80,j81,j82,j83,j84,j85,j86,j87,j88,j89,j90,j91,j92,j93,j94,j95,j96,j97,j98,j99,j100,j101,j102,j103,j104,j105,j106,j107,j108,j109,j110,j111,j112,j113,j114,j115,j116,j117,j118,j119,j120,j121,j122,j123,j124,j125,j126,j127,j128,j129,j130,j131,j132,j133,j134,j135,j136,j137,j138,j139,j140,j141,j142,j143,j144,j145,j146,j147,j148,j149,j150,j151,j152],rgH T c,[],0,[]⟩) fun ex st=>
     ex=.exit 4∧FrP 153 [(5,.int .i64 (z0G d (z0h T.tab.C (fun k=>c.l2.getD k false) T.tab.col)).lo),(6,v6),(7,v7),(8,.int .i64 (z0G d (z0h T.tab.C (fun k=>c.l2.getD k false) T.tab.col)).hi)] (rgH T c) [] 0 [] st:=by
 have hC8:=hO.C8
 intro n
 induction n with
 | zero=>
   intro k;intros;rename_i hk
   have hd:decide ((k:Int) < (T.tab.C:Int))=false:=by simp;omega
   have:k=T.tab.C:=by omega
   subst this
   simp only [go_sem,simprocAttr,Try.f80,rgH,boxT]
   rw [exec_loop]
   simp only [go_sem,simprocAttr,List.length_map,show T.cols.l.length=T.tab.C from rfl,hd]
   exact frP (by kernel_rfl)
 | succ n ih=>
   intro k;intros;rename_i hk
   have hkC:k < T.tab.C:=by omega
   have hdk:decide ((k:Int) < (T.tab.C:Int))=true:=by simp;omega
   have k0:(0:Int)≤(k:Int):=by omega
   obtain ⟨hx1,hx2⟩:=TabV.colAt hT hkC
   have hs:=z1j hc.s2 (List.getElem?_eq_getElem (show k < c.l2.length by omega))
   have gb:=z0f (l:=c.l2) (i:=k) (by omega)
   have bd:=z20 (p:=fun k=>c.l2.getD k false) (f:=T.tab.col) (fun j hj=>hO.col_ok hj) k (by omega)
   have bi:=hO.col_ok hkC
   have e1:=z4L d k (fun k=>c.l2.getD k false) T.tab.col
   have ih':=ih (k+1)
   rw [e1] at ih'
   have bd:0≤(z0G d (z0h k (fun k=>c.l2.getD k false) T.tab.col)).lo∧(z0G d (z0h k (fun k=>c.l2.getD k false) T.tab.col)).lo≤2 ^ 41∧0≤(z0G d (z0h k (fun k=>c.l2.getD k false) T.tab.col)).hi∧(z0G d (z0h k (fun k=>c.l2.getD k false) T.tab.col)).hi≤2 ^ 41:=by simp only [z0G];omega
   generalize z0G d (z0h k (fun k=>c.l2.getD k false) T.tab.col)=d1 at bd ih' ⊢
   have w1:IntKind.i64.wrap (d1.lo+(T.tab.col k).lo)=(z0G d1 (T.tab.col k)).lo:=i64_in _ (by omega)
   have w2:IntKind.i64.wrap (d1.hi+(T.tab.col k).hi)=(z0G d1 (T.tab.col k)).hi:=i64_in _ (by omega)
   cases hb:c.l2.getD k false <;> rw [hb] at ih' gb <;>
    simp (config:={ maxSteps:=2000000 }) only [go_sem,simprocAttr,Try.f80,rgH,boxT,Bool.false_eq_true,if_false,if_true] at ih' ⊢ <;>
    rw [exec_loop] <;>
    simp only [go_sem,simprocAttr,List.length_map,show T.cols.l.length=T.tab.C from rfl,hdk,k0,Int.toNat_natCast,hx1,hx2,hs,gb,w1,w2,z00 (show k < 2 ^ 63 - 1 by omega)] <;>
    exact ih' _ _ _ _ _ _ _ _ _ _ _ _ _ _ _ _ _ _ _ _ _ _ _ _ _ _ _ _ _ _ _ _ _ _ _ _ _ _ _ _ _ _ _ _ _ _ _ _ _ _ _ _ _ _ _ _ _ _ _ _ _ _ _ _ _ _ _ _ _ _ _ _ _ _ _ _ _ _ _ _ _ _ _ _ _ _ _ _ _ _ _ _ _ _ _ _ _ _ _ _ _ _ _ _ _ _ _ _ _ _ _ _ _ _ _ _ _ _ _ _ _ _ _ _ _ _ _ _ _ _ _ _ _ _ _ _ _ _ _ _ _ _ _ _ _ _ (by omega)
theorem zPf (t:Tab) (c:CutA):∀ n,(dS t c n).lo=sumN n (fun i=>sumN t.C fun k=>if c.l1.getD i false && !c.l2.getD k false then (t.cell i k).lo else 0)∧(dS t c n).hi=sumN n (fun i=>sumN t.C fun k=>if c.l1.getD i false && !c.l2.getD k false then (t.cell i k).hi else 0)
 | 0=>⟨rfl,rfl⟩
 | n+1=>by
   obtain ⟨h1,h2⟩:=zPf t c n
   simp only [dS,z0G,sumN,h1,h2]
   exact ⟨rfl,rfl⟩
theorem zPl (t:Tab) (c:CutA):∀ n,(eS t c n).lo=sumN n (fun i=>if c.l1.getD i false then (t.row i).lo else 0)+sumN n (fun i=>sumN t.C fun k=>if !c.l1.getD i false && c.l2.getD k false then (t.cell i k).lo else 0)∧(eS t c n).hi=sumN n (fun i=>if c.l1.getD i false then (t.row i).hi else 0)+sumN n (fun i=>sumN t.C fun k=>if !c.l1.getD i false && c.l2.getD k false then (t.cell i k).hi else 0)
 | 0=>⟨rfl,rfl⟩
 | n+1=>by
   obtain ⟨h1,h2⟩:=zPl t c n
   have a1:(z0h t.C (inP c n) (t.cell n)).lo=sumN t.C fun k=>if !c.l1.getD n false && c.l2.getD k false then (t.cell n k).lo else 0:=rfl
   have a2:(z0h t.C (inP c n) (t.cell n)).hi=sumN t.C fun k=>if !c.l1.getD n false && c.l2.getD k false then (t.cell n k).hi else 0:=rfl
   simp only [eS,eR,z0G,sumN,a1,a2]
   split <;> simp only [h1,h2] <;> omega
theorem zFf {T:TabV} (hT:T.Wf) (hO:T.tab.Ok) {c:CutA} (hc:c.Wf) (h1:c.l1.length=T.tab.R) (h2:c.l2.length=T.tab.C):∃ H',runT env 80 [T.v,c.v] [] 0=some (.ret (.bool (T.tab.gap (fun i=>c.l1.getD i false) fun k=>c.l2.getD k false)),H'):=by
 obtain ⟨ex,st,hx,hp⟩:=zKx hT hO hc h1 h2 T.tab.R 0 _ _ _ _ _ _ _ _ _ _ _ _ _ _ _ _ _ _ _ _ _ _ _ _ _ _ _ _ _ _ _ _ _ _ _ _ _ _ _ _ _ _ _ _ _ _ _ _ _ _ _ _ _ _ _ _ _ _ _ _ _ _ _ _ _ _ _ _ _ _ _ _ _ _ _ _ _ _ _ _ _ _ _ _ _ _ _ _ _ _ _ _ _ _ _ _ _ _ _ _ _ _ _ _ _ _ _ _ _ _ _ _ _ _ _ _ _ _ _ _ _ _ _ _ _ _ _ _ _ _ _ _ _ _ _ _ _ _ _ _ _ _ _ _ _ _ (by omega)
 obtain ⟨rfl,jp,rfl⟩:=hp
 have bd:=zN4 hO c T.tab.R (Nat.le_refl _)
 have hR8:=hO.R8
 obtain ⟨ex2,st2,hx2,hp2⟩:=zNm hT hO hc h2 (dS T.tab c T.tab.R) (by omega) (.int .i64 (eS T.tab c T.tab.R).hi) (.int .i64 (eS T.tab c T.tab.R).lo) T.tab.C 0 _ _ _ _ _ _ _ _ _ _ _ _ _ _ _ _ _ _ _ _ _ _ _ _ _ _ _ _ _ _ _ _ _ _ _ _ _ _ _ _ _ _ _ _ _ _ _ _ _ _ _ _ _ _ _ _ _ _ _ _ _ _ _ _ _ _ _ _ _ _ _ _ _ _ _ _ _ _ _ _ _ _ _ _ _ _ _ _ _ _ _ _ _ _ _ _ _ _ _ _ _ _ _ _ _ _ _ _ _ _ _ _ _ _ _ _ _ _ _ _ _ _ _ _ _ _ _ _ _ _ _ _ _ _ _ _ _ _ _ _ _ _ _ _ _ _ (by omega)
 obtain ⟨rfl,jq,rfl⟩:=hp2
 have pz:∀ (d:Spn) p f,z0G d (z0h 0 p f)=d:=fun d p f=>by simp [z0G,z0h,sumN]
 have z1:dS T.tab c 0=⟨0,0⟩:=rfl
 have z2:eS T.tab c 0=⟨0,0⟩:=rfl
 simp only [go_sem,simprocAttr,Try.f80,Int.ofNat_zero,Int.natCast_zero,rgH,boxT,pz,z1,z2] at hx hx2
 obtain ⟨q1,q2⟩:=zPf T.tab c T.tab.R
 obtain ⟨q3,q4⟩:=zPl T.tab c T.tab.R
 have k1:(z0G (dS T.tab c T.tab.R) (z0h T.tab.C (fun k=>c.l2.getD k false) T.tab.col)).lo=T.tab.asked (fun i=>c.l1.getD i false) fun k=>c.l2.getD k false:=by simp only [z0G,q1];rfl
 have k2:(z0G (dS T.tab c T.tab.R) (z0h T.tab.C (fun k=>c.l2.getD k false) T.tab.col)).hi=T.tab.taken (fun i=>c.l1.getD i false) fun k=>c.l2.getD k false:=by simp only [z0G,q2];rfl
 have k3:(eS T.tab c T.tab.R).lo=T.tab.given (fun i=>c.l1.getD i false) fun k=>c.l2.getD k false:=q3
 have k4:(eS T.tab c T.tab.R).hi=T.tab.comes (fun i=>c.l1.getD i false) fun k=>c.l2.getD k false:=q4
 simp only [k1,k2,k3,k4] at hx hx2
 rw [run_unfold fn80 rfl]
 unfold Tab.gap
 simp only [go_sem,simprocAttr,Try.f80]
 rw [hx]
 simp only [go_sem,simprocAttr,rgH,boxT,k3,k4]
 rw [hx2]
 cases d1:decide (T.tab.comes (fun i=>c.l1.getD i false) (fun k=>c.l2.getD k false) < T.tab.asked (fun i=>c.l1.getD i false) fun k=>c.l2.getD k false) <;>
  (simp only [go_sem,simprocAttr,rgH,boxT,k1,k2,d1,unwind,modeEx,resultsOf,one]
   exact ⟨_,rfl⟩)
theorem zD0 {T:TabV} (hT:T.Wf) (hO:T.tab.Ok) {c:CutA} (hc:c.Wf) (h1:c.l1.length=T.tab.R) (h2:c.l2.length=T.tab.C) (ro:Nat) (H:Heap) (nx:Nat):callT env 80 [T.v,c.v] ro H nx=some (.ret (.bool (T.tab.gap (fun i=>c.l1.getD i false) fun k=>c.l2.getD k false)),.ups []):=by
 obtain ⟨H',h⟩:=zFf hT hO hc h1 h2
 exact call_pure rfl rfl rfl (z4j T c) h rfl ro H nx
set_option maxRecDepth 10000
set_option maxHeartbeats 2000000
def rshI (a:Int) (i:Nat):Int:=a.fdiv (2 ^ min i 64)
def zJ5 (a:Int) (i:Nat):Int:=IntKind.i64.wrap ((BitVec.ofInt 64 (rshI a i)) &&& (BitVec.ofInt 64 1)).toNat
def rbit (a:Int) (i:Nat):Bool:=decide (zJ5 a i=1)
theorem zKp:∀ a,a < 256→∀ i,i < 8→decide (zJ5 (a:Nat) i=1)=Nat.testBit a i:=by decide +kernel
theorem zJ6 {a i:Nat} (ha:a < 256) (hi:i < 8):rbit a i=Nat.testBit a i:=zKp a ha i hi
theorem zQX (a:Int) (i:Nat) (z:AVal):binOp env .shr 3 ⟨.int .i64,1,8,z⟩ (.int .i64 a) (.int .i64 (i:Int))=some (.int .i64 (rshI a i)):=by
 simp only [binOp]
 rw [if_neg (by omega)]
 rfl
theorem zPH (a:Int) (i:Nat) (z:AVal):binOp env .and 3 ⟨.int .i64,1,8,z⟩ (.int .i64 (rshI a i)) (.int .i64 1)=some (.int .i64 (zJ5 a i)):=rfl
def z0n (a:Int) (n:Nat):List Bool:=(List.range n).map (rbit a)
theorem z9O (a:Int) (n:Nat):z0n a (n+1)=z0n a n++[rbit a n]:=by simp [z0n,List.range_succ]
theorem z1U (a:Int) (n:Nat):(z0n a n).length=n:=by simp [z0n]
theorem z9N {a:Int} {n i:Nat} (h:i < n):(z0n a n).getD i false=rbit a i:=getD_some (by simp [z0n,h])
theorem zNi {T:TabV} (hO:T.tab.Ok) (a b:Int):∀ (n i g1:Nat) (j0 j4 j5 j9 j10 j11 j12 j13 j14 j15 j16 j17 j18 j19 j20 j21 j22 j23 j24 j25 j26 j27 j28 j29 j30 j31 j32 j33 j34 j35 j36 j37 j38 j39 j40 j41 j42 j43 j44:AVal),i+n=T.tab.R →
    Goes (execT env (Try.f94.at [1,1,0,1,0]) ⟨[j0,.int .i64 a,.int .i64 b,.ptr 0 0 0 0,j4,j5,.ptr 1 0 0 0,.ptr 4 0 0 0,.int .i64 i,j9,j10,j11,j12,j13,j14,j15,j16,j17,j18,j19,j20,j21,j22,j23,j24,j25,j26,j27,j28,j29,j30,j31,j32,j33,j34,j35,j36,j37,j38,j39,j40,j41,j42,j43,j44],ctH T g1 0 (z0n a i) [],[],0,[7]⟩) fun e s=>
     e=.exit 0∧∃ (g1:Nat),FrP 45 [(1,.int .i64 a),(2,.int .i64 b),(3,.ptr 0 0 0 0),(6,.ptr 1 0 0 0),(7,.ptr 4 0 0 0)] (ctH T g1 0 (z0n a T.tab.R) []) [] 0 [7] s:=by
 have hR8:=hO.R8
 intro n
 induction n with
 | zero=>
   intro i g1;intros;rename_i hi
   have hd:decide ((i:Int) < (T.tab.R:Int))=false:=by simp;omega
   have:i=T.tab.R:=by omega
   subst this
   simp only [go_sem,simprocAttr,Try.f94,ctH,boxT]
   rw [exec_loop]
   simp only [go_sem,simprocAttr,List.length_map,show T.rows.l.length=T.tab.R from rfl,hd]
   exact ⟨g1,frP (by kernel_rfl)⟩
 | succ n ih=>
   intro i g1;intros;rename_i hi
   have hd:decide ((i:Int) < (T.tab.R:Int))=true:=by simp;omega
   obtain ⟨g1',ap⟩:=z2r (H:=ctH T g1 0 (z0n a i) []) (id:=2) (l:=z0n a i) (b:=rbit a i) (cl:=true) rfl (by rw [z1U];omega) 5 (ro:=0) (Nat.zero_le _)
   rw [← z9O] at ap
   have hb:decide (zJ5 a i=1)=rbit a i:=rfl
   have ih':=ih (i+1) g1'
   simp only [ctH,boxT,List.length_nil] at ap
   simp only [go_sem,simprocAttr,Try.f94,ctH,boxT,List.length_nil] at ih' ⊢
   rw [exec_loop]
   simp only [go_sem,simprocAttr,List.length_map,show T.rows.l.length=T.tab.R from rfl,hd,zQX,zPH,hb,ap]
   rw [apart_ok]
   · simp only [go_sem,simprocAttr,ctH,z00 (show i < 2 ^ 63 - 1 by omega)]
     exact ih' _ _ _ _ _ _ _ _ _ _ _ _ _ _ _ _ _ _ _ _ _ _ _ _ _ _ _ _ _ _ _ _ _ _ _ _ _ _ _ (by omega)
   · kernel_rfl
theorem zNh {T:TabV} (hO:T.tab.Ok) (b:Int) (g1:Nat) (l1:List Bool):∀ (n i g2:Nat) (j0 j1 j4 j5 j8 j10 j11 j12 j13 j14 j15 j16 j17 j18 j19 j20 j21 j22 j23 j24 j25 j26 j27 j28 j29 j30 j31 j32 j33 j34 j35 j36 j37 j38 j39 j40 j41 j42 j43 j44:AVal),i+n=T.tab.C →
    Goes (execT env (Try.f94.at [1,1,1,0,1,0]) ⟨[j0,j1,.int .i64 b,.ptr 0 0 0 0,j4,j5,.ptr 1 0 0 0,.ptr 4 0 0 0,j8,.int .i64 i,j10,j11,j12,j13,j14,j15,j16,j17,j18,j19,j20,j21,j22,j23,j24,j25,j26,j27,j28,j29,j30,j31,j32,j33,j34,j35,j36,j37,j38,j39,j40,j41,j42,j43,j44],ctH T g1 g2 l1 (z0n b i),[],0,[7]⟩) fun e s=>
     e=.exit 2∧∃ (g2:Nat),FrP 45 [(6,.ptr 1 0 0 0),(7,.ptr 4 0 0 0)] (ctH T g1 g2 l1 (z0n b T.tab.C)) [] 0 [7] s:=by
 have hC8:=hO.C8
 intro n
 induction n with
 | zero=>
   intro i g2;intros;rename_i hi
   have hd:decide ((i:Int) < (T.tab.C:Int))=false:=by simp;omega
   have:i=T.tab.C:=by omega
   subst this
   simp only [go_sem,simprocAttr,Try.f94,ctH,boxT]
   rw [exec_loop]
   simp only [go_sem,simprocAttr,List.length_map,show T.cols.l.length=T.tab.C from rfl,hd]
   exact ⟨g2,frP (by kernel_rfl)⟩
 | succ n ih=>
   intro i g2;intros;rename_i hi
   have hd:decide ((i:Int) < (T.tab.C:Int))=true:=by simp;omega
   obtain ⟨g2',ap⟩:=z2r (H:=ctH T g1 g2 l1 (z0n b i)) (id:=3) (l:=z0n b i) (b:=rbit b i) (cl:=true) rfl (by rw [z1U];omega) 5 (ro:=0) (Nat.zero_le _)
   rw [← z9O] at ap
   have hb:decide (zJ5 b i=1)=rbit b i:=rfl
   have ih':=ih (i+1) g2'
   simp only [ctH,boxT] at ap
   simp only [go_sem,simprocAttr,Try.f94,ctH,boxT] at ih' ⊢
   rw [exec_loop]
   simp only [go_sem,simprocAttr,List.length_map,show T.cols.l.length=T.tab.C from rfl,hd,zQX,zPH,hb,ap]
   rw [apart_ok]
   · simp only [go_sem,simprocAttr,ctH,z00 (show i < 2 ^ 63 - 1 by omega)]
     exact ih' _ _ _ _ _ _ _ _ _ _ _ _ _ _ _ _ _ _ _ _ _ _ _ _ _ _ _ _ _ _ _ _ _ _ _ _ _ _ _ _ (by omega)
   · kernel_rfl
def z9M (t:Tab) (a b:Int):CutA:=⟨false,1,z0n a t.R,false,1,z0n b t.C⟩
theorem zKo {t:Tab} (hO:t.Ok) (a b:Int):(z9M t a b).Wf:=by
 have:=hO.R8
 have:=hO.C8
 exact ⟨.inr rfl,.inr rfl,by simp only [z9M,z1U];omega,by simp only [z9M,z1U];omega⟩
theorem zJA {T:TabV} (hO:T.tab.Ok) (a b:Int) (ro:Nat) (H:Heap) (nx:Nat):callT env 94 [T.v,.int .i64 a,.int .i64 b] ro H nx=some (.ret (z9M T.tab a b).v,.ups []):=by
 have hR1:=hO.R1
 have hC1:=hO.C1
 obtain ⟨e1,t1,hx1,hp1⟩:=zNi hO a b T.tab.R 0 0 _ _ _ _ _ _ _ _ _ _ _ _ _ _ _ _ _ _ _ _ _ _ _ _ _ _ _ _ _ _ _ _ _ _ _ _ _ _ _ (by omega)
 obtain ⟨rfl,g1,jp,rfl⟩:=hp1
 obtain ⟨e2,t2,hx2,hp2⟩:=zNh hO b g1 (z0n a T.tab.R) T.tab.C 0 0 _ _ _ _ _ _ _ _ _ _ _ _ _ _ _ _ _ _ _ _ _ _ _ _ _ _ _ _ _ _ _ _ _ _ _ _ _ _ _ _ (by omega)
 obtain ⟨rfl,g2,jq,rfl⟩:=hp2
 have s0:∀ a,z0n a 0=[]:=fun _=>rfl
 have b0:z09 []=[]:=rfl
 have n1:z09 (z0n a T.tab.R) ≠ []:=by
  intro h;have:=congrArg List.length h
  rw [z0F,z1U] at this;exact absurd this (by show T.tab.R ≠ 0;omega)
 have n2:z09 (z0n b T.tab.C) ≠ []:=by
  intro h;have:=congrArg List.length h
  rw [z0F,z1U] at this;exact absurd this (by show T.tab.C ≠ 0;omega)
 simp only [go_sem,simprocAttr,Try.f94,s0,b0,z1Z,z1a,ctH,boxT,List.length_nil,Int.natCast_zero,Int.ofNat_zero] at hx1
 simp only [go_sem,simprocAttr,Try.f94,s0,b0,z1Z,z1a,ctH,boxT,List.length_nil,Int.natCast_zero,Int.ofNat_zero] at hx2
 have:∃ H':Heap,H'[2]?=some (accB 1 g1 (z09 (z0n a T.tab.R)))∧H'[3]?=some (accB 1 g2 (z09 (z0n b T.tab.C)))∧runT env 94 [T.v,.int .i64 a,.int .i64 b] [] 0=some (.ret (.agg [.ref 2 (accG g1 (z09 (z0n a T.tab.R))) 0 (z0n a T.tab.R).length false,.ref 3 (accG g2 (z09 (z0n b T.tab.C))) 0 (z0n b T.tab.C).length false]),H'):=by
  refine ⟨?_,?_,?_,?_⟩
  case refine_4=>
   rw [run_unfold fn94 rfl]
   simp only [go_sem,simprocAttr,Try.f94,z0E]
   rw [hx1]
   simp only [go_sem,simprocAttr,ctH,boxT,b0,z1Z,z1a]
   rw [hx2]
   simp only [go_sem,simprocAttr,ctH,boxT,unwind,modeEx,resultsOf,one]
   rfl
  · rfl
  · rfl
 obtain ⟨H',h6,h7,h⟩:=this
 have t1:(z09 (z0n a T.tab.R)).take (z0n a T.tab.R).length=z09 (z0n a T.tab.R):=List.take_of_length_le (by rw [z0F];exact Nat.le_refl _)
 have t2:(z09 (z0n b T.tab.C)).take (z0n b T.tab.C).length=z09 (z0n b T.tab.C):=List.take_of_length_le (by rw [z0F];exact Nat.le_refl _)
 have a1:accB 1 g1 (z09 (z0n a T.tab.R))=.cells g1 1 true (z09 (z0n a T.tab.R)):=if_neg n1
 have a2:accB 1 g2 (z09 (z0n b T.tab.C))=.cells g2 1 true (z09 (z0n b T.tab.C)):=if_neg n2
 have c1:accG g1 (z09 (z0n a T.tab.R))=g1:=if_neg n1
 have c2:accG g2 (z09 (z0n b T.tab.C))=g2:=if_neg n2
 rw [a1] at h6
 rw [a2] at h7
 rw [c1,c2] at h
 refine z0r (w:=(z9M T.tab a b).v) rfl rfl rfl (by simp [underL,AVal.under,TabV.under]) h ?_ ((z9M T.tab a b).under 0) ro H nx
 simp [handBack,toLit,noRef,AVal.under,mapO,h6,h7,t1,t2,CutA.v,z9M,z0F]
def gapN (t:Tab) (a b:Nat):Bool:=t.gap (fun i=>a.testBit i) fun k=>b.testBit k
theorem zI9 (r:Nat→Bool):∀ n,∃ a,a < 2 ^ n∧∀ i,i < n→Nat.testBit a i=r i
 | 0=>⟨0,by decide,fun i hi=>by omega⟩
 | n+1=>by
   obtain ⟨a,ha,h⟩:=zI9 r n
   have h2:2 ^ n < 2 ^ (n+1):=Nat.pow_lt_pow_right (by decide) (by omega)
   cases hr:r n with
   | false=>
     refine ⟨a,by omega,fun i hi=>?_⟩
     by_cases e:i=n
     · subst e;rw [hr,Nat.testBit_lt_two_pow ha]
     · exact h i (by omega)
   | true=>
     refine ⟨a ||| 2 ^ n,Nat.or_lt_two_pow (by omega) h2,fun i hi=>?_⟩
     rw [Nat.testBit_or]
     by_cases e:i=n
     · subst e;rw [hr,Nat.testBit_two_pow_self,Bool.or_true]
     · rw [Nat.testBit_two_pow_of_ne (Ne.symm e),Bool.or_false];exact h i (by omega)
theorem zMr {t:Tab} (hO:t.Ok):canB t=allN (fun a=>allN (fun b=>!gapN t a b) 0 (2 ^ t.C)) 0 (2 ^ t.R):=by
 rw [Bool.eq_iff_iff,z0S]
 simp only [z3m,Bool.not_eq_true']
 constructor
 · intro h a _ _ b _ _
   exact z2z h _ _
 · intro h
   rcases zDx hO with hc | ⟨r,c,hg⟩
   · exact hc
   · obtain ⟨a,ha,ha2⟩:=zI9 r t.R
     obtain ⟨b,hb,hb2⟩:=zI9 c t.C
     have:=h a (by omega) (by omega) b (by omega) (by omega)
     unfold gapN at this
     rw [z8z (r':=r) (c':=c) ha2 hb2,hg] at this
     cases this
theorem zO0:∀ r:Nat,r < 9→IntKind.i64.wrap ((1:Int) * 2 ^ (min (r:Int).toNat 64))=((2 ^ r:Nat):Int):=by decide +kernel
theorem zGu {r:Nat} (hr:r≤8) (z:AVal):binOp env .shl 3 ⟨.int .i64,1,8,z⟩ (.int .i64 1) (.int .i64 (r:Int))=some (.int .i64 ((2 ^ r:Nat):Int)):=by
 simp only [binOp]
 rw [if_neg (by omega),← zO0 r (by omega)]
 rfl
theorem zMG {r:Nat} (h:r≤8):2 ^ r≤256:=Nat.pow_le_pow_right (by decide) h
theorem zHq {T:TabV} (hT:T.Wf) (hO:T.tab.Ok) {a:Nat} (ha:a < 256):∀ (n b:Nat) (j0 j2 j5 j6 j7 j8 j9 j10 j11 j12 j13 j14 j15 j16 j17 j18 j19 j20 j21 j22 j23 j24 j25 j26:AVal),b+n=2 ^ T.tab.C →
    Goes (execT env (Try.f75.at [1,0,1,0,0,1,0,0,1,0]) ⟨[j0,.ptr 0 0 0 0,j2,.int .i64 a,.int .i64 b,j5,j6,j7,j8,j9,j10,j11,j12,j13,j14,j15,j16,j17,j18,j19,j20,j21,j22,j23,j24,j25,j26],[boxT T],[],0,[]⟩) fun ex st=>
     if allN (fun b=>!gapN T.tab a b) b n then ex=.exit 2∧FrP 27 [(1,.ptr 0 0 0 0),(3,.int .i64 a)] [boxT T] [] 0 [] st
     else ex=.ret∧FrP 27 [(2,.bool false)] [boxT T] [] 0 [] st:=by
 have hR8:=hO.R8
 have hC8:=hO.C8
 have hp:=zMG hC8
 have lc:T.cols.l.length=T.tab.C:=rfl
 intro n
 induction n with
 | zero=>
   intro b;intros;rename_i hb
   have hd:decide ((b:Int) < ((2 ^ T.tab.C:Nat):Int))=false:=decide_eq_false (by omega)
   simp only [go_sem,simprocAttr,Try.f75,boxT]
   rw [exec_loop]
   simp only [go_sem,simprocAttr,List.length_map,lc,zGu hC8,hd]
   exact frP (by kernel_rfl)
 | succ n ih=>
   intro b;intros;rename_i hb
   have hd:decide ((b:Int) < ((2 ^ T.tab.C:Nat):Int))=true:=decide_eq_true (by omega)
   have cc:=zJA hO (a:Int) (b:Int)
   have gc:=zD0 hT hO (zKo hO (a:Int) (b:Int)) (z1U _ _) (z1U _ _)
   have eg:T.tab.gap (fun i=>(z9M T.tab a b).l1.getD i false) (fun k=>(z9M T.tab a b).l2.getD k false)=gapN T.tab a b:=
    z8z (fun i hi=>by rw [show (z9M T.tab a b).l1.getD i false=rbit a i from z9N hi,zJ6 ha (by omega)]) fun k hk=>by rw [show (z9M T.tab a b).l2.getD k false=rbit b k from z9N hk,zJ6 (by omega) (by omega)]
   rw [eg] at gc
   cases hg:gapN T.tab a b with
   | true=>
     rw [hg] at gc
     simp only [go_sem,simprocAttr,Try.f75,boxT]
     rw [exec_loop]
     simp only [go_sem,simprocAttr,List.length_map,lc,zGu hC8,hd,cc,gc,allN,hg,Bool.not_true]
     exact frP (by kernel_rfl)
   | false=>
     rw [hg] at gc
     have ih':=ih (b+1)
     simp only [go_sem,simprocAttr,Try.f75,boxT] at ih' ⊢
     rw [exec_loop]
     simp only [go_sem,simprocAttr,List.length_map,lc,zGu hC8,hd,cc,gc,allN,hg,Bool.not_false,z00 (show b < 2 ^ 63 - 1 by omega)]
     exact ih' _ _ _ _ _ _ _ _ _ _ _ _ _ _ _ _ _ _ _ _ _ _ _ _ (by omega)
theorem zHr {T:TabV} (hT:T.Wf) (hO:T.tab.Ok):∀ (n a:Nat) (j0 j2 j4 j5 j6 j7 j8 j9 j10 j11 j12 j13 j14 j15 j16 j17 j18 j19 j20 j21 j22 j23 j24 j25 j26:AVal),a+n=2 ^ T.tab.R →
    Goes (execT env (Try.f75.at [1,0,1,0]) ⟨[j0,.ptr 0 0 0 0,j2,.int .i64 a,j4,j5,j6,j7,j8,j9,j10,j11,j12,j13,j14,j15,j16,j17,j18,j19,j20,j21,j22,j23,j24,j25,j26],[boxT T],[],0,[]⟩) fun ex st=>
     if allN (fun a=>allN (fun b=>!gapN T.tab a b) 0 (2 ^ T.tab.C)) a n then ex=.exit 0∧FrP 27 [] [boxT T] [] 0 [] st
     else ex=.ret∧FrP 27 [(2,.bool false)] [boxT T] [] 0 [] st:=by
 have hR8:=hO.R8
 have hp:=zMG hR8
 have lr:T.rows.l.length=T.tab.R:=rfl
 intro n
 induction n with
 | zero=>
   intro a;intros;rename_i ha
   have hd:decide ((a:Int) < ((2 ^ T.tab.R:Nat):Int))=false:=decide_eq_false (by omega)
   simp only [go_sem,simprocAttr,Try.f75,boxT]
   rw [exec_loop]
   simp only [go_sem,simprocAttr,List.length_map,lr,zGu hR8,hd]
   exact frP (by kernel_rfl)
 | succ n ih=>
   intro a;intros;rename_i ha
   have hd:decide ((a:Int) < ((2 ^ T.tab.R:Nat):Int))=true:=decide_eq_true (by omega)
   obtain ⟨ex,st,hx,hp⟩:=zHq hT hO (a:=a) (by omega) (2 ^ T.tab.C) 0 _ _ _ _ _ _ _ _ _ _ _ _ _ _ _ _ _ _ _ _ _ _ _ _ (by omega)
   simp only [go_sem,simprocAttr,Try.f75,boxT,Int.ofNat_zero,Int.natCast_zero] at hx
   cases hq:allN (fun b=>!gapN T.tab a b) 0 (2 ^ T.tab.C) with
   | false=>
     rw [hq,if_neg (by simp)] at hp
     obtain ⟨rfl,jp,rfl⟩:=hp
     simp only [go_sem,simprocAttr,Try.f75,boxT]
     rw [exec_loop]
     simp only [go_sem,simprocAttr,List.length_map,lr,zGu hR8,hd]
     rw [hx]
     simp only [go_sem,simprocAttr,boxT,allN,hq]
     exact frP (by kernel_rfl)
   | true=>
     rw [hq,if_pos rfl] at hp
     obtain ⟨rfl,jp,rfl⟩:=hp
     have ih':=ih (a+1)
     simp only [go_sem,simprocAttr,Try.f75,boxT] at ih' ⊢
     rw [exec_loop]
     simp only [go_sem,simprocAttr,List.length_map,lr,zGu hR8,hd]
     rw [hx]
     simp only [go_sem,simprocAttr,boxT,allN,hq,z00 (show a < 2 ^ 63 - 1 by omega)]
     exact ih' _ _ _ _ _ _ _ _ _ _ _ _ _ _ _ _ _ _ _ _ _ _ _ _ _ (by omega)
theorem zAt {T:TabV} (hT:T.Wf) (hO:T.tab.Ok):∃ H',runT env 75 [T.v] [] 0=some (.ret (.bool (canB T.tab)),H'):=by
 rw [zMr hO]
 obtain ⟨ex,st,hx,hp⟩:=zHr hT hO (2 ^ T.tab.R) 0 _ _ _ _ _ _ _ _ _ _ _ _ _ _ _ _ _ _ _ _ _ _ _ _ _ (by omega)
 simp only [go_sem,simprocAttr,Try.f75,boxT,Int.ofNat_zero,Int.natCast_zero] at hx
 rw [run_unfold fn75 rfl]
 simp only [go_sem,simprocAttr,Try.f75,boxT]
 rw [hx]
 cases hq:allN (fun a=>allN (fun b=>!gapN T.tab a b) 0 (2 ^ T.tab.C)) 0 (2 ^ T.tab.R) with
 | false=>
   rw [hq,if_neg (by simp)] at hp
   obtain ⟨rfl,jp,rfl⟩:=hp
   simp only [go_sem,simprocAttr,boxT,unwind,modeEx,resultsOf,one]
   exact ⟨_,rfl⟩
 | true=>
   rw [hq,if_pos rfl] at hp
   obtain ⟨rfl,jp,rfl⟩:=hp
   simp only [go_sem,simprocAttr,boxT,unwind,modeEx,resultsOf,one]
   exact ⟨_,rfl⟩
theorem zEs {T:TabV} (hT:T.Wf) (hO:T.tab.Ok) (ro:Nat) (H:Heap) (nx:Nat):callT env 75 [T.v] ro H nx=some (.ret (.bool (canB T.tab)),.ups []):=by
 obtain ⟨H',h⟩:=zAt hT hO
 exact call_pure rfl rfl rfl z0b h rfl ro H nx
set_option maxRecDepth 10000
set_option maxHeartbeats 2000000
end Go.Proofs.Ytgfejpngfikjiaa.Tidy
