/-
 What the functions that SharesTablesSpec reaches compute;the law,run.
-/
import Derived.Test.YtgfejpngfikjiaaWb
import Derived.Test.YtgfejpngfikjiaaCb
import Derived.Test.YtgfejpngfikjiaaWa
import Derived.Test.YtgfejpngfikjiaaCe
set_option linter.all false
namespace Go.Proofs.Ytgfejpngfikjiaa.Tidy
open Go Go.IntWalk
set_option maxRecDepth 10000
set_option linter.unusedSimpArgs false
set_option maxHeartbeats 4000000
theorem zJL (cl:Bool) (l:List Spn) (n:Int) (hl:l.length < 2 ^ 63):∃ H',runT env 97 [.lit cl 2 (l.map spV),.int .i64 n] [] 0=some (.ret (.bool (decide ((l.length:Int)=n) && l.all Spn.ok)),H'):=by
 have cc:=z6U (cl:=cl) (sz:=2) (l:=l) (.inr rfl) hl
 rw [run_unfold fn97 rfl]
 cases h1:decide ((l.length:Int)=n) with
 | false=>
   simp only [go_sem,simprocAttr,Try.f97,List.length_map,h1,unwind,modeEx,resultsOf,one,Bool.false_and]
   exact ⟨_,rfl⟩
 | true=>
   cases h2:l.all Spn.ok <;> rw [h2] at cc <;>
    (simp only [go_sem,simprocAttr,Try.f97,List.length_map,h1,cc,unwind,modeEx,resultsOf,one,Bool.true_and]
     exact ⟨_,rfl⟩)
theorem zGv {H:Heap} {p n:Nat} {l:List Spn} (hH:H[p]?=some (.cells 0 2 true (l.map spV))) (hn:l.length=n) (hl:l.length < 2 ^ 63) (m:Int) (nx:Nat):callT env 97 [.ref p 0 0 n false,.int .i64 m] 0 H nx=some (.ret (.bool (decide ((l.length:Int)=m) && l.all Spn.ok)),.ups []):=by
 subst hn
 obtain ⟨H',hr⟩:=zJL false l m hl
 have htk:(l.map spV).take l.length=l.map spV:=List.take_of_length_le (by rw [List.length_map];exact Nat.le_refl _)
 have hle:lend H (env.hint 97).lits [.ref p 0 0 l.length false,.int .i64 m] 0=some ([.lit false 2 (l.map spV),.int .i64 m],[p]):=by
  have:(env.hint 97).lits=[0]:=rfl
  rw [this]
  have e7:toLit (fun _=>true) H 8 (.ref p 0 0 l.length false)=some (.lit false 2 (l.map spV)):=by
   simp [toLit,noRef,AVal.under,hH,htk]
  have hre:reach H fuel0 [p] []=some [p]:=by
   unfold fuel0
   simp [reach,hH]
  unfold lend
  rw [lend_noRef H [0] [.int .i64 m] 1 rfl]
  simp only [noRef,AVal.under,AVal.refs,e7,hre]
  rfl
 obtain ⟨us,mc,hus⟩:=z21 (f:=97) rfl rfl rfl rfl hle rfl hr (handBack_noRef _ _ _ _ _ rfl) rfl nx
 have hus:=hus rfl
 subst hus
 exact mc
def z0a (t:Tab) (a b:Nat):Tab:=⟨(t.rows.eraseIdx (max a b)).eraseIdx (min a b)++[z0G (t.row a) (t.row b)],t.cols,(t.cells.eraseIdx (max a b)).eraseIdx (min a b)++[z0T t a b t.C]⟩
def z41 (t:Tab) (a b:Nat):List Spn:=z0T t a b t.C++[z0G (t.row a) (t.row b)]
set_option maxRecDepth 10000
set_option maxHeartbeats 4000000
theorem z5c (a b:Int):maxL .i64 a [.int .i64 b]=some (max a b):=by
 simp only [maxL,if_true];congr 1;omega
theorem z6t (a b:Int):minL .i64 a [.int .i64 b]=some (min a b):=by
 simp only [minL,if_true];congr 1;omega
theorem zC4 {T:TabV} (hT:T.Wf) (i k:Int) (x:Spn) (ro:Nat) (H:Heap) (nx:Nat):callT env 62 [T.v,.int .i64 i,.int .i64 k,spV x] ro H nx=some (.ret (zEm T.tab i k x),.ups []):=by
 have hu:underL 0 [T.v,.int .i64 i,.int .i64 k,spV x]=true:=by simp [underL,AVal.under,TabV.under,z7B]
 have ck:=z0w T hT
 have lr:T.rows.l.length=T.tab.R:=rfl
 have lc:T.cols.l.length=T.tab.C:=rfl
 unfold zEm
 have pure:∀ n:Int,noRef (.tuple [noTab,.int .i64 n])=true:=fun _=>rfl
 cases hok:T.tab.ok with
 | false=>
   have:∃ H',runT env 62 [T.v,.int .i64 i,.int .i64 k,spV x] [] 0=some (.ret (.tuple [noTab,.int .i64 60]),H'):=by
    rw [run_unfold fn62 rfl]
    simp only [go_sem,simprocAttr,Try.f62,ck,z22 hok,unwind,modeEx,resultsOf,one]
    exact ⟨_,rfl⟩
   obtain ⟨H',h⟩:=this
   exact call_pure rfl rfl rfl hu h (pure _) ro H nx
 | true=>
   cases ho:outB T.tab i k with
   | true=>
     have:∃ H',runT env 62 [T.v,.int .i64 i,.int .i64 k,spV x] [] 0=some (.ret (.tuple [noTab,.int .i64 1]),H'):=by
      rw [run_unfold fn62 rfl]
      cases d1:decide (i < 0) <;> cases d2:decide ((T.tab.R:Int)≤i) <;> cases d3:decide (k < 0) <;> cases d4:decide ((T.tab.C:Int)≤k) <;>
       first
       | (exfalso;unfold outB at ho;rw [d1,d2,d3,d4] at ho;exact Bool.noConfusion ho)
       | (simp only [go_sem,simprocAttr,Try.f62,ck,z0O hok,List.length_map,lr,lc,d1,d2,d3,d4,unwind,modeEx,resultsOf,one]
          exact ⟨_,rfl⟩)
     obtain ⟨H',h⟩:=this
     exact call_pure rfl rfl rfl hu h (pure _) ro H nx
   | false=>
     have d:decide (i < 0)=false∧decide ((T.tab.R:Int)≤i)=false∧decide (k < 0)=false∧decide ((T.tab.C:Int)≤k)=false:=by
      unfold outB at ho
      simpa only [Bool.or_eq_false_iff] using ho
     obtain ⟨d1,d2,d3,d4⟩:=d
     cases hx:x.ok with
     | false=>
       have:∃ H',runT env 62 [T.v,.int .i64 i,.int .i64 k,spV x] [] 0=some (.ret (.tuple [noTab,.int .i64 1]),H'):=by
        rw [run_unfold fn62 rfl]
        simp only [go_sem,simprocAttr,Try.f62,ck,z0O hok,List.length_map,lr,lc,d1,d2,d3,d4,hx,unwind,modeEx,resultsOf,one]
        exact ⟨_,rfl⟩
       obtain ⟨H',h⟩:=this
       exact call_pure rfl rfl rfl hu h (pure _) ro H nx
     | true=>
       have hO:=Tab.ok_iff.1 hok
       obtain ⟨r,c,rfl,rfl,hr,hc⟩:=z1r ho
       have r0:(0:Int)≤(r:Int):=by omega
       have c0:(0:Int)≤(c:Int):=by omega
       obtain ⟨s,_,q1,q2,q3,_,_⟩:=TabV.at hT hO hr hc
       have q3:=eq_true q3
       rw [Int.toNat_natCast,Int.toNat_natCast]
       generalize hy:T.tab.cell r c=y at q2
       have m1:(z0t x y).lo=max x.lo y.lo:=rfl
       have m2:(z0t x y).hi=min x.hi y.hi:=rfl
       have hmt:AVal.agg [.int .i64 (max x.lo y.lo),.int .i64 (min x.hi y.hi)]=spV (z0t x y):=rfl
       have wr0:z0K (spV x) 0 (spV (z0t x y))=some (spV (z0t x y)):=rfl
       cases hm:decide ((z0t x y).hi < (z0t x y).lo) with
       | true=>
         have hm':=of_decide_eq_true hm
         rw [if_pos rfl,if_neg (by simp),if_pos hm']
         have:∃ H',runT env 62 [T.v,.int .i64 r,.int .i64 c,spV x] [] 0=some (.ret (.tuple [noTab,.int .i64 4]),H'):=by
          rw [run_unfold fn62 rfl]
          simp only [go_sem,simprocAttr,Try.f62,ck,z0O hok,List.length_map,lr,lc,d1,d2,d3,d4,hx,r0,c0,Int.toNat_natCast,q1,q2,q3,z5c,z6t,hm,hmt,wr0,unwind,modeEx,resultsOf,one]
          exact ⟨_,rfl⟩
         obtain ⟨H',h⟩:=this
         exact call_pure rfl rfl rfl hu h (pure _) ro H nx
       | false=>
         have hm':=of_decide_eq_false hm
         rw [if_pos rfl,if_neg (by simp),if_neg hm']
         have hok2:=zBU (y:=y) hx (by omega)
         have hO2:=z1O hO (i:=r) (k:=c) (x:=z0t x y) hr hok2
         obtain ⟨g,X,p,acc,ps,k1,k2,k3,k4,k5,k6,k7,k8,hpsge,k9⟩:=zKC hT hO (c:=c) hr (z0t x y) [boxT T,.cells 0 2 true [spV (z0t x y)],.cells 0 3 false [noTab],.cells 0 2 true [spV y]]
         have dR:decide ((r:Int) < (T.tab.R:Int))=true:=by simp;omega
         have dC:decide ((c:Int) < (T.tab.C:Int))=true:=by simp;omega
         have hrl:=z0V hO.len hO.wid hr
         have hget:=z2m hO hr hc
         rw [hy] at hget
         have gs:=fun b:Blk=>z08 (X:=X) rfl b
         have ss:=fun b b':Blk=>z0d (X:=X) rfl b b'
         have ls:=fun b:Blk=>z06 (X:=X) rfl b
         have H4:([boxT T,.cells 0 2 true [spV (z0t x y)],.cells 0 3 false [noTab],.cells 0 2 true [spV y]]:Heap).length=4:=rfl
         rw [H4] at k1 k2 k3 k6 k7 hpsge k9
         have wr:z0K (spV y) 0 (spV (z0t x y))=some (spV (z0t x y)):=rfl
         have z1:(p < X.length+1+1+1+1+1)=True:=eq_true (by omega)
         have hne1:∀ (Z:Heap) b,(Z.set p b)[X.length+1+1+1+1]?=Z[X.length+1+1+1+1]?:=fun Z b=>List.getElem?_set_ne (by omega)
         have hne2:∀ (Z:Heap) b,(Z.set p b)[2]?=Z[2]?:=fun Z b=>List.getElem?_set_ne (by omega)
         have k9:=k9 [.cells 0 3 false [memT T.tab 6 7 14 0 0 g]]
         simp only [boxT,memT,noTab,List.cons_append,List.nil_append,Nat.reduceAdd] at k1 k2 k3 k5 k9
         have z2:decide (1 < X.length+1+1+1+1+1)=true:=decide_eq_true (by omega)
         have z3:decide (14 < X.length+1+1+1+1+1)=true:=decide_eq_true (by omega)
         have z4:decide (p < X.length+1+1+1+1+1)=true:=decide_eq_true (by omega)
         have z5:decide (X.length+1+1+1+1 < X.length+1+1+1+1+1)=true:=decide_eq_true (by omega)
         have z6:(2 < X.length+1+1+1+1+1)=True:=eq_true (by omega)
         obtain ⟨Y,hY⟩:∃ Y:Heap,Y=(boxT T :: Blk.cells 0 2 true [spV (z0t x y)] :: Blk.cells 0 3 false [noTab] :: Blk.cells 0 2 true [spV y] :: (X++[Blk.cells 0 3 false [memT T.tab 6 7 14 0 0 g]])).set p (Blk.cells 0 2 true ((rowA T.tab r).set c (spV (z0t x y)))):=⟨_,rfl⟩
         have y1:Y[X.length+1+1+1+1]?=some (.cells 0 3 false [memT T.tab 6 7 14 0 0 g]):=by
          rw [hY,hne1]
          exact z08 (X:=X) rfl _
         have y2:Y[2]?=some (.cells 0 3 false [noTab]):=by
          rw [hY,hne2];rfl
         have yl:Y.length=X.length+1+1+1+1+1:=by rw [hY];simp
         have y3:∀ b,(Y.set 2 b)[2]?=some b:=fun b=>List.getElem?_set_self (by omega)
         have y4:∀ b j,j ≠ 2→(Y.set 2 b)[j]?=Y[j]?:=fun b j h=>List.getElem?_set_ne (Ne.symm h)
         have yat:TbAt (Y.set 2 (.cells 0 3 false [memT T.tab 6 7 14 0 0 g])) 6 7 14 0 0 g ps (T.tab.setCell r c (z0t x y)):=by
          have hlt:=k9.lt
          have k9':TbAt Y 6 7 14 0 0 g ps (T.tab.setCell r c (z0t x y)):=by rw [hY];exact k9
          refine k9'.mono fun j hj=>y4 _ _ ?_
          rcases hj with rfl | rfl | rfl | ⟨m,hm,rfl⟩
          · omega
          · omega
          · omega
          · exact Nat.ne_of_gt (Nat.lt_of_lt_of_le (by decide) (hpsge m))
         simp only [boxT,memT,noTab] at hY y1 y2
         have hrun:runT env 62 [T.v,.int .i64 r,.int .i64 c,spV x] [] 0=some (.ret (.tuple [memT T.tab 6 7 14 0 0 g,.int .i64 0]),Y.set 2 (.cells 0 3 false [memT T.tab 6 7 14 0 0 g])):=by
          rw [run_unfold fn62 rfl]
          simp only [go_sem,simprocAttr,Try.f62,ck,z0O hok,List.length_map,lr,lc,d1,d2,d3,d4,hx,r0,c0,Int.toNat_natCast,q1,q2,q3,z5c,z6t,hm,hmt,wr0,k1,k2,k3,k4,k5,gs,ss,ls,hget,hrl,dR,dC,wr,z1,z2,z3,z4,z5,Nat.zero_le,Nat.lt_add_one,unwind,modeEx,resultsOf,one]
          rw [apart_ok]
          · rw [← hY]
            simp only [go_sem,simprocAttr,y1,y2,y3,yl,z6,unwind,modeEx,resultsOf,one,memT]
          · exact z0L (by kernel_rfl)
         refine z0r rfl rfl rfl hu hrun ?_ rfl ro H nx
         unfold handBack
         have hb:=yat.back (n:=1) hO2.len hO2.wid
         have hb:handBack (Y.set 2 (.cells 0 3 false [memT T.tab 6 7 14 0 0 g])) 0 [] 3 (memT T.tab 6 7 14 0 0 g)=some (canon (T.tab.setCell r c (z0t x y))).v:=hb
         simp only [mapO,hb]
         rfl
set_option maxRecDepth 10000
set_option maxHeartbeats 4000000
def intB (n:Int):Blk:=.cells 0 1 true [.int .i64 n]
section
variable {T:TabV} {x:Spn}
end
set_option maxRecDepth 10000
set_option maxHeartbeats 2000000
set_option maxRecDepth 10000
set_option maxHeartbeats 4000000
theorem z4I {t:Tab} {a b n:Nat} (hR:t.R=n+2) (hab:a ≠ b) (ha:a < t.R) (hb:b < t.R):(z0a t a b).R=n+1:=by
 have hl:t.rows.length=n+2:=hR
 show ((t.rows.eraseIdx (max a b)).eraseIdx (min a b)++[_]).length=_
 have h1:(t.rows.eraseIdx (max a b)).length=n+1:=by rw [List.length_eraseIdx];split <;> omega
 rw [List.length_append,List.length_eraseIdx,h1,List.length_singleton]
 split <;> omega
def idxs (a b n:Nat):List Nat:=(List.range n).filter fun i=>!decide (i=a) && !decide (i=b)
theorem zKY:∀ n,n≤8→∀ a,a < n→∀ b,b < n→a ≠ b→((List.range n).eraseIdx (max a b)).eraseIdx (min a b)=idxs a b n:=by decide +kernel
theorem zDy {a b n:Nat} (h1:¬ n=a) (h2:¬ n=b):idxs a b (n+1)=idxs a b n++[n]:=by
 unfold idxs
 rw [List.range_succ,List.filter_append]
 simp [h1,h2]
theorem zBO {a b n:Nat} (h:n=a ∨ n=b):idxs a b (n+1)=idxs a b n:=by
 unfold idxs
 rw [List.range_succ,List.filter_append]
 rcases h with rfl | rfl <;> simp
theorem zBN {a b n i:Nat} (h:i ∈ idxs a b n):i < n:=by
 unfold idxs at h
 exact List.mem_range.1 (List.mem_filter.1 h).1
theorem z6j (a b n:Nat):(idxs a b n).length≤n:=by
 unfold idxs
 exact Nat.le_trans (List.length_filter_le _ _) (by rw [List.length_range];exact Nat.le_refl _)
theorem zGd {α:Type} (l:List α) (d:α):l=(List.range l.length).map fun i=>l.getD i d:=by
 apply List.ext_getElem?
 intro i
 by_cases h:i < l.length
 · rw [List.getElem?_map,List.getElem?_range h,Option.map_some,List.getD_eq_getElem?_getD,List.getElem?_eq_getElem h];rfl
 · rw [List.getElem?_eq_none (by omega),List.getElem?_eq_none (by simp;omega)]
theorem zCK {α β:Type} (f:α→β) (l:List α) (k:Nat):(l.map f).eraseIdx k=(l.eraseIdx k).map f:=by
 rw [List.eraseIdx_eq_take_drop_succ,List.eraseIdx_eq_take_drop_succ,← List.map_take,← List.map_drop,← List.map_append]
theorem z63 {α:Type} (l:List α) (d:α) {a b:Nat} (h8:l.length≤8) (ha:a < l.length) (hb:b < l.length) (hab:a ≠ b):(l.eraseIdx (max a b)).eraseIdx (min a b)=(idxs a b l.length).map fun i=>l.getD i d:=by
 rw [← zKY _ h8 a ha b hb hab,← zCK,← zCK,← zGd]
theorem z83 {t:Tab} (h8:t.R≤8) {a b:Nat} (hab:a ≠ b) (ha:a < t.R) (hb:b < t.R):(z0a t a b).rows=(idxs a b t.R).map t.row++[z0G (t.row a) (t.row b)]:=by
 show (t.rows.eraseIdx (max a b)).eraseIdx (min a b)++[_]=_
 rw [z63 t.rows sp0 h8 ha hb hab];rfl
theorem z6s {t:Tab} (h8:t.R≤8) (hl:t.cells.length=t.R) {a b:Nat} (hab:a ≠ b) (ha:a < t.R) (hb:b < t.R):(z0a t a b).cells=(idxs a b t.R).map (fun i=>t.cells.getD i [])++[z0T t a b t.C]:=by
 show (t.cells.eraseIdx (max a b)).eraseIdx (min a b)++[_]=_
 rw [z63 t.cells [] (by omega) (by omega) (by omega) hab,hl]
theorem z7i {t:Tab} (h8:t.R≤8) {a b:Nat} (hab:a ≠ b) (ha:a < t.R) (hb:b < t.R):(z0a t a b).R=(idxs a b t.R).length+1:=by
 show (z0a t a b).rows.length=_
 rw [z83 h8 hab ha hb,List.length_append,List.length_map,List.length_singleton]
theorem zBW {t:Tab} (hO:t.Ok) {a b:Nat} (hab:a ≠ b) (ha:a < t.R) (hb:b < t.R):(z0a t a b).cells.length=(z0a t a b).R∧∀ l ∈ (z0a t a b).cells,l.length=(z0a t a b).C:=by
 rw [z7i hO.R8 hab ha hb,z6s hO.R8 hO.len hab ha hb]
 refine ⟨by rw [List.length_append,List.length_map,List.length_singleton],fun l hl=>?_⟩
 rw [List.mem_append] at hl
 rcases hl with hl | hl
 · obtain ⟨i,hi,rfl⟩:=List.mem_map.1 hl
   have hi:=zBN hi
   exact hO.wid _ (z1D (by rw [hO.len];exact hi) _)
 · rw [List.mem_singleton.1 hl,z2F];rfl
theorem z5d {t:Tab} (hO:t.Ok) {a b:Nat} (hab:a ≠ b) (ha:a < t.R) (hb:b < t.R) (h:(z41 t a b).all Spn.ok=true):(z0a t a b).Ok:=by
 obtain ⟨n,hR⟩:∃ n,t.R=n+2:=⟨t.R - 2,by omega⟩
 have mR:=z4I hR hab ha hb
 have h8:=hO.R8
 have hl:=hO.len
 unfold z41 at h
 rw [List.all_append,Bool.and_eq_true] at h
 have h1:=List.all_eq_true.1 h.1
 have h2:=List.all_eq_true.1 h.2
 refine ⟨by omega,by omega,hO.C1,hO.C8,?_,fun l hl'=>?_,fun x hx=>?_,hO.col,fun l hl' x hx=>?_⟩
 · rw [mR]
   show ((t.cells.eraseIdx (max a b)).eraseIdx (min a b)++[_]).length=_
   have h1:(t.cells.eraseIdx (max a b)).length=n+1:=by rw [List.length_eraseIdx];split <;> omega
   rw [List.length_append,List.length_eraseIdx,h1,List.length_singleton]
   split <;> omega
 · have hl':l ∈ (t.cells.eraseIdx (max a b)).eraseIdx (min a b)++[z0T t a b t.C]:=hl'
   rw [List.mem_append] at hl'
   rcases hl' with hl' | hl'
   · exact hO.wid l (List.mem_of_mem_eraseIdx (List.mem_of_mem_eraseIdx hl'))
   · rw [List.mem_singleton.1 hl',z2F];rfl
 · have hx:x ∈ (t.rows.eraseIdx (max a b)).eraseIdx (min a b)++[z0G (t.row a) (t.row b)]:=hx
   rw [List.mem_append] at hx
   rcases hx with hx | hx
   · exact hO.row x (List.mem_of_mem_eraseIdx (List.mem_of_mem_eraseIdx hx))
   · exact h2 x hx
 · have hl':l ∈ (t.cells.eraseIdx (max a b)).eraseIdx (min a b)++[z0T t a b t.C]:=hl'
   rw [List.mem_append] at hl'
   rcases hl' with hl' | hl'
   · exact hO.cel l (List.mem_of_mem_eraseIdx (List.mem_of_mem_eraseIdx hl')) x hx
   · rw [List.mem_singleton.1 hl'] at hx;exact h1 x hx
theorem zAZ {t:Tab} {a b:Nat} (h:(z41 t a b).all Spn.ok=false):(z0a t a b).ok=false:=by
 rw [Bool.eq_false_iff]
 intro hk
 have hO:=Tab.ok_iff.1 hk
 rw [Bool.eq_false_iff] at h
 refine h (List.all_eq_true.2 fun x hx=>?_)
 unfold z41 at hx
 rw [List.mem_append] at hx
 rcases hx with hx | hx
 · exact hO.cel (z0T t a b t.C) (by show _ ∈ _++[z0T t a b t.C];simp) x hx
 · exact hO.row x (by show _ ∈ _++[z0G (t.row a) (t.row b)];rw [List.mem_append];exact .inr hx)
set_option maxRecDepth 10000
set_option maxHeartbeats 4000000
theorem sl15 {H:Heap} {p n:Nat} {es:List AVal} (hH:H[p]?=some (.cells n 2 true es)):z0Z env H 22 (.ref p n 0 n false) none (some (.int .i64 n)) (some (.int .i64 n))=some (.ref p n 0 n true):=by
 simp only [z0Z,ti22,ti39,hH,z4w]
 simp [z0U]
theorem ap15 {H:Heap} {p n:Nat} {l:List Spn} {x:Spn} (hH:H[p]?=some (.cells n 2 true (l.map spV))) (hn:l.length=n) (hb:n < 2 ^ 30) (nx:Nat):z0H env 0 nx 22 (.ref p n 0 n true) (.lit true 2 [spV x]) H=some (.ref nx 0 0 (n+1) false,[(nx,.cells 0 2 true ((l++[x]).map spV))]):=by
 have hel:z15 H (.ref p n 0 n true)=some (2,l.map spV):=by
  have htk:(l.map spV).take n=l.map spV:=List.take_of_length_le (by rw [List.length_map];omega)
  simp [z15,hH,htk,hn]
 have hfl:z0s env 8 39=true:=rfl
 have hnr:(l.map spV).all noRef=true:=z29 _
 have hm:(n+1) * 17≤z04:=by unfold z04;omega
 have hx:noRef (spV x)=true:=rfl
 have e1:z15 H (.lit true 2 [spV x])=some (2,[spV x]):=rfl
 have hz:(AVal.agg [.int .i64 0,.int .i64 0]).cellsOf.length=2∧(AVal.agg [.int .i64 0,.int .i64 0]).isTuple=false:=⟨rfl,rfl⟩
 simp [z0H,ti22,ti39,hel,e1,hfl,hx,hm,hn,z1Y,hz]
 exact List.all_eq_true.1 hnr |> fun h=>by simpa using h
theorem zFB {H:Heap} {L:List Spn} {rest:List AVal} {p n i:Nat} (hH:H[p]?=some (.cells 0 2 true (L.map spV++rest))) (hn:L.length=n) (hi:i < n) (hb:n < 2 ^ 30) (hr:rest.all noRef=true) (nx:Nat):
    callT env 98 [.ref p 0 0 n false,.int .i64 i,.int .i64 (i+1:Nat)] 0 H nx=some (.ret (.ref p 0 0 (n - 1) false),.ups [(p,.cells 0 2 true ((L.eraseIdx i).map spV++spV ⟨0,0⟩ :: rest))]):=by
 subst hn
 have h:=zGG hH hi (by rw [List.length_append,List.length_map];omega) hb (by rw [List.all_append,hr,Bool.and_true];exact z29 _) nx
 rw [zI5 spV (spV ⟨0,0⟩) L rest hi] at h
 exact h
theorem zMe {H:Heap} {L:List Spn} {z:AVal} {rest:List AVal} {p n:Nat} {x:Spn} (hH:H[p]?=some (.cells 0 2 true (L.map spV++z :: rest))) (hn:L.length=n) (hb:n < 2 ^ 30) (nx:Nat):
    z0H env 0 nx 22 (.ref p 0 0 n false) (.lit true 2 [spV x]) H=some (.ref p 0 0 (n+1) false,[(p,.cells 0 2 true ((L++[x]).map spV++rest))]):=by
 subst hn
 have hel:z15 H (.lit true 2 [spV x])=some (2,[spV x]):=rfl
 have hx:noRef (spV x)=true:=rfl
 have hm:(L.length+1) * 17≤z04:=by unfold z04;omega
 have hp:putList (L.map spV++z :: rest) L.length [spV x]=(L++[x]).map spV++rest:=by
  rw [z6G _ _ _ (by simp)]
  rw [List.take_left' (by simp),List.length_singleton,← List.drop_drop,List.drop_left' (by simp)]
  simp
 have hz:(AVal.agg [.int .i64 0,.int .i64 0]).cellsOf.length=2∧(AVal.agg [.int .i64 0,.int .i64 0]).isTuple=false:=⟨rfl,rfl⟩
 simp [z0H,ti22,ti39,hel,hH,hx,hm,hz,hp]
theorem zPx {l:List Nat} {p:Nat} (h:p ∈ l):∃ k,idx l p=some k∧k < l.length∧l[k]?=some p:=by
 unfold idx
 cases hf:l.findIdx? (· == p) with
 | none=>
   rw [List.findIdx?_eq_none_iff] at hf
   have:=hf p h
   simp at this
 | some k=>
   obtain ⟨hk,hp,_⟩:=List.findIdx?_eq_some_iff_getElem.1 hf
   refine ⟨k,rfl,hk,?_⟩
   rw [List.getElem?_eq_getElem hk]
   simpa using hp
theorem zI6 {H:Heap} {L:List Nat} {ps:Nat→Nat} {rw':Nat→List AVal} {m:Nat} {rest:List AVal} {q g n i C:Nat} (hH:H[q]?=some (.cells g 1 false (L.map (fun i=>AVal.ref (ps i) 0 0 C false)++rest))) (hrow:∀ j ∈ L,H[ps j]?=some (.cells 0 2 true (rw' j))) (hnd:(L.map ps).Nodup) (hq:∀ j ∈ L,ps j ≠ q) (hm:rest=List.replicate m (.lit true 0 [])) (hn:L.length=n) (hi:i < n) (hb:n≤8) (nx:Nat):
    callT env 99 [.ref q g 0 n false,.int .i64 i,.int .i64 (i+1:Nat)] 0 H nx=some (.ret (.ref q g 0 (n - 1) false),.ups ((q,.cells g 1 false ((L.eraseIdx i).map (fun i=>AVal.ref (ps i) 0 0 C false)++.lit true 0 [] :: rest)) :: (L.map ps).zip (L.map fun j=>.cells 0 2 true (rw' j)))):=by
 subst hn
 have hrl:refsL (L.map (fun i=>AVal.ref (ps i) 0 0 C false)++rest)=L.map ps:=by
  have e1:∀ L:List Nat,refsL (L.map (fun i=>AVal.ref (ps i) 0 0 C false)++rest)=L.map ps++refsL rest:=by
   intro L
   induction L with
   | nil=>rfl
   | cons x L ih=>simp [refsL,AVal.refs,ih]
  have e2:∀ m,refsL (List.replicate m (AVal.lit true 0 []))=[]:=fun m=>by
   induction m with
   | zero=>rfl
   | succ m ih=>
     rw [List.replicate_succ]
     show (AVal.lit true 0 []).refs++refsL (List.replicate m (AVal.lit true 0 []))=[]
     rw [ih];rfl
  rw [e1,hm,e2,List.append_nil]
 have hre:reach H fuel0 [q] []=some (q :: L.map ps):=by
  have h:=zCv (H:=H) (L.map ps) [q] 63 (fun id hid=>by
   obtain ⟨j,hj,rfl⟩:=List.mem_map.1 hid
   exact ⟨_,_,_,hrow j hj⟩) hnd (fun id hid=>by
   obtain ⟨j,hj,rfl⟩:=List.mem_map.1 hid
   simpa using hq j hj) (by rw [List.length_map];omega)
  unfold fuel0
  simp only [reach,List.contains_nil,Bool.false_eq_true,if_false,hH,List.nil_append,hrl]
  exact h
 have hg:getAll H (L.map ps)=some (L.map fun j=>Blk.cells 0 2 true (rw' j)):=by
  have:∀ L:List Nat,(∀ j ∈ L,H[ps j]?=some (.cells 0 2 true (rw' j)))→getAll H (L.map ps)=some (L.map fun j=>Blk.cells 0 2 true (rw' j)):=by
   intro L
   induction L with
   | nil=>intro _;rfl
   | cons x L ih=>
     intro h
     simp only [List.map_cons,getAll,h x (by simp),ih fun j hj=>h j (by simp [hj])]
  exact this L hrow
 have h:=zGH (nx:=nx) hH hre hg (fun b hb=>by
  obtain ⟨j,_,rfl⟩:=List.mem_map.1 hb
  exact ⟨_,_,_,rfl⟩) (by simp) (fun x hx=>by
  rw [List.mem_append] at hx
  rcases hx with hx | hx
  · obtain ⟨j,hj,rfl⟩:=List.mem_map.1 hx
    obtain ⟨k,k1,k2,k3⟩  :=zPx (l:=q :: L.map ps) (p:=ps j) (List.mem_cons_of_mem _ (List.mem_map.2 ⟨j,hj,rfl⟩))
    simp only [AVal.ren,k1]
    have:backF nx (q :: L.map ps) [] k=some (ps j):=by unfold backF;rw [if_pos k2,k3]
    rw [this]
  · rw [hm] at hx
    rw [List.eq_of_mem_replicate hx]
    rfl) hi (by rw [List.length_append,List.length_map];omega) (by omega)
 rw [zI5 (fun i=>AVal.ref (ps i) 0 0 C false) (.lit true 0 []) L rest hi] at h
 exact h
theorem zPJ {H:Heap} {es:List AVal} {z r:AVal} {rest:List AVal} {q g n w:Nat} (hH:H[q]?=some (.cells g 1 false (es++z :: rest))) (hn:es.length=n) (hw:H[w]?=some (.cells 0 1 false [r])) (hb:n < 2 ^ 20) (nx:Nat):
    z0H env 0 nx 23 (.ref q g 0 n false) (.ref w 0 0 1 false) H=some (.ref q g 0 (n+1) false,[(q,.cells g 1 false (es++r :: rest))]):=by
 subst hn
 have hel:z15 H (.ref w 0 0 1 false)=some (1,[r]):=by
  simp only [z15,hw]
  rfl
 have hm:(es.length+1) * 25≤z04:=by unfold z04;omega
 have hp:putList (es++z :: rest) es.length [r]=es++r :: rest:=by
  rw [z6G _ _ _ (by simp)]
  rw [List.take_left' rfl,List.length_singleton,← List.drop_drop,List.drop_left' rfl]
  simp
 have hz:(AVal.lit true 0 []).cellsOf.length=1∧(AVal.lit true 0 []).isTuple=false:=⟨rfl,rfl⟩
 simp [z0H,ti23,ti22,hel,hH,hm,hz,hp]
theorem zEE {H:Heap}:∀ {us:List (Nat × Blk)},(∀ u ∈ us,H[u.1]?=some u.2)→putU H us=H
 | [],_=>rfl
 | (i,b) :: us,h=>by
   have h0:=h (i,b) (by simp)
   have hi:i < H.length:=(List.getElem?_eq_some_iff.1 h0).1
   have e:H.set i b=H:=by
    apply List.ext_getElem?
    intro j
    by_cases hj:i=j
    · subst hj;rw [List.getElem?_set_self hi,h0]
    · rw [List.getElem?_set_ne hj]
   simp only [putU,hi,if_true,e]
   exact zEE fun u hu=>h u (by simp [hu])
theorem zIY {H:Heap} {t:Tab} {p1 g1 p2 g2 q g n:Nat} {es r1 r3:List AVal} (h1:H[p1]?=some (.cells g1 2 true (t.rows.map spV++r1))) (h2:H[p2]?=some (.cells g2 2 true (t.cols.map spV))) (h3:H[q]?=some (.cells g 1 false (es++r3)))
    (hes:mapO (toLit (fun j=>decide (0≤j) && !([]:List Nat).contains j) H 7) es=some (t.cells.map fun l=>.lit false 2 (l.map spV))) (hl:es.length=t.R):
    handBack H 0 [] (n+1+1) (.agg [.ref p1 g1 0 t.R false,.ref p2 g2 0 t.C false,.ref q g 0 t.R false])=some (canon t).v:=by
 have t1:(t.rows.map spV++r1).take t.R=t.rows.map spV:=List.take_left' (by rw [List.length_map])
 have t2:(t.cols.map spV).take t.C=t.cols.map spV:=List.take_of_length_le (by rw [List.length_map];exact Nat.le_refl _)
 have t3:(es++r3).take t.R=es:=List.take_left' hl
 have l3:t.R≤(es++r3).length:=by rw [List.length_append];omega
 have lr:t.rows.length=t.R:=rfl
 have lc:t.cols.length=t.C:=rfl
 have e1:toLit (fun j=>decide (0≤j) && !([]:List Nat).contains j) H 8 (.ref p1 g1 0 t.R false)=some (.lit false 2 (t.rows.map spV)):=by
  simp [toLit,noRef,AVal.under,h1,t1,lr]
 have e2:toLit (fun j=>decide (0≤j) && !([]:List Nat).contains j) H 8 (.ref p2 g2 0 t.C false)=some (.lit false 2 (t.cols.map spV)):=by
  simp [toLit,noRef,AVal.under,h2,t2,lc]
 have e3:toLit (fun j=>decide (0≤j) && !([]:List Nat).contains j) H 8 (.ref q g 0 t.R false)=some (.lit false 1 (t.cells.map fun l=>.lit false 2 (l.map spV))):=by
  unfold toLit
  simp only [noRef,AVal.under,Nat.not_lt_zero,decide_false,Bool.false_eq_true,if_false,h3,decide_true,Nat.zero_add,l3,Bool.and_true,if_true,List.drop_zero,t3]
  rw [hes]
  simp
 have ec:(canon t).v=.agg [.lit false 2 (t.rows.map spV),.lit false 2 (t.cols.map spV),.lit false 1 (t.cells.map fun l=>.lit false 2 (l.map spV))]:=by
  unfold canon TabV.v
  simp only [List.map_map]
  rfl
 have hk:∀ (i:Nat) (v:AVal) (n:Nat),(∃ g o l c,v=.ref i g o l c)→handBack H 0 [] (n+1) v=toLit (fun j=>decide (0≤j) && !([]:List Nat).contains j) H 8 v:=by
  rintro i v n ⟨g,o,l,c,rfl⟩
  simp [handBack]
 rw [ec]
 unfold handBack
 simp only [mapO,hk p1 _ n ⟨_,_,_,_,rfl⟩,hk p2 _ n ⟨_,_,_,_,rfl⟩,hk q _ n ⟨_,_,_,_,rfl⟩,e1,e2,e3]
 rfl
def CovF (f:Nat→Nat):List Foot→List Foot→Prop
 | [],[]=>True
 | a :: l,b :: l'=>(a.i=b.i∧(∀ x ∈ a.reads,f x ∈ b.reads)∧∀ x ∈ a.writes,f x ∈ b.writes)∧CovF f l l'
 | _,_=>False
theorem z7h {f:Nat→Nat} {a b a' b':List Nat} (ha:∀ x ∈ a,f x ∈ a') (hb:∀ x ∈ b,f x ∈ b') (h:meets a' b'=false):meets a b=false:=by
 simp only [meets,List.any_eq_false,List.contains_iff_mem] at h ⊢
 exact fun x hx hxb=>h _ (ha x hx) (hb x hxb)
theorem z3J {f:Nat→Nat} {bf:Array Nat}:∀ {l l':List Foot},CovF f l l'→apart bf l'=true→apart bf l=true
 | [],[],_,_=>rfl
 | a :: l,b :: l',⟨⟨e,h1,h2⟩,hc⟩,h=>by
   simp only [apart,Bool.and_eq_true] at h ⊢
   refine ⟨?_,z3J hc h.2⟩
   have key:∀ (l l':List Foot),CovF f l l'→(l'.all fun c=>!clash b c || (bf.getD c.i 0).testBit b.i)=true→(l.all fun c=>!clash a c || (bf.getD c.i 0).testBit a.i)=true:=by
    intro l
    induction l with
    | nil=>intro l' _ _;rfl
    | cons c l ih=>
      intro l' hc h
      cases l' with
      | nil=>exact hc.elim
      | cons c' l'=>
        obtain ⟨⟨e2,k1,k2⟩,hc⟩:=hc
        simp only [List.all_cons,Bool.and_eq_true,Bool.or_eq_true] at h ⊢
        refine ⟨?_,ih l' hc h.2⟩
        rcases h.1 with h | h
        · left
          simp only [clash,Bool.not_eq_true',Bool.or_eq_false_iff] at h ⊢
          refine ⟨?_,?_⟩ <;> first
           | exact z7h h2 (fun x hx=>by
               rw [List.mem_append] at hx ⊢
               exact hx.imp (k1 x) (k2 x)) (by first | exact h.1 | exact h.2)
           | exact z7h k2 h1 (by first | exact h.1 | exact h.2)
           | exact z7h h1 k2 (by first | exact h.1 | exact h.2)
        · right
          rw [e,e2];exact h
   exact key _ _ hc h.1
 | [],_ :: _,h,_=>h.elim
 | _ :: _,[],h,_=>h.elim
def fB (B x:Nat):Nat:=if x < B then min x 6 else x - B+7
theorem zPt (B:Nat):fB B B=7∧fB B (B+1)=8∧fB B (B+1+1)=9∧fB B (B+1+1+1)=10∧fB B (B+1+1+1+1)=11:=by
 refine ⟨?_,?_,?_,?_,?_⟩ <;> (unfold fB;rw [if_neg (by omega)];omega)
theorem zLu {B x:Nat} (h:x < B):fB B x=min x 6:=if_pos h
def mg8:List Foot:=[⟨0,[],[]⟩,⟨1,[],[]⟩,⟨2,[7],[]⟩,⟨3,[],[]⟩,⟨4,[4],[]⟩,⟨5,[4],[]⟩,⟨6,[],[]⟩,⟨7,[7],[]⟩,⟨8,[],[]⟩,⟨9,[4],[]⟩,⟨10,[4],[]⟩,⟨11,[],[]⟩,⟨12,[],[8]⟩,⟨13,[8],[8]⟩]
def mg15:List Foot:=[⟨0,[],[]⟩,⟨1,[],[]⟩,⟨2,[9],[]⟩,⟨3,[],[]⟩,⟨4,[9],[]⟩,⟨5,[9],[]⟩,⟨6,[8],[]⟩,⟨7,[],[]⟩,⟨8,[9],[10]⟩,⟨9,[],[]⟩,⟨10,[9],[]⟩,⟨11,[],[]⟩,⟨12,[10],[]⟩,⟨13,[],[]⟩]
def mg18:List Foot:=[⟨0,[],[]⟩,⟨1,[7],[]⟩,⟨2,[],[]⟩,⟨3,[],[]⟩,⟨4,[],[]⟩,⟨5,[4],[4]⟩,⟨6,[],[]⟩,⟨7,[],[]⟩,⟨8,[],[]⟩,⟨9,[4],[4]⟩,⟨10,[8],[]⟩,⟨11,[],[]⟩,⟨12,[4],[4]⟩,⟨13,[],[]⟩,⟨14,[7],[7]⟩]
theorem z7Q {m:Nat}:∀ {us:List (Nat × Blk)} {n:Nat},(∀ u ∈ us,u.1 < m)→consec m n us=true
 | [],_,_=>rfl
 | (i,b) :: us,n,h=>by
   have h0:i < m:=h (i,b) (by simp)
   simp only [consec,h0,if_true]
   exact z7Q fun u hu=>h u (by simp [hu])
theorem zCb {H:Heap}:∀ (ids seen:List Nat) (n:Nat),(∀ id ∈ ids,∃ g sz es,H[id]?=some (.cells g sz true es))→ids.Nodup→(∀ id ∈ ids,id ∉ seen)→ids.length≤n→looks H n ids seen=some (seen++ids)
 | [],seen,n,_,_,_,_=>by cases n <;> simp [looks]
 | id :: ids,seen,n,hf,hd,hs,hl=>by
   obtain ⟨n,rfl⟩:∃ m,n=m+1:=⟨n - 1,by simp at hl;omega⟩
   obtain ⟨g,sz,es,hH⟩:=hf id (by simp)
   have hns:seen.contains id=false:=by
    rw [Bool.eq_false_iff];intro h;exact hs id (by simp) (List.contains_iff_mem.1 h)
   have hd':=List.nodup_cons.1 hd
   have ih:=zCb (H:=H) ids (seen++[id]) n (fun x hx=>hf x (by simp [hx])) hd'.2 (fun x hx h=>by
    rw [List.mem_append] at h
    rcases h with h | h
    · exact hs x (by simp [hx]) h
    · simp at h;subst h;exact hd'.1 hx) (by simp at hl;omega)
   simp only [looks,hns,hH,Bool.false_eq_true,if_false,if_true]
   rw [ih,List.append_assoc];rfl
theorem zCa {H:Heap} {L:List Nat} {ps:Nat→Nat} {rw':Nat→List AVal} {m:Nat} {rest:List AVal} {q g C:Nat} (hH:H[q]?=some (.cells g 1 false (L.map (fun i=>AVal.ref (ps i) 0 0 C false)++rest))) (hrow:∀ j ∈ L,H[ps j]?=some (.cells 0 2 true (rw' j))) (hnd:(L.map ps).Nodup) (hq:∀ j ∈ L,ps j ≠ q) (hm:rest=List.replicate m (.lit true 0 [])) (hb:L.length≤8):looks H fuel0 [q] []=some (q :: L.map ps):=by
 have hrl:refsL (L.map (fun i=>AVal.ref (ps i) 0 0 C false)++rest)=L.map ps:=by
  have e1:∀ L:List Nat,refsL (L.map (fun i=>AVal.ref (ps i) 0 0 C false)++rest)=L.map ps++refsL rest:=by
   intro L
   induction L with
   | nil=>rfl
   | cons x L ih=>simp [refsL,AVal.refs,ih]
  have e2:∀ m,refsL (List.replicate m (AVal.lit true 0 []))=[]:=fun m=>by
   induction m with
   | zero=>rfl
   | succ m ih=>
     rw [List.replicate_succ]
     show (AVal.lit true 0 []).refs++refsL (List.replicate m (AVal.lit true 0 []))=[]
     rw [ih];rfl
  rw [e1,hm,e2,List.append_nil]
 have h:=zCb (H:=H) (L.map ps) [q] 63 (fun id hid=>by
  obtain ⟨j,hj,rfl⟩:=List.mem_map.1 hid
  exact ⟨_,_,_,hrow j hj⟩) hnd (fun id hid=>by
  obtain ⟨j,hj,rfl⟩:=List.mem_map.1 hid
  simpa using hq j hj) (by rw [List.length_map];omega)
 unfold fuel0
 simp only [looks,List.contains_nil,Bool.false_eq_true,if_false,hH,List.nil_append,hrl]
 exact h
set_option maxRecDepth 10000
set_option maxHeartbeats 4000000
set_option maxRecDepth 10000
set_option maxHeartbeats 4000000
set_option maxRecDepth 10000
set_option maxHeartbeats 4000000
structure TbG (H:Heap) (a b q ga gb g:Nat) (ps:Nat→Nat) (gr:Nat) (t:Tab):Prop where
 rows:H[a]?=some (.cells ga 2 true (t.rows.map spV))
 cols:H[b]?=some (.cells gb 2 true (t.cols.map spV))
 acc:H[q]?=some (.cells g 1 false (vecA t.R fun i=>.ref (ps i) gr 0 t.C false))
 row:∀ i,i < t.R→H[ps i]?=some (.cells gr 2 true (rowA t i))
 ab:a ≠ b
 aq:a ≠ q
 bq:b ≠ q
theorem TbG.toLit {H:Heap} {a b q ga gb g gr:Nat} {ps:Nat→Nat} {t:Tab} (h:TbG H a b q ga gb g ps gr t) (hl:t.cells.length=t.R) (hw:∀ l ∈ t.cells,l.length=t.C) (n:Nat):Tidy.toLit (fun _=>true) H (n+3) (memT t a b q ga gb g)=some (canon t).v:=by
 have t1:(t.rows.map spV).take t.R=t.rows.map spV:=List.take_of_length_le (by rw [List.length_map];exact Nat.le_refl _)
 have t2:(t.cols.map spV).take t.C=t.cols.map spV:=List.take_of_length_le (by rw [List.length_map];exact Nat.le_refl _)
 have t3:(vecA t.R fun i=>AVal.ref (ps i) gr 0 t.C false).take t.R=vecA t.R fun i=>AVal.ref (ps i) gr 0 t.C false:=List.take_of_length_le (by rw [z0C];exact Nat.le_refl _)
 have lr:t.rows.length=t.R:=rfl
 have lc:t.cols.length=t.C:=rfl
 have hm:mapO (Tidy.toLit (fun _=>true) H (n+1)) (vecA t.R fun i=>AVal.ref (ps i) gr 0 t.C false)=some (vecA t.R fun i=>AVal.lit false 2 (rowA t i)):=by
  have gen:∀ l:List Nat,(∀ i ∈ l,i < t.R)→mapO (Tidy.toLit (fun _=>true) H (n+1)) (l.map fun i=>AVal.ref (ps i) gr 0 t.C false)=some (l.map fun i=>AVal.lit false 2 (rowA t i)):=by
   intro l
   induction l with
   | nil=>intro _;rfl
   | cons i l ih=>
     intro hl'
     have hi:=hl' i (by simp)
     have hr:=h.row i hi
     have hrl:=z0V hl hw hi
     have htk:(rowA t i).take t.C=rowA t i:=List.take_of_length_le (by omega)
     simp only [List.map_cons,mapO,ih fun j hj=>hl' j (by simp [hj])]
     simp [Tidy.toLit,noRef,AVal.under,hr,hrl,htk]
  exact gen _ fun i hi=>List.mem_range.1 hi
 have ec:(canon t).v=.agg [.lit false 2 (t.rows.map spV),.lit false 2 (t.cols.map spV),.lit false 1 (vecA t.R fun i=>AVal.lit false 2 (rowA t i))]:=by
  rw [zBh hl]
  unfold canon TabV.v
  simp only [List.map_map]
  rfl
 have ea:Tidy.toLit (fun _=>true) H (n+2) (.ref a ga 0 t.R false)=some (.lit false 2 (t.rows.map spV)):=by
  simp [Tidy.toLit,noRef,AVal.under,h.rows,t1,lr]
 have eb:Tidy.toLit (fun _=>true) H (n+2) (.ref b gb 0 t.C false)=some (.lit false 2 (t.cols.map spV)):=by
  simp [Tidy.toLit,noRef,AVal.under,h.cols,t2,lc]
 have eq:Tidy.toLit (fun _=>true) H (n+2) (.ref q g 0 t.R false)=some (.lit false 1 (vecA t.R fun i=>AVal.lit false 2 (rowA t i))):=by
  unfold Tidy.toLit
  simp only [noRef,AVal.under,Nat.not_lt_zero,decide_false,Bool.false_eq_true,if_false,h.acc,decide_true,Nat.zero_add,z0C,Nat.le_refl,Bool.and_true,if_true,List.drop_zero,t3,hm]
  rfl
 rw [ec]
 unfold Tidy.toLit
 simp only [memT,noRef,AVal.under,underL,Nat.not_lt_zero,decide_false,Bool.false_and,Bool.false_eq_true,if_false,mapO,ea,eb,eq]
 rfl
theorem TbG.lend {H:Heap} {a b q ga gb g gr:Nat} {ps:Nat→Nat} {t:Tab} (h:TbG H a b q ga gb g ps gr t) (hR:t.R≤8) (hl:t.cells.length=t.R) (hw:∀ l ∈ t.cells,l.length=t.C) {lits:List Nat} (h0:lits.contains 0=true) {args:List AVal} (ha:underL 0 args=true):∃ ids,Tidy.lend H lits (memT t a b q ga gb g :: args) 0=some ((canon t).v :: args,ids):=by
 have hlit:=h.toLit hl hw 5
 have hre:∃ l,reach H fuel0 (memT t a b q ga gb g).refs []=some l:=by
  have hrefs:(memT t a b q ga gb g).refs=[a,b,q]:=rfl
  rw [hrefs]
  have hab:b ≠ a:=Ne.symm h.ab
  have haq:q ≠ a:=Ne.symm h.aq
  have hbq:q ≠ b:=Ne.symm h.bq
  have hrl:refsL (vecA t.R fun i=>AVal.ref (ps i) gr 0 t.C false)=vecA t.R ps:=by
   unfold vecA
   induction (List.range t.R) with
   | nil=>rfl
   | cons i l ih=>simp [refsL,AVal.refs,ih]
  obtain ⟨l,hl⟩:=z3M (H:=H) (vecA t.R ps) [a,b,q] 61 (fun id hid=>by
   unfold vecA at hid
   obtain ⟨i,hi,rfl⟩:=List.mem_map.1 hid
   exact ⟨_,_,_,h.row i (List.mem_range.1 hi)⟩) (by rw [z0C];omega)
  refine ⟨l,?_⟩
  unfold fuel0
  simp [reach,h.rows,h.cols,h.acc,hab,haq,hbq,hrl,hl]
 obtain ⟨l,hre⟩:=hre
 have hnr:noRef (memT t a b q ga gb g)=false:=rfl
 refine ⟨l++[],?_⟩
 unfold Tidy.lend
 rw [lend_noRef H lits args 1 ha]
 simp only [h0,hnr,Bool.not_false,Bool.and_self,if_true,hlit,hre]
def accF (l:List AVal):Blk:=if l=[] then .cells 0 0 false [] else .cells l.length 1 false l
set_option maxRecDepth 10000
set_option maxHeartbeats 4000000
structure Hd (ob cb:Blk) (H:Heap) (cnt:Nat) (rs cs:List Spn) (cells:List (List Spn)) (C:Nat):Prop where
 off:H[0]?=some ob
 cut:H[1]?=some cb
 at_:H[2]?=some (intB (2 * cnt))
 rows:H[3]?=some (accN (rs.map spV))
 cols:H[4]?=some (accN (cs.map spV))
 acc:H[5]?=some (accF (vecA cells.length fun i=>.ref (7+2 * i) C 0 C false))
 box:H[6]?=some (.cells 0 3 false [.agg [.ref 3 rs.length 0 rs.length false,.ref 4 cs.length 0 cs.length false,.ref 5 cells.length 0 cells.length false]])
 row:∀ i l,cells[i]?=some l→H[7+2 * i]?=some (.cells C 2 true (l.map spV))
theorem Hd.mono {ob cb:Blk} {H H':Heap} {cnt:Nat} {rs cs:List Spn} {cells:List (List Spn)} {C:Nat} (h:Hd ob cb H cnt rs cs cells C) (e:∀ j,j < 7+2 * cells.length→H'[j]?=H[j]?):Hd ob cb H' cnt rs cs cells C:=by
 refine ⟨?_,?_,?_,?_,?_,?_,?_,fun i l hi=>?_⟩
 · rw [e _ (by omega)];exact h.off
 · rw [e _ (by omega)];exact h.cut
 · rw [e _ (by omega)];exact h.at_
 · rw [e _ (by omega)];exact h.rows
 · rw [e _ (by omega)];exact h.cols
 · rw [e _ (by omega)];exact h.acc
 · rw [e _ (by omega)];exact h.box
 · have:i < cells.length:=(List.getElem?_eq_some_iff.1 hi).1
   rw [e _ (by omega)];exact h.row i l hi
set_option maxRecDepth 10000
set_option maxHeartbeats 4000000
theorem z9j {α:Type} (n:Nat) (f:Nat→α):vecA (n+1) f=vecA n f++[f n]:=by simp [vecA,List.range_succ]
set_option maxRecDepth 10000
set_option maxHeartbeats 4000000
theorem zEg {m:Nat} {T:List AVal} {H:Heap} {df:List (Nat × List AVal)} {ro:Nat} {V:List Nat} {i:Nat} {b:Blk} (hi:i < m) (hb:H[i]?=some b) (hu:underB m b=false):trunc m ⟨T,H,df,ro,V⟩=⟨T,H,df,ro,V⟩:=by
 unfold trunc
 by_cases h1:H.length≤m
 · simp only [h1,if_true]
 · have h2:(H.take m).all (underB m)=false:=by
     cases h:(H.take m).all (underB m) with
     | false=>rfl
     | true=>
       have h3:(H.take m)[i]?=some b:=by rw [List.getElem?_take,if_pos hi,hb]
       have h4:=List.all_eq_true.1 h _ (List.mem_of_getElem? h3)
       rw [hu] at h4
       exact Bool.noConfusion h4
   simp only [h1,if_false,h2,Bool.false_and,Bool.false_eq_true]
theorem zFq {m:Nat} {T:List AVal} {H:Heap} {df:List (Nat × List AVal)} {ro:Nat} {V:List Nat} (h:H.length≤m):trunc m ⟨T,H,df,ro,V⟩=⟨T,H,df,ro,V⟩:=by
 unfold trunc
 rw [if_pos h]
def mkP:Nat→Nat
 | 0=>8
 | i+1=>2 * i+11
def mkB (T:TabV) (r c:AVal):Blk:=.cells 0 3 false [.agg [r,.ref 2 0 0 T.tab.C false,c]]
def mkA (T:TabV) (n:Nat):List AVal:=vecA n fun i=>.ref (mkP i) 0 0 T.tab.C false
theorem zKi (T:TabV) (n:Nat):mkA T (n+1)=mkA T n++[.ref (mkP n) 0 0 T.tab.C false]:=z9j _ _
theorem zAa (T:TabV) (n:Nat):(mkA T n).length=n:=z0C _ _
structure MkAt (T:TabV) (H:Heap) (L:List Nat):Prop where
 h0:H[0]?=some (boxT T)
 h1:H[1]?=some (.cells 0 3 false [noTab])
 h2:H[2]?=some (.cells 0 2 true (T.cols.l.map spV))
 nil:L=[]→H[6]?=some (mkB T (.lit true 0 []) (.lit true 0 []))∧H.length=7
 cons:∀ l,L.length=l+1→(H[6]?=some (mkB T (.ref 7 l 0 (l+1) false) (.ref 10 l 0 (l+1) false))∧H.length=2 * l+11)∧H[7]?=some (.cells l 2 true (L.map fun i=>spV (T.tab.row i)))∧H[10]?=some (.cells l 1 false (mkA T (l+1)))
 row:∀ i j,L[i]?=some j→H[mkP i]?=some (.cells 0 2 true (rowA T.tab j))
theorem zNn {T:TabV} (hT:T.Wf) (hO:T.tab.Ok) {a b:Nat}:∀ (n m:Nat) (H:Heap) (j0 j4 j5 j7 j8 j11 j12 j13 j14 j15 j16 j17 j18 j19 j20 j21 j22 j23 j24 j25 j26 j27 j28 j29 j30 j31 j32 j33 j34 j35 j36 j37 j38 j39 j40 j41 j42 j43 j44 j45 j46 j47 j48 j49 j50 j51 j52 j53 j54 j55 j56 j57 j58 j59 j60 j61 j62 j63 j64 j65 j66 j67 j68 j69 j70 j71 j72 j73 j74 j75 j76 j77 j78 j79 j80 j81 j82 j83 j84 j85 j86 j87 j88 j89 j90 j91 j92 j93 j94 j95 j96 j97 j98 j99 j100 j101 j102 j103 j104 j105 j106 j107 j108 j109 j110 j111 j112 j113 j114 j115 j116 j117 j118 j119 j120 j121 j122 j123 j124 j125 j126 j127 j128 j129 j130:AVal),m+n=T.tab.R→MkAt T H (idxs a b m) →
    Goes (execT env (Try.f71.at [1,1,1,1,0,1,0]) ⟨[j0,.int .i64 a,.int .i64 b,.ptr 0 0 0 0,j4,j5,.ptr 1 0 0 0,j7,j8,.ptr 6 0 0 0,.int .i64 m,j11,j12,j13,j14,j15,j16,j17,j18,j19,j20,j21,j22,j23,j24,j25,j26,j27,j28,j29,j30,j31,j32,j33,j34,j35,j36,j37,j38,j39,j40,j41,j42,j43,j44,j45,j46,j47,j48,j49,j50,j51,j52,j53,j54,j55,j56,j57,j58,j59,j60,j61,j62,j63,j64,j65,j66,j67,j68,j69,j70,j71,j72,j73,j74,j75,j76,j77,j78,j79,j80,j81,j82,j83,j84,j85,j86,j87,j88,j89,j90,j91,j92,j93,j94,j95,j96,j97,j98,j99,j100,j101,j102,j103,j104,j105,j106,j107,j108,j109,j110,j111,j112,j113,j114,j115,j116,j117,j118,j119,j120,j121,j122,j123,j124,j125,j126,j127,j128,j129,j130],H,[],0,[9,11,74,123]⟩) fun ex st=>
     ex=.exit 0∧∃ H,MkAt T H (idxs a b T.tab.R)∧FrP 131 [(1,.int .i64 a),(2,.int .i64 b),(3,.ptr 0 0 0 0),(6,.ptr 1 0 0 0),(9,.ptr 6 0 0 0)] H [] 0 [9,11,74,123] st:=by
 have hR8:=hO.R8
 have hC8:=hO.C8
 have hC1:=hO.C1
 have ll:T.cells.length=T.tab.R:=by have:=hO.len;simpa [TabV.tab] using this
 have lr:T.rows.l.length=T.tab.R:=rfl
 intro n
 induction n with
 | zero=>
   intro m H;intros;rename_i hm hA
   have hd:decide ((m:Int) < (T.tab.R:Int))=false:=by simp;omega
   have h0:=hA.h0
   have hm':m=T.tab.R:=by omega
   rw [hm'] at hA
   simp only [boxT] at h0
   simp only [go_sem,simprocAttr,Try.f71]
   rw [exec_loop]
   simp only [go_sem,simprocAttr,h0,List.length_map,lr,hd]
   exact ⟨H,hA,frP (by kernel_rfl)⟩
 | succ n ih=>
   intro m H;intros;rename_i hm hA
   have hmR:m < T.tab.R:=by omega
   have hd:decide ((m:Int) < (T.tab.R:Int))=true:=by simp;omega
   have i0:(0:Int)≤(m:Int):=by omega
   have wi:IntKind.i64.wrap ((m:Int)+1)=((m+1:Nat):Int):=z00 (by omega)
   have h0:=hA.h0
   simp only [boxT] at h0
   have ih':=ih (m+1)
   by_cases hk:m=a ∨ m=b
   · have hA':MkAt T H (idxs a b (m+1)):=by rw [zBO hk];exact hA
     have htr:∀ Tm V,trunc H.length ⟨Tm,H,[],0,V⟩=⟨Tm,H,[],0,V⟩:=fun _ _=>zFq (Nat.le_refl _)
     have d1:decide ((m:Int)=(a:Int))=decide (m=a):=by simp only [decide_eq_decide];omega
     have d2:decide ((m:Int)=(b:Int))=decide (m=b):=by simp only [decide_eq_decide];omega
     simp only [go_sem,simprocAttr,Try.f71] at ih' ⊢
     rw [exec_loop]
     by_cases ea:m=a
     · have d1:decide ((m:Int)=(a:Int))=true:=by rw [d1];exact decide_eq_true ea
       simp only [go_sem,simprocAttr,h0,List.length_map,lr,hd,d1,htr,wi]
       exact ih' _ _ _ _ _ _ _ _ _ _ _ _ _ _ _ _ _ _ _ _ _ _ _ _ _ _ _ _ _ _ _ _ _ _ _ _ _ _ _ _ _ _ _ _ _ _ _ _ _ _ _ _ _ _ _ _ _ _ _ _ _ _ _ _ _ _ _ _ _ _ _ _ _ _ _ _ _ _ _ _ _ _ _ _ _ _ _ _ _ _ _ _ _ _ _ _ _ _ _ _ _ _ _ _ _ _ _ _ _ _ _ _ _ _ _ _ _ _ _ _ _ _ _ _ _ _ (by omega) hA'
     · have d1:decide ((m:Int)=(a:Int))=false:=by rw [d1];exact decide_eq_false ea
       have d2:decide ((m:Int)=(b:Int))=true:=by rw [d2];exact decide_eq_true (hk.resolve_left ea)
       simp only [go_sem,simprocAttr,h0,List.length_map,lr,hd,d1,d2,htr,wi]
       exact ih' _ _ _ _ _ _ _ _ _ _ _ _ _ _ _ _ _ _ _ _ _ _ _ _ _ _ _ _ _ _ _ _ _ _ _ _ _ _ _ _ _ _ _ _ _ _ _ _ _ _ _ _ _ _ _ _ _ _ _ _ _ _ _ _ _ _ _ _ _ _ _ _ _ _ _ _ _ _ _ _ _ _ _ _ _ _ _ _ _ _ _ _ _ _ _ _ _ _ _ _ _ _ _ _ _ _ _ _ _ _ _ _ _ _ _ _ _ _ _ _ _ _ _ _ _ _ (by omega) hA'
   · have ea:¬ m=a:=fun e=>hk (.inl e)
     have eb:¬ m=b:=fun e=>hk (.inr e)
     have d1:decide ((m:Int)=(a:Int))=false:=by rw [decide_eq_false_iff_not];omega
     have d2:decide ((m:Int)=(b:Int))=false:=by rw [decide_eq_false_iff_not];omega
     rw [zDy ea eb] at ih'
     obtain ⟨c,hcm,hc1,_,hsz,hcl,hce⟩:=TabV.at hT hO hmR (show 0 < T.tab.C from hC1)
     obtain ⟨gr,hrs⟩:=TabV.rowAt hT hmR
     have hra:c.l.map spV=rowA T.tab m:=by unfold rowA;rw [hce]
     have hrl:(rowA T.tab m).length=T.tab.C:=by rw [← hra,List.length_map,hcl]
     have hnr:(rowA T.tab m).all noRef=true:=z72 _ _
     have hne:rowA T.tab m ≠ []:=fun e=>by rw [e] at hrl;simp at hrl;omega
     have ap1:=fun (H:Heap) (nx:Nat)=>append_lit (E:=env) (ro:=0) (nx:=nx) (sz:=2) (es:=[]) (H:=H) (x:=.lit c.cl 2 (rowA T.tab m)) (nsz:=2) (new:=rowA T.tab m) ti22 ti39 rfl ⟨by decide,rfl,rfl⟩ rfl hne (.inl rfl) (by rw [hrl];show (0+T.tab.C) * 17≤z04;unfold z04;omega) (fun _=>hnr)
     have ap1':=fun (H:Heap) (nx:Nat)=>append_lit (E:=env) (ro:=0) (nx:=nx) (sz:=0) (es:=[]) (H:=H) (x:=.lit c.cl 2 (rowA T.tab m)) (nsz:=2) (new:=rowA T.tab m) ti22 ti39 rfl ⟨by decide,rfl,rfl⟩ rfl hne (.inl rfl) (by rw [hrl];show (0+T.tab.C) * 17≤z04;unfold z04;omega) (fun _=>hnr)
     generalize hL:idxs a b m=L at hA ih'
     cases hl:L.length with
     | zero=>
       have hL0:L=[]:=List.length_eq_zero_iff.1 hl
       subst hL0
       obtain ⟨h6,hlen⟩:=hA.nil rfl
       have ap0:=fun (H:Heap) (nx:Nat)=>append_lit (E:=env) (ro:=0) (nx:=nx) (sz:=0) (es:=[]) (H:=H) (x:=.lit true 2 [spV (T.tab.row m)]) (nsz:=2) (new:=[spV (T.tab.row m)]) ti22 ti39 rfl ⟨by decide,rfl,rfl⟩ rfl (by simp) (.inl rfl) (by show (0+1) * 17≤z04;decide) (fun _=>rfl)
       obtain ⟨H1,hH1⟩:∃ H1:Heap,H1=(H++[Blk.cells 0 2 true [spV (T.tab.row m)]]).set 6 (mkB T (.ref 7 0 0 1 false) (.lit true 0 [])):=⟨_,rfl⟩
       have lH:∀ x,(H++[x]).length=8:=fun x=>z06 hlen x
       have l1:H1.length=8:=by rw [hH1,List.length_set];exact lH _
       have h16:H1[6]?=some (mkB T (.ref 7 0 0 1 false) (.lit true 0 [])):=by rw [hH1,List.getElem?_set_self (by rw [lH];decide)]
       have h1j:∀ j,j ≠ 6→j < 7→H1[j]?=H[j]?:=fun j e h=>by rw [hH1,List.getElem?_set_ne (Ne.symm e),List.getElem?_append_left (by omega)]
       have h10:H1[0]?=some (.cells 0 3 false [T.v]):=by rw [h1j 0 (by decide) (by decide)];exact h0
       have h17:H1[7]?=some (.cells 0 2 true [spV (T.tab.row m)]):=by rw [hH1,List.getElem?_set_ne (by decide)];exact z08 hlen _
       have s6:∀ x,(H++[x])[6]?=H[6]?:=fun x=>List.getElem?_append_left (by omega)
       have k1:=fun x:Blk=>z06 l1 x
       have k2:=fun x y:Blk=>z06 (k1 x) y
       have k3:=fun x y z:Blk=>z06 (k2 x y) z
       have g9:=fun x y:Blk=>z08 (k1 x) y
       have t6:∀ x y z,(H1++[x]++[y]++[z])[6]?=H1[6]?:=fun x y z=>by
        rw [List.getElem?_append_left (by rw [k2];decide),List.getElem?_append_left (by rw [k1];decide),List.getElem?_append_left (by omega)]
       have ap2:=fun nx=>append_lit (E:=env) (ro:=0) (nx:=nx) (sz:=0) (es:=[]) (H:=H1++[Blk.cells 0 2 true (rowA T.tab m)]++[Blk.cells 0 1 false [.ref 8 0 0 T.tab.C false]]) (x:=.ref 9 0 0 1 false) (nsz:=1) (new:=[.ref 8 0 0 T.tab.C false]) ti23 ti22 (by simp only [z15,g9];rfl) ⟨by decide,rfl,rfl⟩ rfl (by simp) (.inl rfl) (by show (0+1) * 25≤z04;decide) (fun h=>by cases h)
       have hlast:=k3 (.cells 0 2 true (rowA T.tab m)) (.cells 0 1 false [.ref 8 0 0 T.tab.C false]) (.cells 0 1 false [.ref 8 0 0 T.tab.C false])
       obtain ⟨H2,hH2⟩:∃ H2:Heap,H2=(H1++[Blk.cells 0 2 true (rowA T.tab m)]++[Blk.cells 0 1 false [.ref 8 0 0 T.tab.C false]]++[Blk.cells 0 1 false [.ref 8 0 0 T.tab.C false]]).set 6 (mkB T (.ref 7 0 0 1 false) (.ref 10 0 0 1 false)):=⟨_,rfl⟩
       have h26:H2[6]?=some (mkB T (.ref 7 0 0 1 false) (.ref 10 0 0 1 false)):=by rw [hH2,List.getElem?_set_self (by rw [hlast];decide)]
       have h2j:∀ j,j ≠ 6→j < 8→H2[j]?=H1[j]?:=fun j e h=>by
        rw [hH2,List.getElem?_set_ne (Ne.symm e),List.getElem?_append_left (by rw [k2];omega),List.getElem?_append_left (by rw [k1];omega),List.getElem?_append_left (by omega)]
       have hA':MkAt T H2 ([]++[m]):=by
        refine ⟨?_,?_,?_,fun h=>by simp at h,fun l hl=>?_,fun i j h=>?_⟩
        · rw [h2j 0 (by decide) (by decide)];exact h10
        · rw [h2j 1 (by decide) (by decide),h1j 1 (by decide) (by decide)];exact hA.h1
        · rw [h2j 2 (by decide) (by decide),h1j 2 (by decide) (by decide)];exact hA.h2
        · obtain rfl:l=0:=by simp at hl;omega
          refine ⟨⟨h26,?_⟩,?_,?_⟩
          · rw [hH2,List.length_set,hlast]
          · rw [h2j 7 (by decide) (by decide),h17];rfl
          · rw [hH2,List.getElem?_set_ne (by decide),z08 (k2 _ _)];rfl
        · cases i with
          | zero=>
            simp at h
            subst h
            show H2[8]?=_
            rw [hH2,List.getElem?_set_ne (by decide),List.getElem?_append_left (by rw [k2];decide),List.getElem?_append_left (by rw [k1];decide),z08 l1]
          | succ i=>simp at h
       have htr:∀ Tm V,trunc 7 ⟨Tm,H2,[],0,V⟩=⟨Tm,H2,[],0,V⟩:=fun _ _=>zEg (i:=6) (by decide) h26 rfl
       simp only [mkB] at h6 h16 hH1 hH2
       simp only [go_sem,simprocAttr,Try.f71] at ih' ⊢
       rw [exec_loop]
       simp only [go_sem,simprocAttr,h0,List.length_map,lr,hd,d1,d2,h6,i0,Int.toNat_natCast,gr,hrs,ap0,lH,s6,hlen]
       rw [apart_ok (z0L (by kernel_rfl)),← hH1]
       simp only [go_sem,simprocAttr,h16,h10,i0,Int.toNat_natCast,List.length_map,ll,hc1,hcl,hsz,hra,hrl,ap1,ap1',l1,k1,k2,k3,g9,ap2,t6]
       rw [apart_ok (z0L (by kernel_rfl)),← hH2]
       simp only [go_sem,simprocAttr,htr,wi]
       exact ih' _ _ _ _ _ _ _ _ _ _ _ _ _ _ _ _ _ _ _ _ _ _ _ _ _ _ _ _ _ _ _ _ _ _ _ _ _ _ _ _ _ _ _ _ _ _ _ _ _ _ _ _ _ _ _ _ _ _ _ _ _ _ _ _ _ _ _ _ _ _ _ _ _ _ _ _ _ _ _ _ _ _ _ _ _ _ _ _ _ _ _ _ _ _ _ _ _ _ _ _ _ _ _ _ _ _ _ _ _ _ _ _ _ _ _ _ _ _ _ _ _ _ _ _ _ _ (by omega) hA'
     | succ l=>
       obtain ⟨⟨h6,hlen⟩,h7,hq⟩:=hA.cons l hl
       have hL8:l+1≤8:=by have:=z6j a b m;rw [hL] at this;omega
       have hne7:(L.map fun i=>spV (T.tab.row i)) ≠ []:=fun e=>by have:=congrArg List.length e;rw [List.length_map,List.length_nil] at this;omega
       have ap7:=fun nx=>append_ref (E:=env) (ro:=0) (nx:=nx) (H:=H) (id:=7) (g:=l) (len:=l+1) (x:=.lit true 2 [spV (T.tab.row m)]) (nsz:=2) (new:=[spV (T.tab.row m)]) (fl:=true) (bs:=L.map fun i=>spV (T.tab.row i)) ti22 ti39 rfl ⟨by decide,rfl,rfl⟩ rfl (by simp) h7 (by rw [List.length_map,hl]) (by omega) (by omega) (by show (l+1+1) * 17≤2 ^ 45;omega) (fun _=>rfl)
       simp only [List.length_singleton] at ap7
       have hb7:(L.map fun i=>spV (T.tab.row i))++[spV (T.tab.row m)]=(L++[m]).map fun i=>spV (T.tab.row i):=by rw [List.map_append];rfl
       rw [hb7] at ap7
       obtain ⟨H1,hH1⟩:∃ H1:Heap,H1=(H.set 7 (Blk.cells (l+1) 2 true ((L++[m]).map fun i=>spV (T.tab.row i)))).set 6 (mkB T (.ref 7 (l+1) 0 (l+1+1) false) (.ref 10 l 0 (l+1) false)):=⟨_,rfl⟩
       have s6:∀ x,(H.set 7 x)[6]?=H[6]?:=fun x=>List.getElem?_set_ne (by decide)
       have l1:H1.length=2 * l+11:=by rw [hH1,List.length_set,List.length_set,hlen]
       have h16:H1[6]?=some (mkB T (.ref 7 (l+1) 0 (l+1+1) false) (.ref 10 l 0 (l+1) false)):=by rw [hH1,List.getElem?_set_self (by rw [List.length_set];omega)]
       have h1j:∀ j,j ≠ 6→j ≠ 7→H1[j]?=H[j]?:=fun j e e2=>by rw [hH1,List.getElem?_set_ne (Ne.symm e),List.getElem?_set_ne (Ne.symm e2)]
       have h10:H1[0]?=some (.cells 0 3 false [T.v]):=by rw [h1j 0 (by decide) (by decide)];exact h0
       have h17:H1[7]?=some (.cells (l+1) 2 true ((L++[m]).map fun i=>spV (T.tab.row i))):=by rw [hH1,List.getElem?_set_ne (by decide),List.getElem?_set_self (by omega)]
       have k1:=fun x:Blk=>z06 l1 x
       have k2:=fun x y:Blk=>z06 (k1 x) y
       have g9:=fun x y:Blk=>z08 (k1 x) y
       have up:∀ x y j,j < 2 * l+11→(H1++[x]++[y])[j]?=H1[j]?:=fun x y j hj=>by
        rw [List.getElem?_append_left (by rw [k1];omega),List.getElem?_append_left (by omega)]
       have q10:∀ x y,(H1++[x]++[y])[10]?=some (.cells l 1 false (mkA T (l+1))):=fun x y=>by rw [up _ _ _ (by omega),h1j 10 (by decide) (by decide)];exact hq
       have ap2:=fun nx=>append_ref (E:=env) (ro:=0) (nx:=nx) (H:=H1++[Blk.cells 0 2 true (rowA T.tab m)]++[Blk.cells 0 1 false [.ref (2 * l+11) 0 0 T.tab.C false]]) (id:=10) (g:=l) (len:=l+1) (x:=.ref (2 * l+11+1) 0 0 1 false) (nsz:=1) (new:=[.ref (2 * l+11) 0 0 T.tab.C false]) (fl:=false) (bs:=mkA T (l+1)) ti23 ti22 (by simp only [z15,g9];rfl) ⟨by decide,rfl,rfl⟩ rfl (by simp) (q10 _ _) (zAa _ _) (by omega) (by omega) (by show (l+1+1) * 25≤2 ^ 45;omega) (fun h=>by cases h)
       have hb2:mkA T (l+1)++[.ref (2 * l+11) 0 0 T.tab.C false]=mkA T (l+1+1):=(zKi T (l+1)).symm
       rw [hb2] at ap2
       simp only [List.length_singleton] at ap2
       have t6:∀ x y z,((H1++[x]++[y]).set 10 z)[6]?=H1[6]?:=fun x y z=>by
        rw [List.getElem?_set_ne (by decide),up _ _ _ (by omega)]
       have hlast:=k2 (.cells 0 2 true (rowA T.tab m)) (.cells 0 1 false [.ref (2 * l+11) 0 0 T.tab.C false])
       obtain ⟨H2,hH2⟩:∃ H2:Heap,H2=((H1++[Blk.cells 0 2 true (rowA T.tab m)]++[Blk.cells 0 1 false [.ref (2 * l+11) 0 0 T.tab.C false]]).set 10 (Blk.cells (l+1) 1 false (mkA T (l+1+1)))).set 6 (mkB T (.ref 7 (l+1) 0 (l+1+1) false) (.ref 10 (l+1) 0 (l+1+1) false)):=⟨_,rfl⟩
       have h26:H2[6]?=some (mkB T (.ref 7 (l+1) 0 (l+1+1) false) (.ref 10 (l+1) 0 (l+1+1) false)):=by rw [hH2,List.getElem?_set_self (by rw [List.length_set,hlast];omega)]
       have h210:H2[10]?=some (.cells (l+1) 1 false (mkA T (l+1+1))):=by rw [hH2,List.getElem?_set_ne (by decide),List.getElem?_set_self (by rw [hlast];omega)]
       have h2j:∀ j,j ≠ 6→j ≠ 10→j < 2 * l+11→H2[j]?=H1[j]?:=fun j e e2 h=>by
        rw [hH2,List.getElem?_set_ne (Ne.symm e),List.getElem?_set_ne (Ne.symm e2),up _ _ _ h]
       have hA':MkAt T H2 (L++[m]):=by
        refine ⟨?_,?_,?_,fun h=>by simp at h,fun l' hl'=>?_,fun i j h=>?_⟩
        · rw [h2j 0 (by decide) (by decide) (by omega)];exact h10
        · rw [h2j 1 (by decide) (by decide) (by omega),h1j 1 (by decide) (by decide)];exact hA.h1
        · rw [h2j 2 (by decide) (by decide) (by omega),h1j 2 (by decide) (by decide)];exact hA.h2
        · obtain rfl:l'=l+1:=by rw [List.length_append,List.length_singleton] at hl';omega
          refine ⟨⟨h26,?_⟩,?_,h210⟩
          · rw [hH2,List.length_set,List.length_set,hlast];omega
          · rw [h2j 7 (by decide) (by decide) (by omega),h17]
        · have hi:i < l+1+1:=by have:=(List.getElem?_eq_some_iff.1 h).1;rw [List.length_append,List.length_singleton] at this;omega
          by_cases e:i < L.length
          · rw [List.getElem?_append_left e] at h
            have hr:=hA.row i j h
            have hp:mkP i ≠ 6∧mkP i ≠ 7∧mkP i ≠ 10∧mkP i < 2 * l+11:=by
             cases i with
             | zero=>exact ⟨by decide,by decide,by decide,by show 8 < _;omega⟩
             | succ i=>
               have:mkP (i+1)=2 * i+11:=rfl
               omega
            rw [h2j _ hp.1 hp.2.2.1 hp.2.2.2,h1j _ hp.1 hp.2.1];exact hr
          · obtain rfl:i=l+1:=by omega
            rw [List.getElem?_append_right (by omega),hl,Nat.sub_self] at h
            obtain rfl:m=j:=by simpa using h
            show H2[2 * l+11]?=_
            rw [hH2,List.getElem?_set_ne (by omega),List.getElem?_set_ne (by omega),List.getElem?_append_left (by rw [k1];omega),z08 l1]
       have hmem:AVal.ref (2 * l+11) 0 0 T.tab.C false ∈ mkA T (l+1+1):=by rw [← hb2];simp
       have htr:∀ Tm V,trunc (2 * l+11) ⟨Tm,H2,[],0,V⟩=⟨Tm,H2,[],0,V⟩:=fun _ _=>z3S (i:=10) (by omega) h210 hmem (Nat.le_refl _)
       have z7:(7 < 2 * l+11)=True:=eq_true (by omega)
       have z6:(6 < 2 * l+11)=True:=eq_true (by omega)
       have z10:(10 < 2 * l+11+1+1)=True:=eq_true (by omega)
       have z66:(6 < 2 * l+11+1+1)=True:=eq_true (by omega)
       have y0:decide (0 < 2 * l+11)=true:=decide_eq_true (by omega)
       have y6:decide (6 < 2 * l+11)=true:=decide_eq_true (by omega)
       have y7:decide (7 < 2 * l+11)=true:=decide_eq_true (by omega)
       have x0:decide (0 < 2 * l+11+1+1)=true:=decide_eq_true (by omega)
       have x6:decide (6 < 2 * l+11+1+1)=true:=decide_eq_true (by omega)
       have x10:decide (10 < 2 * l+11+1+1)=true:=decide_eq_true (by omega)
       have x12:decide (2 * l+11+1 < 2 * l+11+1+1)=true:=decide_eq_true (by omega)
       simp only [mkB] at h6 h16 hH1 hH2
       simp only [go_sem,simprocAttr,Try.f71] at ih' ⊢
       rw [exec_loop]
       simp only [go_sem,simprocAttr,h0,List.length_map,lr,hd,d1,d2,h6,i0,Int.toNat_natCast,gr,hrs,ap7,s6,hlen,z7,z6,y0,y6,y7,List.length_set]
       rw [apart_ok (z0L (by kernel_rfl)),← hH1]
       simp only [go_sem,simprocAttr,h16,h10,i0,Int.toNat_natCast,List.length_map,ll,hc1,hcl,hsz,hra,hrl,ap1,ap1',l1,k1,k2,g9,ap2,t6,z10,z66,y0,y6,y7,x0,x6,x10,x12,List.length_set]
       rw [apart_ok (z0L (by kernel_rfl)),← hH2]
       simp only [go_sem,simprocAttr,htr,wi]
       exact ih' _ _ _ _ _ _ _ _ _ _ _ _ _ _ _ _ _ _ _ _ _ _ _ _ _ _ _ _ _ _ _ _ _ _ _ _ _ _ _ _ _ _ _ _ _ _ _ _ _ _ _ _ _ _ _ _ _ _ _ _ _ _ _ _ _ _ _ _ _ _ _ _ _ _ _ _ _ _ _ _ _ _ _ _ _ _ _ _ _ _ _ _ _ _ _ _ _ _ _ _ _ _ _ _ _ _ _ _ _ _ _ _ _ _ _ _ _ _ _ _ _ _ _ _ _ _ (by omega) hA'
set_option maxRecDepth 10000
set_option maxHeartbeats 4000000
def badM (t:Tab) (i k:Int):Bool:=decide (i < 0) || decide ((t.R:Int)≤i) || decide (k < 0) || decide ((t.R:Int)≤k) || decide (i=k)
theorem zB0 {t:Tab} {i k:Int} (h:badM t i k=false):∃ a b:Nat,i=a∧k=b∧a < t.R∧b < t.R∧a ≠ b:=by
 unfold badM at h
 simp only [Bool.or_eq_false_iff,decide_eq_false_iff_not] at h
 exact ⟨i.toNat,k.toNat,by omega,by omega,by omega,by omega,by omega⟩
def zE8 (t:Tab) (i k:Int):AVal:=
 if t.ok then (if badM t i k then .tuple [noTab,.int .i64 1] else if (z41 t i.toNat k.toNat).all Spn.ok then .tuple [(canon (z0a t i.toNat k.toNat)).v,.int .i64 0] else .tuple [noTab,.int .i64 2]) else .tuple [noTab,.int .i64 60]
theorem z8Y {T:TabV} (hT:T.Wf) (i k:Int) (ro:Nat) (H:Heap) (nx:Nat):callT env 37 [T.v,.int .i64 i,.int .i64 k] ro H nx=some (.ret (zE8 T.tab i k),.ups []):=by
 have hu:underL 0 [T.v,.int .i64 i,.int .i64 k]=true:=by simp [underL,AVal.under,TabV.under]
 have ck:=z0w T hT
 have lr:T.rows.l.length=T.tab.R:=rfl
 unfold zE8
 have pure:∀ n:Int,noRef (.tuple [noTab,.int .i64 n])=true:=fun _=>rfl
 cases hok:T.tab.ok with
 | false=>
   have:∃ H',runT env 37 [T.v,.int .i64 i,.int .i64 k] [] 0=some (.ret (.tuple [noTab,.int .i64 60]),H'):=by
    rw [run_unfold fn37 rfl]
    simp only [go_sem,simprocAttr,Try.f37,ck,z22 hok,unwind,modeEx,resultsOf,one]
    exact ⟨_,rfl⟩
   obtain ⟨H',h⟩:=this
   exact call_pure rfl rfl rfl hu h (pure _) ro H nx
 | true=>
   cases ho:badM T.tab i k with
   | true=>
     have:∃ H',runT env 37 [T.v,.int .i64 i,.int .i64 k] [] 0=some (.ret (.tuple [noTab,.int .i64 1]),H'):=by
      rw [run_unfold fn37 rfl]
      cases d1:decide (i < 0) <;> cases d2:decide ((T.tab.R:Int)≤i) <;> cases d3:decide (k < 0) <;> cases d4:decide ((T.tab.R:Int)≤k) <;> cases d5:decide (i=k) <;>
       first
       | (exfalso;unfold badM at ho;rw [d1,d2,d3,d4,d5] at ho;exact Bool.noConfusion ho)
       | (simp only [go_sem,simprocAttr,Try.f37,ck,z0O hok,List.length_map,lr,d1,d2,d3,d4,d5,unwind,modeEx,resultsOf,one]
          exact ⟨_,rfl⟩)
     obtain ⟨H',h⟩:=this
     exact call_pure rfl rfl rfl hu h (pure _) ro H nx
   | false=>
     have d:(((decide (i < 0)=false∧decide ((T.tab.R:Int)≤i)=false)∧decide (k < 0)=false)∧decide ((T.tab.R:Int)≤k)=false)∧decide (i=k)=false:=by
      unfold badM at ho
      simpa only [Bool.or_eq_false_iff] using ho
     obtain ⟨⟨⟨⟨d1,d2⟩,d3⟩,d4⟩,d5⟩:=d
     have hO:=Tab.ok_iff.1 hok
     obtain ⟨a,b,rfl,rfl,ha,hb,hab⟩:=zB0 ho
     rw [Int.toNat_natCast,Int.toNat_natCast]
     have a0:(0:Int)≤(a:Int):=by omega
     have b0:(0:Int)≤(b:Int):=by omega
     have dA:decide ((a:Int) < (T.tab.R:Int))=true:=by simp;omega
     have dB:decide ((b:Int) < (T.tab.R:Int))=true:=by simp;omega
     have hR8:=hO.R8
     have hC8:=hO.C8
     have hR1:=hO.R1
     have hC1:=hO.C1
     obtain ⟨g,cl⟩:=z3L hT hO
     have cl:=cl 0 [boxT T,.cells 0 3 false [noTab]] 2
     have at0:=z5U hO [boxT T,.cells 0 3 false [noTab]] g
     have hpu:=z0g (clX T 2 g) [boxT T,.cells 0 3 false [noTab]]
     have H1:([boxT T,.cells 0 3 false [noTab]]:Heap).length=2:=rfl
     rw [H1] at at0 hpu
     have hXl:=z61 T 2 g hR1
     generalize hX:clX T 2 g=X at cl at0 hpu hXl
     obtain ⟨ps,hps⟩:∃ ps,ps=clP' 2:=⟨_,rfl⟩
     rw [← hps] at at0
     obtain ⟨Y,hY⟩:∃ Y:Heap,Y=[boxT T,.cells 0 3 false [noTab]]++X:=⟨_,rfl⟩
     rw [← hY] at hpu at0
     obtain ⟨D,hD⟩:∃ D,Y.length=D:=⟨_,rfl⟩
     have hD2:D=X.length+2:=by rw [← hD,hY];simp
     have y1:Y[1]?=some (.cells 0 3 false [noTab]):=by rw [hY];rfl
     clear hY
     have k1:=fun z:Blk=>z06 hD z
     have k2:=fun z z':Blk=>z06 (k1 z) z'
     have k3:=fun z z' z'':Blk=>z06 (k2 z z') z''
     obtain ⟨Y3,hY3⟩:∃ Y3:Heap,Y3=Y++[.cells 0 0 false []]++[.cells 0 0 false []]++[.cells 0 0 false []]:=⟨_,rfl⟩
     have hAs:∀ z,Y++[.cells 0 0 false []]++[.cells 0 0 false []]++[.cells 0 0 false []]++[z]=Y3++[z]:=fun z=>by rw [hY3]
     have hB:Y3.length=D+1+1+1:=by rw [hY3,k3]
     have y1':Y3[1]?=some (.cells 0 3 false [noTab]):=by
      rw [hY3,List.getElem?_append_left (by rw [k2];omega),List.getElem?_append_left (by rw [k1];omega),List.getElem?_append_left (by omega)];exact y1
     have at3:TbAt Y3 4 5 12 0 0 g ps T.tab:=by rw [hY3];exact ((at0.more _).more _).more _
     obtain ⟨B,hBd⟩:∃ B,B=D+1+1+1:=⟨_,rfl⟩
     rw [← hBd] at hB
     clear hY3
     have bra:=hO.row_ok ha
     have brb:=hO.row_ok hb
     have pc:=z9I (x:=T.tab.row a) (y:=T.tab.row b) (i64_in _ (by omega)) (i64_in _ (by omega))
     have ga:=z74 ha
     have gb:=z74 hb
     have hrl:(T.tab.rows.map spV).length=T.tab.R:=by rw [List.length_map];try rfl
     have hrw:=fun z=>(at3.more [z]).rows
     have hb5:∀ z,(Y3++[z])[B]?=some z:=fun z=>z08 hB z
     have hs5:∀ z z',(Y3++[z]).set B z'=Y3++[z']:=fun z z'=>z0d hB z z'
     have l1:=fun z:Blk=>z06 hB z
     have l2:=fun z z':Blk=>z06 (l1 z) z'
     have l3:=fun z z' z'':Blk=>z06 (l2 z z') z''
     have g2:=fun z z':Blk=>z08 (l1 z) z'
     have s2:=fun z z' z'':Blk=>z0d (l1 z) z' z''
     have wr:∀ u w:Spn,z0K (spV u) 0 (spV w)=some (spV w):=fun _ _=>rfl
     obtain ⟨ex,st,hx,hp⟩:=zNX hO (X:=Y3++[.cells 0 3 false [memT T.tab 4 5 12 0 0 g]]++[.cells 0 2 true [spV (z0G (T.tab.row a) (T.tab.row b))]]) (B:=B) (l2 _ _) ((at3.more _).more _) (by rw [List.getElem?_append_left (by rw [l1];omega)];exact hb5 _) ha hb T.tab.C 0 _ _ _ _ _ _ _ _ _ _ _ _ _ _ _ _ _ _ _ _ _ _ _ _ _ _ _ _ _ _ _ _ _ _ _ _ _ _ _ _ _ _ _ _ _ _ _ _ _ _ _ _ _ _ _ _ _ _ _ _ _ _ _ _ _ _ _ _ _ _ _ _ _ _ _ _ _ _ _ _ _ _ _ _ _ _ _ _ _ _ _ _ _ _ _ _ _ _ _ _ _ _ _ _ _ _ _ _ _ _ _ _ _ _ _ _ _ _ _ _ _ _ _ _ _ _ _ _ _ _ (by omega)
     obtain ⟨rfl,jp,rfl⟩:=hp
     have z1:decide (B < B+1)=true:=decide_eq_true (by omega)
     have z2:decide (4 < B+1)=true:=decide_eq_true (by omega)
     have z3:(B+1 < B+1+1)=True:=eq_true (by omega)
     have hsl:=z2F T.tab a b T.tab.C
     have e0:accN ((z0T T.tab a b 0).map spV)=.cells 0 0 false []:=rfl
     have e1:accN ((z0T T.tab a b T.tab.C).map spV)=.cells T.tab.C 2 true ((z0T T.tab a b T.tab.C).map spV):=by
      have:(z0T T.tab a b T.tab.C).map spV ≠ []:=fun e=>by have:=congrArg List.length e;rw [List.length_map,hsl,List.length_nil] at this;omega
      rw [z2c this,List.length_map,hsl]
     rw [e0,e1] at hx
     have g3:=fun z z' z'':Blk=>z08 (l2 z z') z''
     have g4:=fun z z' z'' y:Blk=>z08 (l3 z z' z'') y
     have l4:=fun z z' z'' y:Blk=>z06 (l3 z z' z'') y
     have g3a:∀ z z' z'':Blk,(Y3++[z]++[z']++[z''])[B+1]?=some z':=fun z z' z''=>by rw [List.getElem?_append_left (by rw [l2];omega)];exact g2 z z'
     have sl:=fun z z'=>sl15 (H:=Y3++[z]++[z']++[.cells T.tab.C 2 true ((z0T T.tab a b T.tab.C).map spV)]) (p:=B+1+1) (g3 z z' _)
     have ap:=fun z z'=>ap15 (H:=Y3++[z]++[z']++[.cells T.tab.C 2 true ((z0T T.tab a b T.tab.C).map spV)]) (p:=B+1+1) (x:=z0G (T.tab.row a) (T.tab.row b)) (g3 z z' _) hsl (by omega) (B+1+1+1)
     have hml:(z0T T.tab a b T.tab.C++[z0G (T.tab.row a) (T.tab.row b)]).length=T.tab.C+1:=by rw [List.length_append,hsl];rfl
     have sc:=fun z z' z''=>zGv (H:=Y3++[z]++[z']++[z'']++[.cells 0 2 true ((z0T T.tab a b T.tab.C++[z0G (T.tab.row a) (T.tab.row b)]).map spV)]) (p:=B+1+1+1) (g4 z z' z'' _) hml (by rw [hml];omega) ((T.tab.C+1:Nat):Int) (B+1+1+1+1)
     rw [hml,decide_eq_true rfl,Bool.true_and] at sc
     have lk:∀ z z' z'':Blk,looks (Y3++[z]++[z']++[z'']++[.cells 0 2 true ((z0T T.tab a b T.tab.C++[z0G (T.tab.row a) (T.tab.row b)]).map spV)]) fuel0 [B+1+1+1] []=some [B+1+1+1]:=fun z z' z''=>by
      have:=g4 z z' z'' (.cells 0 2 true ((z0T T.tab a b T.tab.C++[z0G (T.tab.row a) (T.tab.row b)]).map spV))
      unfold fuel0
      simp only [looks,List.contains_nil,Bool.false_eq_true,if_false,this,if_true,List.nil_append]
     have q1:decide (B+1 < B+1+1+1)=true:=decide_eq_true (by omega)
     have q2:decide (B+1+1 < B+1+1+1)=true:=decide_eq_true (by omega)
     have q3:decide (B+1+1 < B+1+1+1+1)=true:=decide_eq_true (by omega)
     have hb5':∀ z z' z'':Blk,(Y3++[z]++[z']++[z''])[B]?=some z:=fun z z' z''=>by
      rw [List.getElem?_append_left (by rw [l2];omega),List.getElem?_append_left (by rw [l1];omega)];exact hb5 z
     have hb5'':∀ z z':Blk,(Y3++[z]++[z'])[B]?=some z:=fun z z'=>by
      rw [List.getElem?_append_left (by rw [l1];omega)];exact hb5 z
     have wc:=z00 (show T.tab.C < 2 ^ 63 - 1 by omega)
     simp only [boxT,memT,noTab,List.cons_append,List.nil_append,Nat.reduceAdd] at cl hpu hx y1'
     simp only [go_sem,simprocAttr,Try.f37,Int.ofNat_zero,Int.natCast_zero] at hx
     have y1z:∀ z z' z'' y:Blk,(Y3++[z]++[z']++[z'']++[y])[1]?=Y3[1]?:=fun z z' z'' y=>by
      rw [List.getElem?_append_left (by rw [l3];omega),List.getElem?_append_left (by rw [l2];omega),List.getElem?_append_left (by rw [l1];omega),List.getElem?_append_left (by rw [hB];omega)]
     have y1s:∀ (z z' z'' y b:Blk),((Y3++[z]++[z']++[z'']++[y]).set 1 b)[1]?=some b:=fun z z' z'' y b=>List.getElem?_set_self (by rw [l4];omega)
     have ylt:(1 < B+1+1+1+1)=True:=eq_true (by omega)
     have wrt:z0K (.agg [.lit true 0 [],.lit true 0 [],.lit true 0 []]) 0 (.agg [.lit true 0 [],.lit true 0 [],.lit true 0 []])=some (.agg [.lit true 0 [],.lit true 0 [],.lit true 0 []]):=rfl
     obtain ⟨n0,n1,n2,n3,_⟩:=zPt B
     have f4:fB B 4=4:=by rw [zLu (by omega)];rfl
     cases hall:(z41 T.tab a b).all Spn.ok with
     | false=>
       have hall':(z0T T.tab a b T.tab.C++[z0G (T.tab.row a) (T.tab.row b)]).all Spn.ok=false:=hall
       rw [hall'] at sc
       have key:∃ H',runT env 37 [T.v,.int .i64 a,.int .i64 b] [] 0=some (.ret (.tuple [noTab,.int .i64 2]),H'):=by
        rw [run_unfold fn37 rfl]
        simp only [go_sem,simprocAttr,Try.f37,ck,z0O hok,List.length_map,lr,d1,d2,d3,d4,d5,cl,hpu,z0E,hD,k1,k2,k3,hAs,← hBd,hB,hb5,hs5,l1,l2,l3,g2,s2,hrw,ga,gb,hrl,pc,a0,b0,dA,dB,Int.toNat_natCast,wr,z1,z2,z3,Nat.lt_add_one,Nat.zero_le]
        rw [apart_ok (z3J (f:=fB B) (l':=mg8) (by simp [CovF,mg8,n0,n1,n2,n3,f4]) (z0L (by kernel_rfl)))]
        simp only [go_sem,simprocAttr,hb5',hb5'',l2]
        rw [hx]
        simp only [go_sem,simprocAttr,sl,ap,sc,lk,l3,l4,g3a,q1,q2,q3,wc,Nat.lt_add_one,Nat.zero_le]
        rw [apart_ok (z3J (f:=fB B) (l':=mg15) (by simp [CovF,mg15,n0,n1,n2,n3,f4]) (z0L (by kernel_rfl)))]
        simp only [go_sem,simprocAttr,y1z,y1',y1s,ylt,l4,wrt,unwind,modeEx,resultsOf,one,noTab]
        exact ⟨_,rfl⟩
       obtain ⟨H',h⟩:=key
       exact call_pure rfl rfl rfl hu h (pure _) ro H nx
     | true=>
       have hall':(z0T T.tab a b T.tab.C++[z0G (T.tab.row a) (T.tab.row b)]).all Spn.ok=true:=hall
       rw [hall'] at sc
       obtain ⟨Z,hZ⟩:∃ Z:Heap,Z=Y3++[.cells 0 3 false [.agg [.ref 4 0 0 T.tab.R false,.ref 5 0 0 T.tab.C false,.ref 12 g 0 T.tab.R false]]]++[.cells 0 2 true [spV (z0G (T.tab.row a) (T.tab.row b))]]++[.cells T.tab.C 2 true ((z0T T.tab a b T.tab.C).map spV)]++[.cells 0 2 true ((z0T T.tab a b T.tab.C++[z0G (T.tab.row a) (T.tab.row b)]).map spV)]:=⟨_,rfl⟩
       have zl:Z.length=B+1+1+1+1:=by rw [hZ];exact l4 _ _ _ _
       have zlow:∀ j,j < B+1+1+1→Z[j]?=(Y3++[Blk.cells 0 3 false [.agg [.ref 4 0 0 T.tab.R false,.ref 5 0 0 T.tab.C false,.ref 12 g 0 T.tab.R false]]]++[Blk.cells 0 2 true [spV (z0G (T.tab.row a) (T.tab.row b))]]++[Blk.cells T.tab.C 2 true ((z0T T.tab a b T.tab.C).map spV)])[j]?:=fun j hj=>by
        rw [hZ,List.getElem?_append_left (by rw [l3];exact hj)]
       have zB:Z[B]?=some (.cells 0 3 false [.agg [.ref 4 0 0 T.tab.R false,.ref 5 0 0 T.tab.C false,.ref 12 g 0 T.tab.R false]]):=by rw [zlow _ (by omega)];exact hb5' _ _ _
       have zB1:Z[B+1]?=some (.cells 0 2 true [spV (z0G (T.tab.row a) (T.tab.row b))]):=by rw [zlow _ (by omega)];exact g3a _ _ _
       have zB2:Z[B+1+1]?=some (.cells T.tab.C 2 true ((z0T T.tab a b T.tab.C).map spV)):=by rw [zlow _ (by omega)];exact g3 _ _ _
       have z01:Z[1]?=Y3[1]?:=by rw [hZ];exact y1z _ _ _ _
       have atZ:TbAt Z 4 5 12 0 0 g ps T.tab:=by rw [hZ];exact ((((at3.more _).more _).more _).more _)
       have z4:=atZ.rows
       have hlo:min a b < T.tab.R - 1:=by omega
       have hhi:max a b < T.tab.R:=by omega
       have mn:minL .i64 (a:Int) [.int .i64 b]=some ((min a b:Nat):Int):=by rw [z6t];congr 1;omega
       have mx:maxL .i64 (a:Int) [.int .i64 b]=some ((max a b:Nat):Int):=by rw [z5c];congr 1;omega
       have w1:=z00 (show max a b < 2 ^ 63 - 1 by omega)
       have w2:=z00 (show min a b < 2 ^ 63 - 1 by omega)
       generalize hr1:T.tab.rows.eraseIdx (max a b)=r1
       have hr1l:r1.length=T.tab.R - 1:=by rw [← hr1,List.length_eraseIdx_of_lt hhi] <;> try rfl
       generalize hr2:r1.eraseIdx (min a b)=r2
       have hr2l:r2.length=T.tab.R - 1 - 1:=by rw [← hr2,List.length_eraseIdx_of_lt (by omega),hr1l]
       have c1:=zFB (H:=Z) (L:=T.tab.rows) (rest:=[]) (p:=4) (n:=T.tab.R) (i:=max a b) (by rw [List.append_nil];exact z4) rfl hhi (by omega) rfl (B+1+1+1+1)
       rw [hr1] at c1
       have s41:∀ b',(Z.set 4 b')[4]?=some b':=fun b'=>List.getElem?_set_self (by omega)
       have c2:=zFB (H:=Z.set 4 (.cells 0 2 true (r1.map spV++[spV ⟨0,0⟩]))) (L:=r1) (rest:=[spV ⟨0,0⟩]) (p:=4) (n:=T.tab.R - 1) (i:=min a b) (s41 _) hr1l hlo (by omega) rfl (B+1+1+1+1)
       rw [hr2] at c2
       have s42:∀ b' b'',((Z.set 4 b').set 4 b'')[4]?=some b'':=fun b' b''=>List.getElem?_set_self (by rw [List.length_set];omega)
       have c3:=zMe (H:=(Z.set 4 (.cells 0 2 true (r1.map spV++[spV ⟨0,0⟩]))).set 4 (.cells 0 2 true (r2.map spV++[spV ⟨0,0⟩,spV ⟨0,0⟩]))) (L:=r2) (z:=spV ⟨0,0⟩) (rest:=[spV ⟨0,0⟩]) (p:=4) (n:=T.tab.R - 1 - 1) (x:=z0G (T.tab.row a) (T.tab.row b)) (s42 _ _) hr2l (by omega) (B+1+1+1+1)
       have sB:∀ b' b'' y,(((Z.set 4 b').set 4 b'').set 4 y)[B]?=some (.cells 0 3 false [.agg [.ref 4 0 0 T.tab.R false,.ref 5 0 0 T.tab.C false,.ref 12 g 0 T.tab.R false]]):=fun b' b'' y=>by
        rw [List.getElem?_set_ne (by omega),List.getElem?_set_ne (by omega),List.getElem?_set_ne (by omega)];exact zB
       have sB1:∀ b' b'',((Z.set 4 b').set 4 b'')[B+1]?=some (.cells 0 2 true [spV (z0G (T.tab.row a) (T.tab.row b))]):=fun b' b''=>by
        rw [List.getElem?_set_ne (by omega),List.getElem?_set_ne (by omega)];exact zB1
       have lk4:looks Z fuel0 [4] []=some [4]:=by
        unfold fuel0
        simp only [looks,List.contains_nil,Bool.false_eq_true,if_false,z4,if_true,List.nil_append]
       have lk4':looks (Z.set 4 (.cells 0 2 true (r1.map spV++[spV ⟨0,0⟩]))) fuel0 [4] []=some [4]:=by
        unfold fuel0
        simp only [looks,List.contains_nil,Bool.false_eq_true,if_false,s41,if_true,List.nil_append]
       have u4:(4 < B+1+1+1+1)=True:=eq_true (by omega)
       have u4':decide (4 < B+1+1+1+1)=true:=decide_eq_true (by omega)
       have uB:(B < B+1+1+1+1)=True:=eq_true (by omega)
       have uB':decide (B < B+1+1+1+1)=true:=decide_eq_true (by omega)
       have uB1:decide (B+1 < B+1+1+1+1)=true:=decide_eq_true (by omega)
       have hRl:(List.range T.tab.R).length=T.tab.R:=List.length_range
       obtain ⟨Z1,hZ1⟩:∃ Z1:Heap,Z1=(((Z.set 4 (.cells 0 2 true (r1.map spV++[spV ⟨0,0⟩]))).set 4 (.cells 0 2 true (r2.map spV++[spV ⟨0,0⟩,spV ⟨0,0⟩]))).set 4 (.cells 0 2 true ((r2++[z0G (T.tab.row a) (T.tab.row b)]).map spV++[spV ⟨0,0⟩]))).set B (.cells 0 3 false [.agg [.ref 4 0 0 (T.tab.R - 1 - 1+1) false,.ref 5 0 0 T.tab.C false,.ref 12 g 0 T.tab.R false]]):=⟨_,rfl⟩
       have z1l:Z1.length=B+1+1+1+1:=by rw [hZ1];simp only [List.length_set];exact zl
       have z1B:Z1[B]?=some (.cells 0 3 false [.agg [.ref 4 0 0 (T.tab.R - 1 - 1+1) false,.ref 5 0 0 T.tab.C false,.ref 12 g 0 T.tab.R false]]):=by
        rw [hZ1,List.getElem?_set_self (by simp only [List.length_set];omega)]
       have z1ne:∀ j,j ≠ 4→j ≠ B→Z1[j]?=Z[j]?:=fun j h1 h2=>by
        rw [hZ1,List.getElem?_set_ne (Ne.symm h2),List.getElem?_set_ne (Ne.symm h1),List.getElem?_set_ne (Ne.symm h1),List.getElem?_set_ne (Ne.symm h1)]
       have hpsB:∀ j,j < T.tab.R→6≤ps j∧ps j < B∧ps j ≠ 12:=fun j hj=>by
        have h1:=at3.lt.2.2.2 j hj
        have h2:=(at3.pa j hj).2.2
        rw [hB] at h1
        refine ⟨?_,h1,h2⟩
        rw [hps];unfold clP';split <;> omega
       have z1row:∀ j ∈ List.range T.tab.R,Z1[ps j]?=some (.cells 0 2 true (rowA T.tab j)):=fun j hj=>by
        have hj:=List.mem_range.1 hj
        obtain ⟨p1,p2,p3⟩:=hpsB j hj
        rw [z1ne _ (by omega) (by omega)];exact atZ.row j hj
       have z1acc:Z1[12]?=some (.cells g 1 false ((List.range T.tab.R).map (fun i=>AVal.ref (ps i) 0 0 T.tab.C false)++[])):=by
        rw [z1ne _ (by decide) (by omega),List.append_nil];exact atZ.acc
       have hnd:((List.range T.tab.R).map ps).Nodup:=List.pairwise_map.2 (List.Pairwise.imp_of_mem (fun ha' hb' h e=>h (atZ.pp _ _ (List.mem_range.1 ha') (List.mem_range.1 hb') e)) List.nodup_range)
       have hq12:∀ j ∈ List.range T.tab.R,ps j ≠ 12:=fun j hj=>(hpsB j (List.mem_range.1 hj)).2.2
       have e4:=zI6 (H:=Z1) (L:=List.range T.tab.R) (ps:=ps) (rw':=rowA T.tab) (m:=0) (rest:=[]) (q:=12) (g:=g) (n:=T.tab.R) (i:=max a b) (C:=T.tab.C) z1acc z1row hnd hq12 rfl hRl hhi hR8 (B+1+1+1+1)
       have lk12:=zCa (H:=Z1) (L:=List.range T.tab.R) (ps:=ps) (rw':=rowA T.tab) (m:=0) (rest:=[]) (q:=12) (g:=g) (C:=T.tab.C) z1acc z1row hnd hq12 rfl (by rw [hRl];exact hR8)
       have hsub:List.Sublist ((List.range T.tab.R).eraseIdx (max a b)) (List.range T.tab.R):=List.eraseIdx_sublist ..
       have hq1l:((List.range T.tab.R).eraseIdx (max a b)).length=T.tab.R - 1:=by rw [List.length_eraseIdx_of_lt (by rw [hRl];exact hhi),hRl]
       generalize hq1:(List.range T.tab.R).eraseIdx (max a b)=La at e4 hsub hq1l
       have s12:∀ b',(Z1.set 12 b')[12]?=some b':=fun b'=>List.getElem?_set_self (by omega)
       have s12n:∀ b' j,j ≠ 12→(Z1.set 12 b')[j]?=Z1[j]?:=fun b' j h=>List.getElem?_set_ne (Ne.symm h)
       have hsubm:∀ j ∈ La,j ∈ List.range T.tab.R:=fun j hj=>hsub.subset hj
       have hnd2:(La.map ps).Nodup:=List.Pairwise.sublist (hsub.map ps) hnd
       have z2row:∀ b',∀ j ∈ La,(Z1.set 12 b')[ps j]?=some (.cells 0 2 true (rowA T.tab j)):=fun b' j hj=>by
        rw [s12n _ _ (hq12 j (hsubm j hj))];exact z1row j (hsubm j hj)
       have e5:=zI6 (H:=Z1.set 12 (.cells g 1 false (La.map (fun i=>AVal.ref (ps i) 0 0 T.tab.C false)++[.lit true 0 []]))) (L:=La) (ps:=ps) (rw':=rowA T.tab) (m:=1) (rest:=[.lit true 0 []]) (q:=12) (g:=g) (n:=T.tab.R - 1) (i:=min a b) (C:=T.tab.C) (s12 _) (z2row _) hnd2 (fun j hj=>hq12 j (hsubm j hj)) rfl hq1l hlo (by omega) (B+1+1+1+1)
       have lk12':=zCa (H:=Z1.set 12 (.cells g 1 false (La.map (fun i=>AVal.ref (ps i) 0 0 T.tab.C false)++[.lit true 0 []]))) (L:=La) (ps:=ps) (rw':=rowA T.tab) (m:=1) (rest:=[.lit true 0 []]) (q:=12) (g:=g) (C:=T.tab.C) (s12 _) (z2row _) hnd2 (fun j hj=>hq12 j (hsubm j hj)) rfl (by omega)
       have hq2l:(La.eraseIdx (min a b)).length=T.tab.R - 1 - 1:=by rw [List.length_eraseIdx_of_lt (by omega),hq1l]
       generalize hq2:La.eraseIdx (min a b)=Lb at e5 hq2l
       rw [List.zip_map'] at e4 e5
       have hu1:∀ u ∈ (List.range T.tab.R).map (fun j=>(ps j,Blk.cells 0 2 true (rowA T.tab j))),u.1 < B+1+1+1+1∧fB B u.1=6∧u.1 ≠ 12∧Z1[u.1]?=some u.2:=fun u hu=>by
        obtain ⟨j,hj,rfl⟩:=List.mem_map.1 hu
        obtain ⟨p1,p2,p3⟩:=hpsB j (List.mem_range.1 hj)
        exact ⟨by show ps j < _;omega,by show fB B (ps j)=6;rw [zLu p2];omega,p3,z1row j hj⟩
       have hu2:∀ u ∈ La.map (fun j=>(ps j,Blk.cells 0 2 true (rowA T.tab j))),u.1 < B+1+1+1+1∧fB B u.1=6∧u.1 ≠ 12∧Z1[u.1]?=some u.2:=fun u hu=>by
        obtain ⟨j,hj,rfl⟩:=List.mem_map.1 hu
        exact hu1 _ (List.mem_map.2 ⟨j,hsubm j hj,rfl⟩)
       have hi1:∀ x ∈ (List.range T.tab.R).map ps,fB B x=6:=fun x hx=>by
        obtain ⟨j,hj,rfl⟩:=List.mem_map.1 hx
        exact (hu1 _ (List.mem_map.2 ⟨j,hj,rfl⟩)).2.1
       have hi2:∀ x ∈ La.map ps,fB B x=6:=fun x hx=>by
        obtain ⟨j,hj,rfl⟩:=List.mem_map.1 hx
        exact (hu2 _ (List.mem_map.2 ⟨j,hj,rfl⟩)).2.1
       generalize (List.range T.tab.R).map (fun j=>(ps j,Blk.cells 0 2 true (rowA T.tab j)))=u1 at e4 hu1
       generalize La.map (fun j=>(ps j,Blk.cells 0 2 true (rowA T.tab j)))=u2 at e5 hu2
       generalize (List.range T.tab.R).map ps=i1 at lk12 hi1
       generalize La.map ps=i2 at lk12' hi2
       have p4:∀ b',putU (Z1.set 12 b') u1=Z1.set 12 b':=fun b'=>zEE fun u hu=>by rw [s12n _ _ (hu1 u hu).2.2.1];exact (hu1 u hu).2.2.2
       have p5:∀ b' b'',putU ((Z1.set 12 b').set 12 b'') u2=(Z1.set 12 b').set 12 b'':=fun b' b''=>zEE fun u hu=>by
        rw [List.getElem?_set_ne (Ne.symm (hu2 u hu).2.2.1),s12n _ _ (hu2 u hu).2.2.1];exact (hu2 u hu).2.2.2
       have cs4:consec (B+1+1+1+1) (B+1+1+1+1) u1=true:=z7Q fun u hu=>(hu1 u hu).1
       have cs5:consec (B+1+1+1+1) (B+1+1+1+1) u2=true:=z7Q fun u hu=>(hu2 u hu).1
       have v12:(12 < B+1+1+1+1)=True:=eq_true (by omega)
       obtain ⟨Z2,hZ2⟩:∃ Z2:Heap,Z2=(Z1.set 12 (.cells g 1 false (La.map (fun i=>AVal.ref (ps i) 0 0 T.tab.C false)++[.lit true 0 []]))).set 12 (.cells g 1 false (Lb.map (fun i=>AVal.ref (ps i) 0 0 T.tab.C false)++[.lit true 0 [],.lit true 0 []])):=⟨_,rfl⟩
       have z2l:Z2.length=B+1+1+1+1:=by rw [hZ2];simp only [List.length_set];exact z1l
       have z2a:Z2[12]?=some (.cells g 1 false (Lb.map (fun i=>AVal.ref (ps i) 0 0 T.tab.C false)++[.lit true 0 [],.lit true 0 []])):=by
        rw [hZ2,List.getElem?_set_self (by rw [List.length_set];omega)]
       have z2ne:∀ j,j ≠ 12→Z2[j]?=Z1[j]?:=fun j h=>by
        rw [hZ2,List.getElem?_set_ne (Ne.symm h),List.getElem?_set_ne (Ne.symm h)]
       have t1:=fun z:Blk=>z06 z2l z
       have t2:=fun z:Blk=>z08 z2l z
       have t3:∀ (z:Blk) (j:Nat),j < B+1+1+1+1→(Z2++[z])[j]?=Z2[j]?:=fun z j h=>List.getElem?_append_left (by omega)
       have e6:=zPJ (H:=Z2++[.cells 0 1 false [.ref (B+1+1) T.tab.C 0 T.tab.C false]]) (es:=Lb.map (fun i=>AVal.ref (ps i) 0 0 T.tab.C false)) (z:=.lit true 0 []) (rest:=[.lit true 0 []]) (q:=12) (g:=g) (n:=T.tab.R - 1 - 1) (w:=B+1+1+1+1) (r:=.ref (B+1+1) T.tab.C 0 T.tab.C false) (by rw [t3 _ _ (by omega)];exact z2a) (by rw [List.length_map];exact hq2l) (t2 _) (by omega) (B+1+1+1+1+1)
       have x1:∀ z b',((Z2++[z]).set 12 b')[B]?=some (.cells 0 3 false [.agg [.ref 4 0 0 (T.tab.R - 1 - 1+1) false,.ref 5 0 0 T.tab.C false,.ref 12 g 0 T.tab.R false]]):=fun z b'=>by
        rw [List.getElem?_set_ne (by omega),t3 _ _ (by omega),z2ne _ (by omega)];exact z1B
       have x2:∀ z b' b'',(((Z2++[z]).set 12 b').set B b'')[B]?=some b'':=fun z b' b''=>List.getElem?_set_self (by rw [List.length_set,t1];omega)
       have x3:∀ z b' b'',(((Z2++[z]).set 12 b').set B b'')[1]?=some (.cells 0 3 false [.agg [.lit true 0 [],.lit true 0 [],.lit true 0 []]]):=fun z b' b''=>by
        rw [List.getElem?_set_ne (by omega),List.getElem?_set_ne (by omega),t3 _ _ (by omega),z2ne _ (by omega),z1ne _ (by decide) (by omega),z01];exact y1'
       have x4:∀ z b' b'' w,((((Z2++[z]).set 12 b').set B b'').set 1 w)[1]?=some w:=fun z b' b'' w=>List.getElem?_set_self (by rw [List.length_set,List.length_set,t1];omega)
       have v5:(12 < B+1+1+1+1+1)=True:=eq_true (by omega)
       have v6:(B < B+1+1+1+1+1)=True:=eq_true (by omega)
       have v7:(1 < B+1+1+1+1+1)=True:=eq_true (by omega)
       have key:runT env 37 [T.v,.int .i64 a,.int .i64 b] [] 0=some (.ret (.tuple [.agg [.ref 4 0 0 (T.tab.R - 1 - 1+1) false,.ref 5 0 0 T.tab.C false,.ref 12 g 0 (T.tab.R - 1 - 1+1) false],.int .i64 0]),((((Z2++[Blk.cells 0 1 false [AVal.ref (B+1+1) T.tab.C 0 T.tab.C false]]).set 12 (Blk.cells g 1 false (Lb.map (fun i=>AVal.ref (ps i) 0 0 T.tab.C false)++AVal.ref (B+1+1) T.tab.C 0 T.tab.C false :: [.lit true 0 []]))).set B (Blk.cells 0 3 false [.agg [.ref 4 0 0 (T.tab.R - 1 - 1+1) false,.ref 5 0 0 T.tab.C false,.ref 12 g 0 (T.tab.R - 1 - 1+1) false]])).set 1 (Blk.cells 0 3 false [.agg [.ref 4 0 0 (T.tab.R - 1 - 1+1) false,.ref 5 0 0 T.tab.C false,.ref 12 g 0 (T.tab.R - 1 - 1+1) false]]))):=by
        rw [run_unfold fn37 rfl]
        simp only [go_sem,simprocAttr,Try.f37,ck,z0O hok,List.length_map,lr,d1,d2,d3,d4,d5,cl,hpu,z0E,hD,k1,k2,k3,hAs,← hBd,hB,hb5,hs5,l1,l2,l3,g2,s2,hrw,ga,gb,hrl,pc,a0,b0,dA,dB,Int.toNat_natCast,wr,z1,z2,z3,Nat.lt_add_one,Nat.zero_le]
        rw [apart_ok (z3J (f:=fB B) (l':=mg8) (by simp [CovF,mg8,n0,n1,n2,n3,f4]) (z0L (by kernel_rfl)))]
        simp only [go_sem,simprocAttr,hb5',hb5'',l2]
        rw [hx]
        simp only [go_sem,simprocAttr,sl,ap,sc,lk,l3,l4,g3a,q1,q2,q3,wc,Nat.lt_add_one,Nat.zero_le]
        rw [apart_ok (z3J (f:=fB B) (l':=mg15) (by simp [CovF,mg15,n0,n1,n2,n3,f4]) (z0L (by kernel_rfl))),← hZ]
        simp only [go_sem,simprocAttr,mn,mx,w1,w2,zl,zB,c1,c2,c3,sB,sB1,lk4,lk4',u4,u4',uB,uB',uB1,Nat.zero_le,List.length_set]
        rw [apart_ok (z3J (f:=fB B) (l':=mg18) (by simp [CovF,mg18,n0,n1,n2,n3,f4]) (z0L (by kernel_rfl))),← hZ1]
        simp only [go_sem,simprocAttr,z1B,w1,w2,e4,e5,lk12,lk12',p4,p5,cs4,cs5,v12,z1l,List.length_set]
        simp only [go_sem,simprocAttr,← hZ2,t1,e6,x1,x2,x3,x4,v5,v6,v7,Nat.zero_le,List.length_set,unwind,modeEx,resultsOf,one]
       generalize hH5:((((Z2++[Blk.cells 0 1 false [AVal.ref (B+1+1) T.tab.C 0 T.tab.C false]]).set 12 (Blk.cells g 1 false (Lb.map (fun i=>AVal.ref (ps i) 0 0 T.tab.C false)++AVal.ref (B+1+1) T.tab.C 0 T.tab.C false :: [.lit true 0 []]))).set B (Blk.cells 0 3 false [.agg [.ref 4 0 0 (T.tab.R - 1 - 1+1) false,.ref 5 0 0 T.tab.C false,.ref 12 g 0 (T.tab.R - 1 - 1+1) false]])).set 1 (Blk.cells 0 3 false [.agg [.ref 4 0 0 (T.tab.R - 1 - 1+1) false,.ref 5 0 0 T.tab.C false,.ref 12 g 0 (T.tab.R - 1 - 1+1) false]]))=H5 at key
       have h5ne:∀ j,j ≠ 1→j ≠ B→j ≠ 12→j < B+1+1+1+1→H5[j]?=Z1[j]?:=fun j i1 i2 i3 i4=>by
        rw [← hH5,List.getElem?_set_ne (Ne.symm i1),List.getElem?_set_ne (Ne.symm i2),List.getElem?_set_ne (Ne.symm i3),t3 _ _ i4,z2ne _ i3]
       have h512:H5[12]?=some (.cells g 1 false ((Lb.map (fun i=>AVal.ref (ps i) 0 0 T.tab.C false)++[.ref (B+1+1) T.tab.C 0 T.tab.C false])++[.lit true 0 []])):=by
        rw [← hH5,List.getElem?_set_ne (by decide),List.getElem?_set_ne (by omega),List.getElem?_set_self (by rw [t1];omega),List.append_assoc];rfl
       have h54:H5[4]?=some (.cells 0 2 true ((r2++[z0G (T.tab.row a) (T.tab.row b)]).map spV++[spV ⟨0,0⟩])):=by
        rw [h5ne _ (by decide) (by omega) (by decide) (by omega),hZ1,List.getElem?_set_ne (by omega),List.getElem?_set_self (by simp only [List.length_set];omega)]
       have h55:H5[5]?=some (.cells 0 2 true (T.tab.cols.map spV)):=by
        rw [h5ne _ (by decide) (by omega) (by decide) (by omega),z1ne _ (by decide) (by omega)];exact atZ.cols
       have h5s:H5[B+1+1]?=some (.cells T.tab.C 2 true ((z0T T.tab a b T.tab.C).map spV)):=by
        rw [h5ne _ (by omega) (by omega) (by omega) (by omega),z1ne _ (by omega) (by omega)];exact zB2
       have hLb:∀ j ∈ Lb,j < T.tab.R:=fun j hj=>by
        rw [← hq2] at hj
        exact List.mem_range.1 (hsubm j ((List.eraseIdx_sublist ..).subset hj))
       have h5r:∀ j ∈ Lb,H5[ps j]?=some (.cells 0 2 true (rowA T.tab j)):=fun j hj=>by
        obtain ⟨i1,i2,i3⟩:=hpsB j (hLb j hj)
        rw [h5ne _ (by omega) (by omega) (by omega) (by omega)];exact z1row j (List.mem_range.2 (hLb j hj))
       have mR:(z0a T.tab a b).R=T.tab.R - 1 - 1+1:=by
        show ((T.tab.rows.eraseIdx (max a b)).eraseIdx (min a b)++[_]).length=_
        rw [hr1,hr2,List.length_append,hr2l];rfl
       have mC:(z0a T.tab a b).C=T.tab.C:=rfl
       have mrows:(z0a T.tab a b).rows=r2++[z0G (T.tab.row a) (T.tab.row b)]:=by
        show (T.tab.rows.eraseIdx (max a b)).eraseIdx (min a b)++[_]=_
        rw [hr1,hr2]
       have hcs:T.tab.cells=(List.range T.tab.R).map fun i=>T.tab.cells.getD i []:=by
        apply List.ext_getElem
        · rw [List.length_map,hRl,hO.len]
        · intro i h1 h2
          rw [List.getElem_map,List.getElem_range,List.getD_eq_getElem?_getD,List.getElem?_eq_getElem h1];rfl
       have mcells:(z0a T.tab a b).cells=(Lb.map fun i=>T.tab.cells.getD i [])++[z0T T.tab a b T.tab.C]:=by
        show (T.tab.cells.eraseIdx (max a b)).eraseIdx (min a b)++[_]=_
        have hm:∀ (l:List Nat) (k:Nat),(l.map fun i=>T.tab.cells.getD i []).eraseIdx k=(l.eraseIdx k).map fun i=>T.tab.cells.getD i []:=fun l k=>by
         rw [List.eraseIdx_eq_take_drop_succ,List.eraseIdx_eq_take_drop_succ,← List.map_take,← List.map_drop,← List.map_append]
        conv=>lhs;rw [hcs]
        rw [hm,hq1,hm,hq2]
       have hmo:mapO (Tidy.toLit (fun j=>decide (0≤j) && !([]:List Nat).contains j) H5 7) (Lb.map (fun i=>AVal.ref (ps i) 0 0 T.tab.C false)++[.ref (B+1+1) T.tab.C 0 T.tab.C false])=some ((z0a T.tab a b).cells.map fun l=>.lit false 2 (l.map spV)):=by
        rw [mcells]
        have last:Tidy.toLit (fun j=>decide (0≤j) && !([]:List Nat).contains j) H5 7 (.ref (B+1+1) T.tab.C 0 T.tab.C false)=some (.lit false 2 ((z0T T.tab a b T.tab.C).map spV)):=by
         have htk:((z0T T.tab a b T.tab.C).map spV).take T.tab.C=(z0T T.tab a b T.tab.C).map spV:=List.take_of_length_le (by rw [List.length_map,hsl];exact Nat.le_refl _)
         simp [Tidy.toLit,noRef,AVal.under,h5s,hsl,htk]
        have gen:∀ l:List Nat,(∀ i ∈ l,i ∈ Lb)→mapO (Tidy.toLit (fun j=>decide (0≤j) && !([]:List Nat).contains j) H5 7) (l.map (fun i=>AVal.ref (ps i) 0 0 T.tab.C false)++[.ref (B+1+1) T.tab.C 0 T.tab.C false])=some (((l.map fun i=>T.tab.cells.getD i [])++[z0T T.tab a b T.tab.C]).map fun l=>.lit false 2 (l.map spV)):=by
         intro l
         induction l with
         | nil=>
           intro _
           simp only [List.map_nil,List.nil_append,mapO,last,List.map_cons]
         | cons i l ih=>
           intro hl'
           have hi:=h5r i (hl' i (by simp))
           have hrl':=z0V hO.len hO.wid (hLb i (hl' i (by simp)))
           have htk:(rowA T.tab i).take T.tab.C=rowA T.tab i:=List.take_of_length_le (by omega)
           have e:Tidy.toLit (fun j=>decide (0≤j) && !([]:List Nat).contains j) H5 7 (.ref (ps i) 0 0 T.tab.C false)=some (.lit false 2 (rowA T.tab i)):=by
            simp [Tidy.toLit,noRef,AVal.under,hi,hrl',htk]
           simp only [List.map_cons,List.cons_append,mapO,e,ih fun j hj=>hl' j (by simp [hj])]
           rfl
        exact gen Lb fun _ h=>h
       have hbk:=zIY (H:=H5) (t:=z0a T.tab a b) (p1:=4) (g1:=0) (p2:=5) (g2:=0) (q:=12) (g:=g) (n:=1) (r1:=[spV ⟨0,0⟩]) (r3:=[.lit true 0 []]) (by rw [mrows];exact h54) h55 h512 hmo (by rw [mR,List.length_append,List.length_map,hq2l];rfl)
       rw [mR,mC] at hbk
       refine z0r rfl rfl rfl hu key ?_ rfl ro H nx
       unfold handBack
       simp only [mapO,hbk]
       rfl
end Go.Proofs.Ytgfejpngfikjiaa.Tidy
