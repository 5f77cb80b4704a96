/-
 What the functions that SharesBlockSpec reaches compute;the law,run.
-/
import Derived.Test.YtgfejpngfikjiaaCa
import Derived.Test.YtgfejpngfikjiaaCe
import Derived.Test.YtgfejpngfikjiaaCb
import Derived.Test.YtgfejpngfikjiaaCd
import Derived.Test.YtgfejpngfikjiaaCf
set_option linter.all false
namespace Go.Proofs.Ytgfejpngfikjiaa.Tidy
open Go
structure Rl where
 g:Nat→Int
 p:Nat→Int
 last:Int
def rlAt (free:Int) (s:Rl) (w:Res) (i:Nat):Rl:=if free≤w.room∧s.g w.start+w.gain > s.g w.to then ⟨updF s.g w.to (s.g w.start+w.gain),updF s.p w.to i,w.to⟩ else s
def rlGo (ws:List Res) (free:Int) (s:Rl):Nat→Rl
 | 0=>s
 | i+1=>rlAt free (rlGo ws free s i) (ws.getD i default) i
def zOS (ws:List Res) (free:Int) (s:Rl):Rl:=rlGo ws free ⟨s.g,s.p,-1⟩ ws.length
def rl0:Rl:=⟨fun _=>0,fun _=>-1,-1⟩
def rlN (ws:List Res) (free:Int):Nat→Rl
 | 0=>rl0
 | k+1=>zOS ws free (rlN ws free k)
theorem zEH (free:Int) (s:Rl) (w:Res) (i v:Nat):s.g v≤(rlAt free s w i).g v:=by
 unfold rlAt
 split
 · rename_i h
   show _≤updF _ _ _ v
   unfold updF
   split
   · rename_i e;subst e;omega
   · exact Int.le_refl _
 · exact Int.le_refl _
theorem z5d (ws:List Res) (free:Int) (s:Rl) (v:Nat):∀ (j i:Nat),i≤j→(rlGo ws free s i).g v≤(rlGo ws free s j).g v
 | 0,i,h=>by
   obtain rfl:i=0:=by omega
   exact Int.le_refl _
 | j+1,i,h=>by
   by_cases e:i=j+1
   · subst e;exact Int.le_refl _
   · exact Int.le_trans (z5d ws free s v j i (by omega)) (zEH _ _ _ _ _)
theorem zFc (ws:List Res) (free:Int) (s:Rl) (v:Nat):s.g v≤(zOS ws free s).g v:=z5d ws free ⟨s.g,s.p,-1⟩ v _ 0 (Nat.zero_le _)
theorem zH7 (ws:List Res) (free:Int) (v:Nat):∀ (m k:Nat),k≤m→(rlN ws free k).g v≤(rlN ws free m).g v
 | 0,k,h=>by
   obtain rfl:k=0:=by omega
   exact Int.le_refl _
 | m+1,k,h=>by
   by_cases e:k=m+1
   · subst e;exact Int.le_refl _
   · exact Int.le_trans (zH7 ws free v m k (by omega)) (zFc _ _ _ _)
inductive Reach (ws:List Res) (free:Int):Nat→Nat→Int→Prop
 | zero (v:Nat):Reach ws free 0 v 0
 | step {k:Nat} {v:Nat} {G:Int} (w:Res):Reach ws free k v G→w ∈ ws→free≤w.room→w.start=v→Reach ws free (k+1) w.to (G+w.gain)
theorem zMx {ws:List Res} {free:Int} {k v:Nat} {G:Int} (h:Reach ws free k v G):∀ m,k≤m→G≤(rlN ws free m).g v:=by
 induction h with
 | zero v=>exact fun m _=>zH7 ws free v m 0 (Nat.zero_le _)
 | step w h hw hr hs ih=>
   intro m hm
   obtain ⟨m,rfl⟩:∃ x,m=x+1:=⟨m - 1,by omega⟩
   have h1:=ih m (by omega)
   obtain ⟨i,hi,e⟩:=List.getElem_of_mem hw
   have hd:ws.getD i default=w:=by rw [List.getD_eq_getElem?_getD,List.getElem?_eq_getElem hi,e];rfl
   subst hs
   have h2:=z5d ws free ⟨(rlN ws free m).g,(rlN ws free m).p,-1⟩ w.start i 0 (Nat.zero_le _)
   have h2:(rlN ws free m).g w.start≤(rlGo ws free ⟨(rlN ws free m).g,(rlN ws free m).p,-1⟩ i).g w.start:=h2
   have h3:=z5d ws free ⟨(rlN ws free m).g,(rlN ws free m).p,-1⟩ w.to ws.length (i+1) (by omega)
   have h4:(rlGo ws free ⟨(rlN ws free m).g,(rlN ws free m).p,-1⟩ i).g w.start+w.gain≤(rlGo ws free ⟨(rlN ws free m).g,(rlN ws free m).p,-1⟩ (i+1)).g w.to:=by
    show _≤(rlAt free _ (ws.getD i default) i).g w.to
    rw [hd]
    unfold rlAt
    split
    · show _≤updF _ _ _ _
      unfold updF
      rw [if_pos rfl];exact Int.le_refl _
    · rename_i hn
      have:¬ (rlGo ws free ⟨(rlN ws free m).g,(rlN ws free m).p,-1⟩ i).g w.start+w.gain > (rlGo ws free ⟨(rlN ws free m).g,(rlN ws free m).p,-1⟩ i).g w.to:=fun hh=>hn ⟨hr,hh⟩
      omega
   have h5:(rlN ws free (m+1)).g w.to=(rlGo ws free ⟨(rlN ws free m).g,(rlN ws free m).p,-1⟩ ws.length).g w.to:=rfl
   omega
def byW (ws:List Res) (s:Rl) (v:Nat):Res:=ws.getD (s.p v).toNat default
structure RlI (ws:List Res) (free:Int) (s:Rl) (T:Nat→Nat) (N:Nat):Prop where
 edge:∀ v,s.p v ≠ -1→((0≤s.p v∧(s.p v).toNat < ws.length)∧byW ws s v ∈ ws∧(byW ws s v).to=v∧free≤(byW ws s v).room)∧s.g v≤s.g (byW ws s v).start+(byW ws s v).gain∧(T v < T (byW ws s v).start→s.g v < s.g (byW ws s v).start+(byW ws s v).gain)
 root:∀ v,s.p v=-1→s.g v=0
 pos:∀ v,s.p v ≠ -1→0 < T v
 top:∀ v,T v≤N
 inj:∀ u v,T u=T v→0 < T u→u=v
theorem RlI.at {ws:List Res} {free:Int} (hse:∀ w ∈ ws,w.start ≠ w.to) {s:Rl} {T:Nat→Nat} {N:Nat} (h:RlI ws free s T N) {i:Nat} (hi:i < ws.length):∃ T' N',RlI ws free (rlAt free s (ws.getD i default) i) T' N':=by
 obtain ⟨w,hw⟩:∃ w,w=ws.getD i default:=⟨_,rfl⟩
 have hwm:w ∈ ws:=by
  rw [hw,List.getD_eq_getElem?_getD,List.getElem?_eq_getElem hi]
  exact List.getElem_mem hi
 rw [← hw]
 by_cases hc:free≤w.room∧s.g w.start+w.gain > s.g w.to
 · have e:rlAt free s w i=⟨updF s.g w.to (s.g w.start+w.gain),updF s.p w.to i,w.to⟩:=if_pos hc
   rw [e]
   have hne:=hse w hwm
   refine ⟨fun v=>if v=w.to then N+1 else T v,N+1,fun v hv=>?_,fun v hv=>?_,fun v hv=>?_,fun v=>?_,fun u v huv hp=>?_⟩
   · by_cases ev:v=w.to
     · subst ev
       have hb:byW ws ⟨updF s.g w.to (s.g w.start+w.gain),updF s.p w.to i,w.to⟩ w.to=w:=by
        unfold byW
        simp only [updF,if_true,Int.toNat_natCast]
        exact hw.symm
       have hp:(updF s.p w.to (i:Int)) w.to=(i:Int):=if_pos rfl
       rw [hb]
       refine ⟨⟨⟨by show 0≤updF s.p w.to (i:Int) w.to;rw [hp];omega,by show (updF s.p w.to (i:Int) w.to).toNat < _;rw [hp,Int.toNat_natCast];exact hi⟩,hwm,rfl,hc.1⟩,?_,fun hT=>?_⟩
       · show updF s.g w.to _ w.to≤updF s.g w.to _ w.start+w.gain
         unfold updF
         rw [if_pos rfl,if_neg hne];exact Int.le_refl _
       · rw [if_pos rfl,if_neg hne] at hT
         have:=h.top w.start
         omega
     · have hp:(updF s.p w.to (i:Int)) v=s.p v:=if_neg ev
       have hv:s.p v ≠ -1:=by
        have hv:updF s.p w.to (i:Int) v ≠ -1:=hv
        rwa [hp] at hv
       have hb:byW ws ⟨updF s.g w.to (s.g w.start+w.gain),updF s.p w.to i,w.to⟩ v=byW ws s v:=by
        unfold byW
        show ws.getD (updF s.p w.to (i:Int) v).toNat default=_
        rw [hp]
       obtain ⟨h1,h2,h3⟩:=h.edge v hv
       rw [hb]
       refine ⟨?_,?_,fun hT=>?_⟩
       · show (0≤updF s.p w.to (i:Int) v∧(updF s.p w.to (i:Int) v).toNat < _)∧_
         rw [hp];exact h1
       · show updF s.g w.to _ v≤updF s.g w.to _ (byW ws s v).start+_
         unfold updF
         rw [if_neg ev]
         split
         · rename_i e2;rw [e2] at h2;omega
         · exact h2
       · rw [if_neg ev] at hT
         show updF s.g w.to _ v < updF s.g w.to _ (byW ws s v).start+_
         unfold updF
         rw [if_neg ev]
         split
         · rename_i e2;rw [e2] at h2;omega
         · rename_i e2
           rw [if_neg e2] at hT
           exact h3 hT
   · by_cases ev:v=w.to
     · subst ev
       have hv:updF s.p w.to (i:Int) w.to=-1:=hv
       unfold updF at hv
       rw [if_pos rfl] at hv
       omega
     · have hv:updF s.p w.to (i:Int) v=-1:=hv
       show updF s.g w.to _ v=0
       unfold updF at hv ⊢
       rw [if_neg ev] at hv ⊢
       exact h.root v hv
   · by_cases ev:v=w.to
     · rw [if_pos ev];omega
     · have hv:updF s.p w.to (i:Int) v ≠ -1:=hv
       unfold updF at hv
       rw [if_neg ev] at hv ⊢
       exact h.pos v hv
   · have:=h.top v
     show (if v=w.to then N+1 else T v)≤N+1
     split <;> omega
   · have t1:=h.top u
     have t2:=h.top v
     have huv:(if u=w.to then N+1 else T u)=if v=w.to then N+1 else T v:=huv
     have hp:0 < if u=w.to then N+1 else T u:=hp
     by_cases e1:u=w.to
     · by_cases e2:v=w.to
       · rw [e1,e2]
       · rw [if_pos e1,if_neg e2] at huv;omega
     · by_cases e2:v=w.to
       · rw [if_neg e1,if_pos e2] at huv;omega
       · rw [if_neg e1,if_neg e2] at huv
         rw [if_neg e1] at hp
         exact h.inj u v huv hp
 · have e:rlAt free s w i=s:=if_neg hc
   rw [e]
   exact ⟨T,N,h⟩
theorem RlI.go {ws:List Res} {free:Int} (hse:∀ w ∈ ws,w.start ≠ w.to) {s:Rl} {T:Nat→Nat} {N:Nat} (h:RlI ws free s T N):∀ i,i≤ws.length→∃ T' N',RlI ws free (rlGo ws free s i) T' N'
 | 0,_=>⟨T,N,h⟩
 | i+1,hi=>by
   obtain ⟨T1,N1,h1⟩:=RlI.go hse h i (by omega)
   exact h1.at hse (by omega)
theorem RlI.rounds {ws:List Res} {free:Int} (hse:∀ w ∈ ws,w.start ≠ w.to):∀ k,∃ T N,RlI ws free (rlN ws free k) T N
 | 0=>⟨fun _=>0,0,fun v hv=>absurd rfl hv,fun v _=>rfl,fun v hv=>absurd rfl hv,fun v=>Nat.le_refl _,fun u v _ h=>absurd h (by decide)⟩
 | k+1=>by
   obtain ⟨T,N,h⟩:=RlI.rounds hse k
   have h':RlI ws free ⟨(rlN ws free k).g,(rlN ws free k).p,-1⟩ T N:=⟨h.edge,h.root,h.pos,h.top,h.inj⟩
   exact h'.go hse _ (Nat.le_refl _)
theorem zAL {ws:List Res} {free:Int} {s:Rl} (hs:s.last=-1):∀ i,i≤ws.length→((rlGo ws free s i).last=-1∧rlGo ws free s i=s∧∀ j,j < i→free≤(ws.getD j default).room→s.g (ws.getD j default).start+(ws.getD j default).gain≤s.g (ws.getD j default).to) ∨
    ∃ w ∈ ws,(rlGo ws free s i).last=w.to∧s.g w.to < (rlGo ws free s i).g w.to
 | 0,_=>.inl ⟨hs,rfl,fun j hj=>absurd hj (Nat.not_lt_zero _)⟩
 | i+1,hi=>by
   have hwm:ws.getD i default ∈ ws:=by
    rw [List.getD_eq_getElem?_getD,List.getElem?_eq_getElem (show i < ws.length by omega)]
    exact List.getElem_mem (show i < ws.length by omega)
   have e:rlGo ws free s (i+1)=rlAt free (rlGo ws free s i) (ws.getD i default) i:=rfl
   rw [e]
   obtain ⟨w,hw⟩:∃ w,w=ws.getD i default:=⟨_,rfl⟩
   rw [← hw] at hwm ⊢
   by_cases hc:free≤w.room∧(rlGo ws free s i).g w.start+w.gain > (rlGo ws free s i).g w.to
   · have e:rlAt free (rlGo ws free s i) w i=⟨updF (rlGo ws free s i).g w.to ((rlGo ws free s i).g w.start+w.gain),updF (rlGo ws free s i).p w.to i,w.to⟩:=if_pos hc
     rw [e]
     refine .inr ⟨w,hwm,rfl,?_⟩
     have h1:=z5d ws free s w.to i 0 (Nat.zero_le _)
     have h1:s.g w.to≤(rlGo ws free s i).g w.to:=h1
     show _ < updF _ _ _ _
     unfold updF
     rw [if_pos rfl];omega
   · have e:rlAt free (rlGo ws free s i) w i=rlGo ws free s i:=if_neg hc
     rw [e]
     rcases zAL (ws:=ws) (free:=free) hs i (by omega) with ⟨h1,h2,h3⟩ | h
     · refine .inl ⟨h1,h2,fun j hj hr=>?_⟩
       by_cases ej:j=i
       · subst ej
         rw [← hw] at hr ⊢
         rw [h2] at hc
         have:¬ s.g w.start+w.gain > s.g w.to:=fun hh=>hc ⟨hr,hh⟩
         omega
       · exact h3 j (by omega) hr
     · exact .inr h
theorem zIK {ws:List Res} {free:Int} {k:Nat} (h:(rlN ws free (k+1)).last < 0):∃ P:Nat→Int,∀ w ∈ ws,free≤w.room→P w.start+w.gain≤P w.to:=by
 rcases zAL (ws:=ws) (free:=free) (s:=⟨(rlN ws free k).g,(rlN ws free k).p,-1⟩) rfl ws.length (Nat.le_refl _) with ⟨_,_,h3⟩ | ⟨w,_,h1,_⟩
 · refine ⟨(rlN ws free k).g,fun w hw hr=>?_⟩
   obtain ⟨i,hi,e⟩:=List.getElem_of_mem hw
   have hd:ws.getD i default=w:=by rw [List.getD_eq_getElem?_getD,List.getElem?_eq_getElem hi,e];rfl
   have:=h3 i hi
   rw [hd] at this
   exact this hr
 · have h1:(rlN ws free (k+1)).last=w.to:=h1
   omega
theorem zBl {ws:List Res} {free:Int} {k:Nat} (h:¬ (rlN ws free (k+1)).last < 0):∃ w ∈ ws,(rlN ws free (k+1)).last=w.to∧(rlN ws free k).g w.to < (rlN ws free (k+1)).g w.to:=by
 rcases zAL (ws:=ws) (free:=free) (s:=⟨(rlN ws free k).g,(rlN ws free k).p,-1⟩) rfl ws.length (Nat.le_refl _) with ⟨h1,_,_⟩ | ⟨w,hw,h1,h2⟩
 · have h1:(rlN ws free (k+1)).last=-1:=h1
   omega
 · exact ⟨w,hw,h1,h2⟩
def z09 (ws:List Res) (s:Rl):Nat→Nat→Nat
 | v,0=>v
 | v,j+1=>z09 ws s (byW ws s v).start j
theorem z1i (ws:List Res) (s:Rl):∀ (a b v:Nat),z09 ws s v (a+b)=z09 ws s (z09 ws s v a) b
 | 0,b,v=>by rw [Nat.zero_add];rfl
 | a+1,b,v=>by
   rw [show a+1+b=(a+b)+1 by omega]
   show z09 ws s _ (a+b)=_
   exact z1i ws s a b _
theorem z6a (ws:List Res) (s:Rl) (v j:Nat):z09 ws s v (j+1)=(byW ws s (z09 ws s v j)).start:=z1i ws s j 1 v
def cycS (ws:List Res) (s:Rl):Nat→Nat→List Res
 | _,0=>[]
 | v,d+1=>byW ws s v :: cycS ws s (byW ws s v).start d
theorem zBO (ws:List Res) (s:Rl):∀ (d v:Nat),(∀ j,j < d→(byW ws s (z09 ws s v j)).to=z09 ws s v j)→RChain v (cycS ws s v d) (z09 ws s v d)
 | 0,v,_=>rfl
 | d+1,v,h=>⟨h 0 (Nat.succ_pos _),zBO ws s d _ fun j hj=>h (j+1) (by omega)⟩
theorem zGS (ws:List Res) (s:Rl):∀ (d v:Nat) (w:Res),w ∈ cycS ws s v d→∃ j,j < d∧w=byW ws s (z09 ws s v j)
 | 0,v,w,h=>by cases h
 | d+1,v,w,h=>by
   rcases List.mem_cons.1 h with rfl | h
   · exact ⟨0,Nat.succ_pos _,rfl⟩
   · obtain ⟨j,hj,e⟩:=zGS ws s d _ w h
     exact ⟨j+1,by omega,e⟩
theorem z86 (ws:List Res) (s:Rl):∀ (d v:Nat),(cycS ws s v d).map (·.start)=(List.range d).map fun j=>z09 ws s v (j+1)
 | 0,v=>rfl
 | d+1,v=>by
   rw [List.range_succ_eq_map,List.map_cons,List.map_map]
   show (byW ws s v).start :: (cycS ws s _ d).map (·.start)=_
   rw [z86 ws s d];rfl
theorem z7Y {m:Nat} {f:Nat→Nat} (h:∀ i j,i < j→j < m→f i ≠ f j):((List.range m).map f).Nodup:=by
 induction m with
 | zero=>exact List.nodup_nil
 | succ m ih=>
   rw [List.range_succ,List.map_append,List.nodup_append]
   refine ⟨ih fun i j h1 h2=>h i j h1 (by omega),by simp,fun a ha b hb=>?_⟩
   obtain ⟨i,hi,rfl⟩:=List.mem_map.1 ha
   simp only [List.map_cons,List.map_nil,List.mem_singleton] at hb
   subst hb
   exact h i m (List.mem_range.1 hi) (by omega)
theorem zDo (P:Nat→Prop):∀ n,P n→∃ m,P m∧m≤n∧∀ k,k < m→¬ P k:=by
 intro n
 induction n using Nat.strongRecOn with
 | ind n ih=>
   intro h
   by_cases hk:∃ k,k < n∧P k
   · obtain ⟨k,h1,h2⟩:=hk
     obtain ⟨m,a,b,c⟩:=ih k h1 h2
     exact ⟨m,a,by omega,c⟩
   · exact ⟨n,h,Nat.le_refl _,fun k h1 h2=>hk ⟨k,h1,h2⟩⟩
theorem zBh {ws:List Res} {free:Int} {s:Rl} {T:Nat→Nat} {N:Nat} (h:RlI ws free s T N):∀ (k v:Nat),(∀ j,j < k→s.p (z09 ws s v j) ≠ -1)→∃ G,Reach ws free k v G∧s.g v≤s.g (z09 ws s v k)+G
 | 0,v,_=>⟨0,.zero v,by show s.g v≤s.g v+0;omega⟩
 | k+1,v,hj=>by
   obtain ⟨G,h1,h2⟩:=zBh h k (byW ws s v).start fun j hj'=>hj (j+1) (by omega)
   obtain ⟨⟨_,e1,e2,e3⟩,e4,_⟩:=h.edge v (hj 0 (Nat.succ_pos _))
   have h3:=Reach.step (byW ws s v) h1 e1 e3 rfl
   rw [e2] at h3
   refine ⟨_,h3,?_⟩
   show s.g v≤s.g (z09 ws s (byW ws s v).start k)+_
   omega
theorem zQ0 {ws:List Res} {free:Int} {n:Nat} (hn:∀ w ∈ ws,w.start < n∧w.to < n) (hse:∀ w ∈ ws,w.start ≠ w.to) {w:Res} (hw:w ∈ ws) (hlt:(rlN ws free n).g w.to < (rlN ws free (n+1)).g w.to):
    ∀ k,(rlN ws free (n+1)).p (z09 ws (rlN ws free (n+1)) w.to k) ≠ -1∧z09 ws (rlN ws free (n+1)) w.to k < n:=by
 obtain ⟨T,N,h⟩:=RlI.rounds hse (ws:=ws) (free:=free) (n+1)
 generalize hs:rlN ws free (n+1)=s at h hlt ⊢
 intro k
 induction k using Nat.strongRecOn with
 | ind k ih=>
   have hlt':∀ j,j≤k→z09 ws s w.to j < n:=fun j hj=>by
    cases j with
    | zero=>exact (hn w hw).2
    | succ j=>
      rw [z6a]
      obtain ⟨⟨_,e,_⟩,_⟩:=h.edge _ (ih j (by omega)).1
      exact (hn _ e).1
   refine ⟨fun hk=>?_,hlt' k (Nat.le_refl _)⟩
   have hd:∀ i j,i < j→j < k+1→z09 ws s w.to i ≠ z09 ws s w.to j:=fun i j h1 h2 e=>by
    have e2:z09 ws s w.to (i+(k - j))=z09 ws s w.to k:=by
     rw [z1i,e,← z1i]
     congr 1;omega
    have:=(ih (i+(k - j)) (by omega)).1
    rw [e2] at this
    exact this hk
   have hle:=z7X (z7Y hd) (N:=n) fun v hv=>by
    obtain ⟨j,hj,rfl⟩:=List.mem_map.1 hv
    have:=List.mem_range.1 hj
    exact hlt' j (by omega)
   rw [List.length_map,List.length_range] at hle
   obtain ⟨G,h1,h2⟩:=zBh h k w.to fun j hj=>(ih j hj).1
   rw [h.root _ hk] at h2
   have h3:=zMx h1 n (by omega)
   omega
theorem zGT {ws:List Res} {free:Int} (hse:∀ w ∈ ws,w.start ≠ w.to) {s:Rl} {T:Nat→Nat} {N:Nat} (h:RlI ws free s T N):∀ (d v:Nat),(∀ j,j≤d→s.p (z09 ws s v j) ≠ -1) →
    s.g v≤s.g (z09 ws s v d)+gsum (cycS ws s v d)∧(T (z09 ws s v d)+d≤T v ∨ s.g v < s.g (z09 ws s v d)+gsum (cycS ws s v d))
 | 0,v,_=>⟨by show s.g v≤s.g v+0;omega,.inl (Nat.le_refl _)⟩
 | d+1,v,hj=>by
   obtain ⟨h1,h2⟩:=zGT hse h d (byW ws s v).start fun j hj'=>hj (j+1) (by omega)
   obtain ⟨⟨_,e1,e2,e3⟩,e4,e5⟩:=h.edge v (hj 0 (Nat.zero_le _))
   have hpu:s.p (byW ws s v).start ≠ -1:=hj 1 (by omega)
   have hne:=hse _ e1
   rw [e2] at hne
   have eg:gsum (cycS ws s v (d+1))=(byW ws s v).gain+gsum (cycS ws s (byW ws s v).start d):=z4X _ _
   have ec:z09 ws s v (d+1)=z09 ws s (byW ws s v).start d:=rfl
   rw [eg,ec]
   refine ⟨by omega,?_⟩
   by_cases hT:T v < T (byW ws s v).start
   · have:=e5 hT
     exact .inr (by omega)
   · have hT2:T (byW ws s v).start < T v:=by
       rcases Nat.lt_or_ge (T (byW ws s v).start) (T v) with h3 | h3
       · exact h3
       · exact absurd (h.inj _ _ (by omega) (h.pos _ hpu)) hne
     rcases h2 with h2 | h2
     · exact .inl (by omega)
     · exact .inr (by omega)
structure RlEnd (ws:List Res) (free:Int) (n:Nat) (v:Nat) (d:Nat):Prop where
 d1:0 < d
 back:z09 ws (rlN ws free (n+1)) v d=v
 met:∀ j,0 < j→j < d→z09 ws (rlN ws free (n+1)) v j ≠ v
 lt:∀ j,z09 ws (rlN ws free (n+1)) v j < n
 by_:∀ j,(0≤(rlN ws free (n+1)).p (z09 ws (rlN ws free (n+1)) v j)∧((rlN ws free (n+1)).p (z09 ws (rlN ws free (n+1)) v j)).toNat < ws.length)∧byW ws (rlN ws free (n+1)) (z09 ws (rlN ws free (n+1)) v j) ∈ ws
 chain:RChain v (cycS ws (rlN ws free (n+1)) v d) v
 nodup:((cycS ws (rlN ws free (n+1)) v d).map (·.start)).Nodup
 free_:∀ w ∈ cycS ws (rlN ws free (n+1)) v d,w ∈ ws∧free≤w.room
 gain:0 < gsum (cycS ws (rlN ws free (n+1)) v d)
theorem zIL {ws:List Res} {free:Int} {n:Nat} (hn:∀ w ∈ ws,w.start < n∧w.to < n) (hse:∀ w ∈ ws,w.start ≠ w.to) {u:Nat} (hu:(rlN ws free (n+1)).last=(u:Int)):
    (∀ j,(0≤(rlN ws free (n+1)).p (z09 ws (rlN ws free (n+1)) u j)∧((rlN ws free (n+1)).p (z09 ws (rlN ws free (n+1)) u j)).toNat < ws.length)∧z09 ws (rlN ws free (n+1)) u j < n) ∧
      ∃ d,d≤n∧RlEnd ws free n (z09 ws (rlN ws free (n+1)) u n) d:=by
 obtain ⟨w,hw,h1,h2⟩:=zBl (ws:=ws) (free:=free) (k:=n) (by omega)
 have huw:u=w.to:=by omega
 subst huw
 have hr:=zQ0 hn hse hw h2
 obtain ⟨T,N,h⟩:=RlI.rounds hse (ws:=ws) (free:=free) (n+1)
 have edge:=fun j=>h.edge _ (hr j).1
 refine ⟨fun j=>⟨(edge j).1.1,(hr j).2⟩,?_⟩
 obtain ⟨s,hs⟩:∃ s,s=rlN ws free (n+1):=⟨_,rfl⟩
 have hpig:∃ i j,i < j∧j < n+1∧z09 ws s w.to i=z09 ws s w.to j:=by
  refine Classical.byContradiction fun hc=>?_
  have hd:∀ i j,i < j→j < n+1→z09 ws s w.to i ≠ z09 ws s w.to j:=fun i j a b e=>hc ⟨i,j,a,b,e⟩
  have hle:=z7X (z7Y hd) (N:=n) fun v hv=>by
   obtain ⟨j,hj,rfl⟩:=List.mem_map.1 hv
   rw [hs];exact (hr j).2
  rw [List.length_map,List.length_range] at hle
  omega
 obtain ⟨i,j,hij,hj,e⟩:=hpig
 have hper:z09 ws s (z09 ws s w.to n) (j - i)=z09 ws s w.to n:=by
  have e1:z09 ws s w.to n=z09 ws s (z09 ws s w.to i) (n - i):=by
   rw [← z1i];congr 1;omega
  rw [← z1i,show n+(j - i)=j+(n - i) by omega,z1i,← e,← e1]
 obtain ⟨d,⟨hd1,hd2⟩,hd3,hd4⟩:=zDo (fun d=>0 < d∧z09 ws s (z09 ws s w.to n) d=z09 ws s w.to n) (j - i) ⟨by omega,hper⟩
 have hy:∀ k,z09 ws s (z09 ws s w.to n) k=z09 ws s w.to (n+k):=fun k=>(z1i ws s n k w.to).symm
 subst hs
 have hmet:∀ k,0 < k→k < d→z09 ws (rlN ws free (n+1)) (z09 ws (rlN ws free (n+1)) w.to n) k ≠ z09 ws (rlN ws free (n+1)) w.to n:=fun k a b e'=>hd4 k b ⟨a,e'⟩
 refine ⟨d,by omega,hd1,hd2,hmet,fun k=>by rw [hy];exact (hr _).2,fun k=>?_,?_,?_,fun x hx=>?_,?_⟩
 · rw [hy];exact ⟨(edge _).1.1,(edge _).1.2.1⟩
 · have:=zBO ws (rlN ws free (n+1)) d (z09 ws (rlN ws free (n+1)) w.to n) fun k hk=>by rw [hy];exact (edge _).1.2.2.1
   rwa [hd2] at this
 · rw [z86]
   refine z7Y fun a b hab hb e'=>?_
   have e2:z09 ws (rlN ws free (n+1)) (z09 ws (rlN ws free (n+1)) w.to n) (a+1+(d - (b+1)))=z09 ws (rlN ws free (n+1)) w.to n:=by
    rw [z1i,e',← z1i,show b+1+(d - (b+1))=d by omega]
    exact hd2
   exact hmet _ (by omega) (by omega) e2
 · obtain ⟨k,_,rfl⟩:=zGS ws _ d _ x hx
   rw [hy]
   exact ⟨(edge _).1.2.1,(edge _).1.2.2.2⟩
 · obtain ⟨_,hg⟩:=zGT hse h d (z09 ws (rlN ws free (n+1)) w.to n) fun k _=>by rw [hy];exact (hr _).1
   rw [hd2] at hg
   rcases hg with hg | hg
   · omega
   · omega
end Go.Proofs.Ytgfejpngfikjiaa.Tidy
namespace Go.Proofs.Ytgfejpngfikjiaa.Tidy
open Go Go.IntWalk
set_option maxRecDepth 10000
set_option linter.unusedSimpArgs false
set_option maxHeartbeats 2000000
def z2R (C:Nat) (c:CutA) (i k:Nat):List Nat:=((List.range k).filter fun k=>c.l1.getD i false && c.l2.getD k false).map (i * C+·)
theorem zF8 (C:Nat) (c:CutA) (i k:Nat):z2R C c i (k+1)=if c.l1.getD i false && c.l2.getD k false then z2R C c i k++[i * C+k] else z2R C c i k:=by
 unfold z2R
 rw [List.range_succ,List.filter_append,List.filter_cons,List.filter_nil]
 by_cases h:(c.l1.getD i false && c.l2.getD k false)=true
 · rw [if_pos h,if_pos h,List.map_append];rfl
 · rw [if_neg h,if_neg h,List.append_nil]
theorem z76 (C:Nat) (c:CutA) (i k:Nat):(z2R C c i k).length≤k:=by
 unfold z2R
 rw [List.length_map]
 have:=List.length_filter_le (fun k=>c.l1.getD i false && c.l2.getD k false) (List.range k)
 simpa using this
def blkH (T:TabV) (c:CutA) (g:Nat) (f:Nat→Int) (gt:Nat) (l:List Nat):Heap:=[boxT T,.cells 0 2 false [c.v],.cells 0 2 true [.agg [.int .i64 0,.int .i64 0]],boxT T,boxT T,arcB g T.tab.net f,netB T.tab.R T.tab.C 5 g T.tab.net.n,z0B 6,accB 1 gt (natsV l)]
theorem zJH {T:TabV} (hO:T.tab.Ok) {c:CutA} (hc:c.Wf) (h1:c.l1.length=T.tab.R) (h2:c.l2.length=T.tab.C) (g:Nat) (f:Nat→Int) {i:Nat} (hi:i < T.tab.R) (l:List Nat) (hl:l.length≤64):∀ (n k gt:Nat) (j0 j1 j2 j5 j7 j10 j11 j12 j13 j14 j15 j16 j17 j18 j19 j20 j21 j22 j23 j24 j25 j26 j27 j30 j31 j32 j33 j34 j37 j38 j39 j40 j41 j42 j43 j44 j45 j46 j47 j48 j49 j50 j51 j52 j53 j54 j55 j56 j57 j58 j59 j60 j61 j62:AVal),k+n=T.tab.C →
    Goes (execT env (Try.f32.at [1,1,1,1,1,0,1,0,0,1,1,0,0,1,1,0]) ⟨[j0,j1,j2,.ptr 1 0 0 0,.ptr 2 0 0 0,j5,.ptr 6 0 0 0,j7,.ref 8 (accG gt (natsV (l++z2R T.tab.C c i k))) 0 (l++z2R T.tab.C c i k).length false,.int .i64 i,j10,j11,j12,j13,j14,j15,j16,j17,j18,j19,j20,j21,j22,j23,j24,j25,j26,j27,.int .i64 T.tab.R,.int .i64 i,j30,j31,j32,j33,j34,.int .i64 T.tab.C,.int .i64 k,j37,j38,j39,j40,j41,j42,j43,j44,j45,j46,j47,j48,j49,j50,j51,j52,j53,j54,j55,j56,j57,j58,j59,j60,j61,j62],blkH T c g f gt (l++z2R T.tab.C c i k),[],0,[8]⟩) fun e s=>
     e=.exit 2∧∃ (gt:Nat),FrP 63 [(3,.ptr 1 0 0 0),(4,.ptr 2 0 0 0),(6,.ptr 6 0 0 0),(8,.ref 8 (accG gt (natsV (l++z2R T.tab.C c i T.tab.C))) 0 (l++z2R T.tab.C c i T.tab.C).length false),(28,.int .i64 T.tab.R),(29,.int .i64 i)] (blkH T c g f gt (l++z2R T.tab.C c i T.tab.C)) [] 0 [8] s:=by
 have hR8:=hO.R8
 have hC8:=hO.C8
 intro n
 induction n with
 | zero=>
   intro k gt;intros;rename_i hk
   have hd:decide ((k:Int) < (T.tab.C:Int))=false:=by simp;omega
   have:k=T.tab.C:=by omega
   subst this
   simp only [go_sem,simprocAttr,Try.f32]
   rw [exec_loop]
   simp only [go_sem,simprocAttr,hd]
   exact ⟨gt,frP (by kernel_rfl)⟩
 | succ n ih=>
   intro k gt;intros;rename_i hk
   have hd:decide ((k:Int) < (T.tab.C:Int))=true:=by simp;omega
   have k0:(0:Int)≤(k:Int):=by omega
   have i0:(0:Int)≤(i:Int):=by omega
   have hz1:=z1b hc.s1 (List.getElem?_eq_getElem (show i < c.l1.length by omega))
   have hz2:=z1b hc.s2 (List.getElem?_eq_getElem (show k < c.l2.length by omega))
   have g1:=z0f (l:=c.l1) (i:=i) (by omega)
   have g2:=z0f (l:=c.l2) (i:=k) (by omega)
   have hlen:=z76 T.tab.C c i k
   have hll:(l++z2R T.tab.C c i k).length < 2 ^ 30:=by rw [List.length_append];omega
   have es:=zF8 T.tab.C c i k
   have hA:NetAt (blkH T c g f gt (l++z2R T.tab.C c i k)) 6 5 T.tab.R T.tab.C g T.tab.net.n (arcB g T.tab.net f):=⟨rfl,rfl,by decide,z0c _ _ _⟩
   have cc:=z46 hA (i:=i) (k:=k) (by omega) hC8 (by omega) 0 9
   obtain ⟨gt',ap⟩:=zBC (H:=blkH T c g f gt (l++z2R T.tab.C c i k)) (id:=8) (l:=l++z2R T.tab.C c i k) (j:=i * T.tab.C+k) (cl:=true) rfl hll 9 (ro:=0) (Nat.zero_le _)
   have iha:=ih (k+1) gt
   have ihb:=ih (k+1) gt'
   rw [es] at iha ihb
   rw [List.append_assoc] at ap
   simp only [blkH,boxT,netB,arcB,z0B] at cc ap
   cases hb1:c.l1.getD i false <;> cases hb2:c.l2.getD k false <;> rw [hb1] at iha ihb g1 <;> rw [hb2] at iha ihb g2 <;>
    simp only [go_sem,simprocAttr,Try.f32,blkH,boxT,netB,arcB,z0B,Bool.false_eq_true,if_false,if_true,Bool.and_true,Bool.and_false,Bool.and_self] at iha ihb ⊢ <;>
    rw [exec_loop] <;>
    simp only [go_sem,simprocAttr,hd,k0,i0,Int.toNat_natCast,hz1,hz2,g1,g2,cc,ap,z00 (show k < 2 ^ 63 - 1 by omega)] <;>
    first
    | exact iha _ _ _ _ _ _ _ _ _ _ _ _ _ _ _ _ _ _ _ _ _ _ _ _ _ _ _ _ _ _ _ _ _ _ _ _ _ _ _ _ _ _ _ _ _ _ _ _ _ _ _ _ _ _ (by omega)
    | exact ihb _ _ _ _ _ _ _ _ _ _ _ _ _ _ _ _ _ _ _ _ _ _ _ _ _ _ _ _ _ _ _ _ _ _ _ _ _ _ _ _ _ _ _ _ _ _ _ _ _ _ _ _ _ _ (by omega)
def blkL (C:Nat) (c:CutA) (n:Nat):List Nat:=(List.range n).flatMap fun i=>z2R C c i C
theorem zDO (C:Nat) (c:CutA) (n:Nat):blkL C c (n+1)=blkL C c n++z2R C c n C:=by simp [blkL,List.range_succ]
theorem z6Z (C:Nat) (c:CutA):∀ n,(blkL C c n).length≤n * C
 | 0=>by simp [blkL]
 | n+1=>by
   rw [zDO,List.length_append,Nat.succ_mul]
   have:=z6Z C c n
   have:=z76 C c n C
   omega
theorem zJI {T:TabV} (hO:T.tab.Ok) {c:CutA} (hc:c.Wf) (h1:c.l1.length=T.tab.R) (h2:c.l2.length=T.tab.C) (g:Nat) (f:Nat→Int):∀ (n i gt:Nat) (j0 j1 j2 j5 j7 j9 j10 j11 j12 j13 j14 j15 j16 j17 j18 j19 j20 j21 j22 j23 j24 j25 j26 j27 j30 j31 j32 j33 j34 j35 j36 j37 j38 j39 j40 j41 j42 j43 j44 j45 j46 j47 j48 j49 j50 j51 j52 j53 j54 j55 j56 j57 j58 j59 j60 j61 j62:AVal),i+n=T.tab.R →
    Goes (execT env (Try.f32.at [1,1,1,1,1,0,1,0]) ⟨[j0,j1,j2,.ptr 1 0 0 0,.ptr 2 0 0 0,j5,.ptr 6 0 0 0,j7,.ref 8 (accG gt (natsV (blkL T.tab.C c i))) 0 (blkL T.tab.C c i).length false,j9,j10,j11,j12,j13,j14,j15,j16,j17,j18,j19,j20,j21,j22,j23,j24,j25,j26,j27,.int .i64 T.tab.R,.int .i64 i,j30,j31,j32,j33,j34,j35,j36,j37,j38,j39,j40,j41,j42,j43,j44,j45,j46,j47,j48,j49,j50,j51,j52,j53,j54,j55,j56,j57,j58,j59,j60,j61,j62],blkH T c g f gt (blkL T.tab.C c i),[],0,[8]⟩) fun e s=>
     e=.exit 0∧∃ (gt:Nat),FrP 63 [(4,.ptr 2 0 0 0),(6,.ptr 6 0 0 0),(8,.ref 8 (accG gt (natsV (blkL T.tab.C c T.tab.R))) 0 (blkL T.tab.C c T.tab.R).length false)] (blkH T c g f gt (blkL T.tab.C c T.tab.R)) [] 0 [8] s:=by
 have hR8:=hO.R8
 have hC8:=hO.C8
 intro n
 induction n with
 | zero=>
   intro i gt;intros;rename_i hi
   have hd:decide ((i:Int) < (T.tab.R:Int))=false:=by simp;omega
   have:i=T.tab.R:=by omega
   subst this
   simp only [go_sem,simprocAttr,Try.f32]
   rw [exec_loop]
   simp only [go_sem,simprocAttr,hd]
   exact ⟨gt,frP (by kernel_rfl)⟩
 | succ n ih=>
   intro i gt;intros;rename_i hi
   have hiR:i < T.tab.R:=by omega
   have hd:decide ((i:Int) < (T.tab.R:Int))=true:=by simp;omega
   have hl:=z6Z T.tab.C c i
   have hl2:i * T.tab.C≤8 * 8:=Nat.mul_le_mul (by omega) hC8
   obtain ⟨ex,st,hx,hp⟩:=zJH hO hc h1 h2 g f hiR (blkL T.tab.C c i) (by omega) T.tab.C 0 gt _ _ _ _ _ _ _ _ _ _ _ _ _ _ _ _ _ _ _ _ _ _ _ _ _ _ _ _ _ _ _ _ _ _ _ _ _ _ _ _ _ _ _ _ _ _ _ _ _ _ _ _ _ _ (by omega)
   obtain ⟨rfl,gt',jp,rfl⟩:=hp
   have z0:z2R T.tab.C c i 0=[]:=rfl
   have ih':=ih (i+1) gt'
   rw [zDO] at ih'
   simp only [go_sem,simprocAttr,Try.f32,blkH,boxT,netB,arcB,z0B,z0,List.append_nil,Int.natCast_zero,Int.ofNat_zero] at hx
   simp only [go_sem,simprocAttr,Try.f32,blkH,boxT,netB,arcB,z0B] at ih' ⊢
   rw [exec_loop]
   simp only [go_sem,simprocAttr,hd]
   rw [hx]
   simp only [go_sem,simprocAttr,blkH,boxT,netB,arcB,z0B,z00 (show i < 2 ^ 63 - 1 by omega)]
   exact ih' _ _ _ _ _ _ _ _ _ _ _ _ _ _ _ _ _ _ _ _ _ _ _ _ _ _ _ _ _ _ _ _ _ _ _ _ _ _ _ _ _ _ _ _ _ _ _ _ _ _ _ _ _ _ _ _ _ (by omega)
set_option maxRecDepth 10000
set_option maxHeartbeats 2000000
def ctH (T:TabV) (g1 g2:Nat) (l1 l2:List Bool):Heap:=[boxT T,.cells 0 2 false [.agg [.lit true 0 [],.lit true 0 []]],accB 1 g1 (z0A l1),accB 1 g2 (z0A l2),.cells 0 2 false [.agg [.ref 2 (accG g1 (z0A l1)) 0 l1.length false,.ref 3 (accG g2 (z0A l2)) 0 l2.length false]]]
end Go.Proofs.Ytgfejpngfikjiaa.Tidy
namespace Go.Proofs.Ytgfejpngfikjiaa.Tidy
open Go
theorem zCd {C R:Nat} {c:CutA} {i k:Nat} (hi:i < R) (hk:k < C):(i * C+k ∈ blkL C c R) ↔ (c.l1.getD i false && c.l2.getD k false)=true:=by
 simp only [blkL,z2R,List.mem_flatMap,List.mem_map,List.mem_filter,List.mem_range]
 constructor
 · rintro ⟨i',hi',k',⟨hk',h⟩,e⟩
   have e1:i'=i:=by rw [← z5t (i:=i') hk',← z5t (i:=i) hk,e]
   subst e1
   have e2:k'=k:=by omega
   subst e2
   exact h
 · intro h
   exact ⟨i,hi,k,⟨hk,h⟩,rfl⟩
theorem zFU {C R:Nat} {c:CutA} {j:Nat} (hj:R * C≤j):j ∉ blkL C c R:=by
 simp only [blkL,z2R,List.mem_flatMap,List.mem_map,List.mem_filter,List.mem_range]
 rintro ⟨i',hi',k',⟨hk',h⟩,e⟩
 have:=z3P hi' hk'
 omega
theorem z4S (t:Tab) (c:CutA) (x:Nat→Nat→Int):t.brings (blkL t.C c t.R) x=sumN t.R fun i=>sumN t.C fun k=>if c.l1.getD i false && c.l2.getD k false then x i k else 0:=by
 unfold Tab.brings brings
 rw [show t.net.n=t.R * t.C+t.R+t.C from rfl,zA7]
 rw [z0q (n:=t.R) (f:=fun i=>z0U (blkL t.C c t.R) (t.R * t.C+i) * t.flow x (t.R * t.C+i)) fun i _=>by
     unfold z0U;rw [if_neg (zFU (by omega))];omega,
  z0q (n:=t.C) (f:=fun k=>z0U (blkL t.C c t.R) (t.R * t.C+t.R+k) * t.flow x (t.R * t.C+t.R+k)) fun i _=>by
   unfold z0U;rw [if_neg (zFU (by omega))];omega,Int.add_zero,Int.add_zero]
 refine z02 fun i hi=>z02 fun k hk=>?_
 rw [t.flow_cell x hi hk]
 unfold z0U
 by_cases h:(c.l1.getD i false && c.l2.getD k false)=true
 · rw [if_pos ((zCd hi hk).2 h),if_pos h];omega
 · rw [if_neg fun e=>h ((zCd hi hk).1 e),if_neg h];omega
theorem z28 (t:Tab) (x:Nat→Nat→Int):t.brings (z2N t t.R) x=sumN t.R fun i=>sumN t.C (x i):=by
 have m1:∀ j,j < t.R * t.C→j ∉ z2N t t.R:=by
  intro j hj h
  simp only [z2N,List.mem_map,List.mem_range] at h
  obtain ⟨i,_,e⟩:=h
  omega
 have m2:∀ i,i < t.R→t.R * t.C+i ∈ z2N t t.R:=by
  intro i hi
  simp only [z2N,List.mem_map,List.mem_range]
  exact ⟨i,hi,rfl⟩
 have m3:∀ k,t.R * t.C+t.R+k ∉ z2N t t.R:=by
  intro k h
  simp only [z2N,List.mem_map,List.mem_range] at h
  obtain ⟨i,hi,e⟩:=h
  omega
 unfold Tab.brings brings
 rw [show t.net.n=t.R * t.C+t.R+t.C from rfl,zA7]
 rw [z0q (n:=t.R) (f:=fun i=>sumN t.C fun k=>z0U (z2N t t.R) (i * t.C+k) * t.flow x (i * t.C+k)) fun i hi=>z0q fun k hk=>by
     unfold z0U;rw [if_neg (m1 _ (z3P hi hk))];omega,
  z0q (n:=t.C) (f:=fun k=>z0U (z2N t t.R) (t.R * t.C+t.R+k) * t.flow x (t.R * t.C+t.R+k)) fun k _=>by
   unfold z0U;rw [if_neg (m3 k)];omega,Int.add_zero,Int.zero_add]
 refine z02 fun i hi=>?_
 rw [t.flow_row x hi]
 unfold z0U
 rw [if_pos (m2 i hi)];omega
def EndsP (t:Tab) (μ:(Nat→Nat→Int)→Int) (x:Spn):Prop:=(∃ s,Fits t s∧μ s=x.lo)∧(∃ s,Fits t s∧μ s=x.hi)∧∀ s,Fits t s→x.lo≤μ s∧μ s≤x.hi
theorem EndsP.of {t:Tab} {l:List Nat} {lo hi:Int} (h:IsEnds t.net l lo hi) {μ:(Nat→Nat→Int)→Int} (e:∀ s,t.brings l s=μ s):EndsP t μ ⟨lo,hi⟩:=by
 obtain ⟨⟨s1,h1,e1⟩,⟨s2,h2,e2⟩,h3⟩:=z13.1 h
 exact ⟨⟨s1,h1,by rw [← e,e1]⟩,⟨s2,h2,by rw [← e,e2]⟩,fun s hs=>by rw [← e];exact h3 s hs⟩
theorem EndsP.unique {t:Tab} {μ ν:(Nat→Nat→Int)→Int} {x y:Spn} (h:EndsP t μ x) (h':EndsP t ν y) (e:∀ s,Fits t s→μ s=ν s):x=y:=by
 obtain ⟨⟨s1,a1,b1⟩,⟨s2,a2,b2⟩,c⟩:=h
 obtain ⟨⟨s3,a3,b3⟩,⟨s4,a4,b4⟩,c'⟩:=h'
 have e1:=c' s1 a1
 have e2:=c' s2 a2
 have e3:=c s3 a3
 have e4:=c s4 a4
 rw [← e _ a1] at e1
 rw [← e _ a2] at e2
 rw [e _ a3] at e3
 rw [e _ a4] at e4
 have q1:x.lo=y.lo:=by omega
 have q2:x.hi=y.hi:=by omega
 cases x;cases y
 simp only at q1 q2
 rw [q1,q2]
theorem EndsP.le {t:Tab} {μ:(Nat→Nat→Int)→Int} {x:Spn} (h:EndsP t μ x):x.lo≤x.hi:=by
 obtain ⟨⟨s1,a1,b1⟩,_,c⟩:=h
 have:=c s1 a1
 omega
def blkM (t:Tab) (p q:Nat→Bool) (x:Nat→Nat→Int):Int:=sumN t.R fun i=>sumN t.C fun k=>if p i && q k then x i k else 0
theorem z0u {t:Tab} {p p' q q':Nat→Bool} (hp:∀ i,i < t.R→p i=p' i) (hq:∀ k,k < t.C→q k=q' k) (x:Nat→Nat→Int):blkM t p q x=blkM t p' q' x:=
 z02 fun i hi=>z02 fun k hk=>by rw [hp i hi,hq k hk]
theorem zCB (t:Tab) (x:Nat→Nat→Int):blkM t (fun _=>true) (fun _=>true) x=sumN t.R fun i=>sumN t.C (x i):=rfl
abbrev RowD:=Nat × List AVal
def rowT (sz:Nat):Nat→List RowD→Heap
 | _,[]=>[]
 | p,r :: rs=>.cells r.1 sz true r.2 :: .cells 0 1 false [.ref p r.1 0 r.2.length false] :: rowT sz (p+2) rs
def rowR:Nat→List RowD→List AVal
 | _,[]=>[]
 | p,r :: rs=>.ref p r.1 0 r.2.length false :: rowR (p+2) rs
theorem z14 (sz:Nat):∀ (rs:List RowD) (p:Nat),(rowT sz p rs).length=2 * rs.length
 | [],_=>rfl
 | r :: rs,p=>by simp only [rowT,List.length_cons,z14 sz rs];omega
theorem z1O:∀ (rs:List RowD) (p:Nat),(rowR p rs).length=rs.length
 | [],_=>rfl
 | r :: rs,p=>by simp only [rowR,List.length_cons,z1O rs]
theorem z4f (sz:Nat) (r:RowD):∀ (rs:List RowD) (p:Nat),rowT sz p (rs++[r])=rowT sz p rs++[.cells r.1 sz true r.2,.cells 0 1 false [.ref (p+2 * rs.length) r.1 0 r.2.length false]]
 | [],p=>rfl
 | x :: rs,p=>by
   simp only [List.cons_append,rowT,z4f sz r rs,List.length_cons]
   rw [show p+2+2 * rs.length=p+2 * (rs.length+1) by omega]
theorem z3x (r:RowD):∀ (rs:List RowD) (p:Nat),rowR p (rs++[r])=rowR p rs++[.ref (p+2 * rs.length) r.1 0 r.2.length false]
 | [],p=>rfl
 | x :: rs,p=>by
   simp only [List.cons_append,rowR,z3x r rs,List.length_cons]
   rw [show p+2+2 * rs.length=p+2 * (rs.length+1) by omega]
theorem z6D (sz:Nat):∀ (rs:List RowD) (p i:Nat) (r:RowD),rs[i]?=some r→(rowT sz p rs)[2 * i]?=some (.cells r.1 sz true r.2)
 | [],_,i,r,h=>by simp at h
 | x :: rs,p,0,r,h=>by simp at h;subst h;rfl
 | x :: rs,p,i+1,r,h=>by
   simp only [List.getElem?_cons_succ] at h
   have:=z6D sz rs (p+2) i r h
   rw [show 2 * (i+1)=2 * i+1+1 by omega]
   simpa [rowT] using this
theorem z9A:∀ (rs:List RowD) (p i:Nat) (r:RowD),rs[i]?=some r→(rowR p rs)[i]?=some (.ref (p+2 * i) r.1 0 r.2.length false)
 | [],_,i,r,h=>by simp at h
 | x :: rs,p,0,r,h=>by simp at h;subst h;rfl
 | x :: rs,p,i+1,r,h=>by
   simp only [List.getElem?_cons_succ] at h
   have:=z9A rs (p+2) i r h
   rw [show p+2 * (i+1)=p+2+2 * i by omega]
   simpa [rowR] using this
def accR (g p:Nat) (rs:List RowD):Blk:=if rs=[] then .cells 0 0 false [] else .cells g 1 false (rowR p rs)
def gR (g:Nat) (rs:List RowD):Nat:=if rs=[] then 0 else g
theorem zGG (g p:Nat):accR g p []=.cells 0 0 false []:=rfl
theorem zK1 (g:Nat):gR g []=0:=rfl
theorem z82 {t e n m:Nat} {z:AVal} {te:TI} (ht:env.ti t=some ⟨.slice e,n,m,z⟩) (he:env.ti e=some te) (hz:te.sz=1∧te.bytes=24∧te.zero.cellsOf.length=1∧te.zero.isTuple=false) (hfl:z0r env 8 e=false)
    {H:Heap} {q j g p:Nat} {rs:List RowD} {r:RowD} {cl:Bool} (hH:H[q]?=some (accR g p rs)) (hj:H[j]?=some (.cells 0 1 false [.ref (p+2 * rs.length) r.1 0 r.2.length false])) (hb:rs.length < 2 ^ 20) (nx:Nat) {ro:Nat} (hro:ro≤q):
    ∃ g',z0H env ro nx t (.ref q (gR g rs) 0 rs.length false) (.ref j 0 0 1 cl) H=some (.ref q (gR g' (rs++[r])) 0 (rs++[r]).length false,[(q,accR g' p (rs++[r]))]):=by
 have hne:∀ l:List RowD,l++[r] ≠ []:=by simp
 obtain ⟨z1,z2,z3,z4⟩:=hz
 have hel:z16 H (.ref j 0 0 1 cl)=some (1,[.ref (p+2 * rs.length) r.1 0 r.2.length false]):=by simp [z16,hj]
 by_cases h:rs=[]
 · subst h
   refine ⟨1,?_⟩
   simp only [List.length_nil] at hel
   simp only [accR,gR,if_true,List.nil_append] at hH ⊢
   simp [z0H,ht,he,hel,z1,z2,z3,z4,hH,hfl,hro,rowR,z04]
 · have hgr:=append_ref (E:=env) (ro:=ro) (nx:=nx) (t:=t) (e:=e) (n:=n) (m:=m) (z:=z) (te:=te) (H:=H) (id:=q) (g:=g) (len:=rs.length) (x:=.ref j 0 0 1 cl) (nsz:=1) (new:=[.ref (p+2 * rs.length) r.1 0 r.2.length false]) (fl:=false) (bs:=rowR p rs) ht he hel ⟨by omega,by omega,z4⟩ z1.symm (by simp)
     (by rw [hH,accR,if_neg h,z1]) (z1O rs p) (List.length_pos_iff.2 h) hro (by rw [z2];simp only [List.length_singleton,z04];omega) (fun h=>by cases h)
   refine ⟨g+1,?_⟩
   simp only [gR,if_neg h,if_neg (hne rs),accR]
   rw [hgr,z1,z3x]
   simp
section
variable {A B:Heap} {g sz:Nat} {rs:List RowD}
end
theorem z2k {m:Nat} {T:List AVal} {H:Heap} {df:List (Nat × List AVal)} {ro:Nat} {V:List Nat} {i g sz:Nat} {es:List AVal} {p g' o n:Nat} {cl:Bool} (hi:i < m) (hb:H[i]?=some (.cells g sz false es)) (hr:AVal.ref p g' o n cl ∈ es) (hp:m≤p):trunc m ⟨T,H,df,ro,V⟩=⟨T,H,df,ro,V⟩:=by
 unfold trunc
 by_cases h1:H.length≤m
 · simp only [h1,if_true]
 · have h2:(H.take m).all (underB m)=false:=by
     cases h:(H.take m).all (underB m) with
     | false=>rfl
     | true=>
       have h3:(H.take m)[i]?=some (.cells g sz false es):=by rw [List.getElem?_take,if_pos hi,hb]
       have h4:=List.all_eq_true.1 h _ (List.mem_of_getElem? h3)
       simp only [underB,Bool.false_or] at h4
       have h5:=underL_mem h4 _ hr
       simp only [AVal.under,decide_eq_true_eq] at h5
       omega
   simp only [h1,if_false,h2,Bool.false_and,Bool.false_eq_true]
theorem z0W {X:Heap} {nx:Nat} (hX:X.length=nx) (b b':Blk):(X++[b]).set nx b'=X++[b']:=by
 subst hX
 rw [List.set_append_right _ _ (by omega),Nat.sub_self];rfl
theorem z07 {X:Heap} {nx:Nat} (hX:X.length=nx) (b:Blk):(X++[b])[nx]?=some b:=by
 subst hX;simp
theorem z06 {X:Heap} {nx:Nat} (hX:X.length=nx) (b:Blk):(X++[b]).length=nx+1:=by simp [hX]
end Go.Proofs.Ytgfejpngfikjiaa.Tidy
namespace Go.Proofs.Ytgfejpngfikjiaa.Tidy
open Go Go.IntWalk
set_option maxRecDepth 10000
set_option linter.unusedSimpArgs false
set_option maxHeartbeats 4000000
def rowA (t:Tab) (i:Nat):List AVal:=(t.cells.getD i []).map spV
theorem z7h (t:Tab) (i:Nat):(rowA t i).all noRef=true:=by
 unfold rowA
 rw [List.all_eq_true]
 intro x hx
 obtain ⟨y,_,rfl⟩:=List.mem_map.1 hx
 rfl
set_option maxRecDepth 10000
set_option maxHeartbeats 2000000
theorem z3f {H:Heap}:∀ (ids seen:List Nat) (n:Nat),(∀ id ∈ ids,∃ g sz es,H[id]?=some (.cells g sz true es))→ids.length≤n→∃ l,reach H n ids seen=some l
 | [],seen,n,_,_=>by cases n <;> exact ⟨_,rfl⟩
 | id :: ids,seen,n,hf,hl=>by
   obtain ⟨n,rfl⟩:∃ m,n=m+1:=⟨n - 1,by simp at hl;omega⟩
   obtain ⟨g,sz,es,hH⟩:=hf id (by simp)
   have ih:=fun seen=>z3f (H:=H) ids seen n (fun x hx=>hf x (by simp [hx])) (by simp at hl;omega)
   simp only [reach,hH,if_true]
   split
   · exact ih _
   · exact ih _
theorem z1z {f:Nat} {args qs:List AVal} {lent:List Nat} {v w:AVal} {H H':Heap} (hw:(env.hint f).whole=false) (hka:(env.hint f).keepAll=false) (hk:(env.hint f).keep=[]) (hro:(env.hint f).ro=false)
    (hl:lend H (env.hint f).lits args 0=some (qs,lent)) (hq:underL 0 qs=true) (hr:runT env f qs [] 0=some (.ret v,H')) (hb:handBack H' 0 [] 4 v=some w) (hn:noRef w=true) (nx:Nat):
    ∃ us,callT env f args 0 H nx=some (.ret w,.ups us)∧(w.noLit=true→us=[]):=by
 unfold callT
 rw [callF_small hw,hl]
 have h0:(lent.all fun id=>decide (0≤id))=true:=List.all_eq_true.2 fun _ _=>by simp
 have h1:(lent.all fun id=>!([]:List Nat).contains id)=true:=List.all_eq_true.2 fun _ _=>by simp
 simp only [refs_noRef.2 qs hq,reach,getAll,h1,hro,List.all_nil,Bool.not_true,Bool.or_false,Bool.and_false,Bool.false_eq_true,if_false,List.map_nil,List.length_nil,(ren_noRef (idx [])).2 qs hq]
 rw [hr]
 simp only [Option.bind_some,callBack,keepOf,hka,hk,Bool.false_eq_true,if_false,List.filter_nil,uniq,getAll,List.length_nil,hb,h0,if_true]
 rw [(ren_noRef _).1 w hn]
 cases hnl:w.noLit with
 | true=>
   refine ⟨[],?_,fun _=>rfl⟩
   simp [callUpd,hro,numbered]
 | false=>
   simp only [Bool.false_and,Bool.or_false]
   split
   · exact ⟨_,rfl,fun h=>by cases h⟩
   · exact ⟨_,rfl,fun h=>by cases h⟩
structure TbAt (H:Heap) (a b q ga gb g:Nat) (ps:Nat→Nat) (t:Tab):Prop where
 rows:H[a]?=some (.cells ga 2 true (t.rows.map spV))
 cols:H[b]?=some (.cells gb 2 true (t.cols.map spV))
 acc:H[q]?=some (.cells g 1 false (vecA t.R fun i=>.ref (ps i) 0 0 t.C false))
 row:∀ i,i < t.R→H[ps i]?=some (.cells 0 2 true (rowA t i))
 ab:a ≠ b
 aq:a ≠ q
 bq:b ≠ q
 pa:∀ i,i < t.R→ps i ≠ a∧ps i ≠ b∧ps i ≠ q
 pp:∀ i j,i < t.R→j < t.R→ps i=ps j→i=j
def memT (t:Tab) (a b q ga gb g:Nat):AVal:=.agg [.ref a ga 0 t.R false,.ref b gb 0 t.C false,.ref q g 0 t.R false]
def canon (t:Tab):TabV:=⟨⟨false,2,t.rows⟩,⟨false,2,t.cols⟩,false,1,t.cells.map fun l=>⟨false,2,l⟩⟩
theorem z0M (t:Tab):(canon t).tab=t:=by
 unfold canon TabV.tab
 simp [Function.comp_def]
theorem z1G {t:Tab} (hR:t.R≤8) (hC:t.C≤8) (hl:t.cells.length=t.R) (hw:∀ l ∈ t.cells,l.length=t.C):(canon t).Wf where
 rows:=.inr rfl
 cols:=.inr rfl
 cells:=.inr rfl
 each s hs:=by obtain ⟨l,_,rfl⟩:=List.mem_map.1 hs;exact .inr rfl
 lr:=by show t.R < _;omega
 lc:=by show t.C < _;omega
 ll:=by simp only [canon,List.length_map];omega
 le s hs:=by
  obtain ⟨l,hl,rfl⟩:=List.mem_map.1 hs
  have:=hw l hl
  show l.length < _;omega
theorem z0V {t:Tab} (hl:t.cells.length=t.R) (hw:∀ l ∈ t.cells,l.length=t.C) {i:Nat} (hi:i < t.R):(rowA t i).length=t.C:=by
 unfold rowA
 rw [List.length_map]
 exact hw _ (z1C (by omega) _)
section
variable {H:Heap} {a b q ga gb g:Nat} {ps:Nat→Nat} {t:Tab}
theorem TbAt.mono (h:TbAt H a b q ga gb g ps t) {H':Heap} (e:∀ i,i=a ∨ i=b ∨ i=q ∨ (∃ j,j < t.R∧i=ps j)→H'[i]?=H[i]?):TbAt H' a b q ga gb g ps t where
 rows:=by rw [e a (.inl rfl)];exact h.rows
 cols:=by rw [e b (.inr (.inl rfl))];exact h.cols
 acc:=by rw [e q (.inr (.inr (.inl rfl)))];exact h.acc
 row i hi:=by rw [e _ (.inr (.inr (.inr ⟨i,hi,rfl⟩)))];exact h.row i hi
 ab:=h.ab
 aq:=h.aq
 bq:=h.bq
 pa:=h.pa
 pp:=h.pp
theorem TbAt.lt (h:TbAt H a b q ga gb g ps t):a < H.length∧b < H.length∧q < H.length∧∀ i,i < t.R→ps i < H.length:=
 ⟨(List.getElem?_eq_some_iff.1 h.rows).1,(List.getElem?_eq_some_iff.1 h.cols).1,(List.getElem?_eq_some_iff.1 h.acc).1,fun i hi=>(List.getElem?_eq_some_iff.1 (h.row i hi)).1⟩
theorem TbAt.more (h:TbAt H a b q ga gb g ps t) (Z:Heap):TbAt (H++Z) a b q ga gb g ps t:=by
 obtain ⟨l1,l2,l3,l4⟩:=h.lt
 refine h.mono fun i hi=>?_
 rw [List.getElem?_append_left]
 rcases hi with rfl | rfl | rfl | ⟨j,hj,rfl⟩
 · exact l1
 · exact l2
 · exact l3
 · exact l4 j hj
theorem TbAt.toLit (h:TbAt H a b q ga gb g ps t) (hl:t.cells.length=t.R) (hw:∀ l ∈ t.cells,l.length=t.C) (ok:Nat→Bool) (ha:ok a=true) (hb:ok b=true) (hq:ok q=true) (hp:∀ i,i < t.R→ok (ps i)=true) (n:Nat):toLit ok H (n+3) (memT t a b q ga gb g)=some (canon t).v:=by
 have t1:(t.rows.map spV).take t.R=t.rows.map spV:=List.take_of_length_le (by simp)
 have t2:(t.cols.map spV).take t.C=t.cols.map spV:=List.take_of_length_le (by simp)
 have t3:(vecA t.R fun i=>AVal.ref (ps i) 0 0 t.C false).take t.R=vecA t.R fun i=>AVal.ref (ps i) 0 0 t.C false:=List.take_of_length_le (by rw [z0E];exact Nat.le_refl _)
 have hm:mapO (Tidy.toLit ok H (n+1)) (vecA t.R fun i=>AVal.ref (ps i) 0 0 t.C false)=some (vecA t.R fun i=>AVal.lit false 2 (rowA t i)):=by
  have:∀ (m:Nat),m≤t.R→mapO (Tidy.toLit ok H (n+1)) ((List.range m).map fun i=>AVal.ref (ps i) 0 0 t.C false)=some ((List.range m).map fun i=>AVal.lit false 2 (rowA t i)):=by
   intro m hm
   have gen:∀ l:List Nat,(∀ i ∈ l,i < t.R)→mapO (Tidy.toLit ok H (n+1)) (l.map fun i=>AVal.ref (ps i) 0 0 t.C false)=some (l.map fun i=>AVal.lit false 2 (rowA t i)):=by
    intro l
    induction l with
    | nil=>intro _;rfl
    | cons i l ih=>
      intro hl'
      have hi:=hl' i (by simp)
      have hr:=h.row i hi
      have hrl:=z0V hl hw hi
      have htk:(rowA t i).take t.C=rowA t i:=List.take_of_length_le (by omega)
      simp only [List.map_cons,mapO,ih fun j hj=>hl' j (by simp [hj])]
      simp [Tidy.toLit,noRef,AVal.under,hr,hp i hi,hrl,htk]
   exact gen _ fun i hi=>by rw [List.mem_range] at hi;omega
  exact this t.R (Nat.le_refl _)
 have ec:(canon t).v=.agg [.lit false 2 (t.rows.map spV),.lit false 2 (t.cols.map spV),.lit false 1 (vecA t.R fun i=>AVal.lit false 2 (rowA t i))]:=by
  show AVal.agg [_,_,.lit false 1 ((t.cells.map fun l=>(⟨false,2,l⟩:SlV)).map SlV.v)]=_
  have e:(t.cells.map fun l=>(⟨false,2,l⟩:SlV)).map SlV.v=vecA t.R fun i=>AVal.lit false 2 (rowA t i):=?_
  · rw [e];rfl
  unfold vecA
  rw [List.map_map]
  apply List.ext_getElem
  · simp [hl]
  · intro i h1 h2
    have hi:i < t.cells.length:=by simpa using h1
    simp [rowA,SlV.v,hi]
 have ea:Tidy.toLit ok H (n+2) (.ref a ga 0 t.R false)=some (.lit false 2 (t.rows.map spV)):=by
  simp [Tidy.toLit,noRef,AVal.under,h.rows,ha,t1]
 have eb:Tidy.toLit ok H (n+2) (.ref b gb 0 t.C false)=some (.lit false 2 (t.cols.map spV)):=by
  simp [Tidy.toLit,noRef,AVal.under,h.cols,hb,t2]
 have eq:Tidy.toLit ok H (n+2) (.ref q g 0 t.R false)=some (.lit false 1 (vecA t.R fun i=>AVal.lit false 2 (rowA t i))):=by
  unfold Tidy.toLit
  simp only [noRef,AVal.under,Nat.not_lt_zero,decide_false,Bool.false_eq_true,if_false,h.acc,hq,decide_true,Nat.zero_add,z0E,Nat.le_refl,Bool.and_true,if_true,List.drop_zero,t3,hm]
  rfl
 rw [ec]
 unfold Tidy.toLit
 simp only [memT,noRef,AVal.under,underL,Nat.not_lt_zero,decide_false,Bool.false_and,Bool.false_eq_true,if_false,mapO,ea,eb,eq]
 rfl
theorem TbAt.lend (h:TbAt H a b q ga gb g ps t) (hR:t.R≤8) (hl:t.cells.length=t.R) (hw:∀ l ∈ t.cells,l.length=t.C) {lits:List Nat} (h0:lits.contains 0=true) {args:List AVal} (ha:underL 0 args=true):∃ ids,lend H lits (memT t a b q ga gb g :: args) 0=some ((canon t).v :: args,ids):=by
 have hlit:=h.toLit hl hw (fun _=>true) rfl rfl rfl (fun _ _=>rfl) 5
 have hre:∃ l,reach H fuel0 (memT t a b q ga gb g).refs []=some l:=by
  have hrefs:(memT t a b q ga gb g).refs=[a,b,q]:=rfl
  rw [hrefs]
  have hab:b ≠ a:=Ne.symm h.ab
  have haq:q ≠ a:=Ne.symm h.aq
  have hbq:q ≠ b:=Ne.symm h.bq
  have hrl:refsL (vecA t.R fun i=>AVal.ref (ps i) 0 0 t.C false)=vecA t.R ps:=by
   unfold vecA
   induction (List.range t.R) with
   | nil=>rfl
   | cons i l ih=>simp [refsL,AVal.refs,ih]
  obtain ⟨l,hl⟩:=z3f (H:=H) (vecA t.R ps) [a,b,q] 61 (fun id hid=>by
   unfold vecA at hid
   obtain ⟨i,hi,rfl⟩:=List.mem_map.1 hid
   exact ⟨_,_,_,h.row i (List.mem_range.1 hi)⟩) (by rw [z0E];omega)
  refine ⟨l,?_⟩
  unfold fuel0
  simp [reach,h.rows,h.cols,h.acc,hab,haq,hbq,hrl,hl]
 obtain ⟨l,hre⟩:=hre
 have hnr:noRef (memT t a b q ga gb g)=false:=rfl
 refine ⟨l++[],?_⟩
 unfold Tidy.lend
 rw [lend_noRef H lits args 1 ha]
 simp only [h0,hnr,Bool.not_false,Bool.and_self,if_true,hlit,hre]
end
theorem renR_rows (f:Nat→Option Nat) (nx:Nat):∀ (rs:List RowD) (p:Nat),(∀ i,i < rs.length→f (p+2 * i)=some (nx+p+2 * i))→renL f (rowR p rs)=rowR (nx+p) rs
 | [],_,_=>rfl
 | r :: rs,p,h=>by
   have h0:=h 0 (by simp)
   have ih:=renR_rows f nx rs (p+2) fun i hi=>by
    have:=h (i+1) (by simp;omega)
    rw [show p+2+2 * i=p+2 * (i+1) by omega,this,show nx+p+2 * (i+1)=nx+(p+2)+2 * i by omega]
   simp only [Nat.mul_zero,Nat.add_zero] at h0
   simp only [rowR,renL,AVal.ren,h0,ih,Nat.add_assoc]
theorem zAK (f:Nat→Option Nat) (nx sz:Nat):∀ (rs:List RowD) (p:Nat),(∀ i,i < rs.length→f (p+2 * i)=some (nx+p+2 * i))→(rowT sz p rs).map (renB f)=rowT sz (nx+p) rs
 | [],_,_=>rfl
 | r :: rs,p,h=>by
   have h0:=h 0 (by simp)
   have ih:=zAK f nx sz rs (p+2) fun i hi=>by
    have:=h (i+1) (by simp;omega)
    rw [show p+2+2 * i=p+2 * (i+1) by omega,this,show nx+p+2 * (i+1)=nx+(p+2)+2 * i by omega]
   simp only [Nat.mul_zero,Nat.add_zero] at h0
   simp only [rowT,List.map_cons,renB,renL,AVal.ren,h0,ih,Nat.add_assoc,if_true,Bool.false_eq_true,if_false]
set_option maxRecDepth 10000
set_option maxHeartbeats 2000000
set_option maxRecDepth 10000
set_option maxHeartbeats 2000000
def matM (t:Tab) (x:Nat→Nat→Int):MatV:=⟨false,1,vecA t.R fun i=>⟨false,1,vecA t.C (x i)⟩⟩
def MatAns (t:Tab) (v:AVal):Prop:=(t.ok=false∧v=.tuple [.lit true 0 [],.bool false,.int .i64 60]) ∨ (t.Ok∧canB t=false∧v=.tuple [.lit true 0 [],.bool false,.int .i64 0]) ∨
 (t.Ok∧canB t=true∧∃ x,Fits t x∧v=.tuple [(matM t x).v,.bool true,.int .i64 0])
theorem MatAns.pure {t:Tab} {v:AVal} (h:MatAns t v):noRef v=true:=by
 rcases h with ⟨_,rfl⟩ | ⟨_,_,rfl⟩ | ⟨_,_,x,_,rfl⟩ <;> rfl
set_option maxRecDepth 10000
set_option maxHeartbeats 2000000
def Tab.setCell (t:Tab) (i k:Nat) (x:Spn):Tab:=⟨t.rows,t.cols,t.cells.set i ((t.cells.getD i []).set k x)⟩
theorem z2H {t:Tab} (hO:t.Mild) {i k:Nat} (x:Spn) (hi:i < t.R) (hk:k < t.C) (i' k':Nat):(t.setCell i k x).cell i' k'=if i'=i∧k'=k then x else t.cell i' k':=by
 have hl:=hO.len
 have h1:t.cells.getD i [] ∈ t.cells:=z1C (by omega) _
 have hw:=hO.wid _ h1
 unfold Tab.cell Tab.setCell
 simp only
 by_cases h:i'=i
 · subst h
   have e1:(t.cells.set i' ((t.cells.getD i' []).set k x)).getD i' []=(t.cells.getD i' []).set k x:=by
    rw [List.getD_eq_getElem?_getD,List.getElem?_set_self (by omega)];rfl
   rw [e1]
   by_cases h2:k'=k
   · subst h2
     rw [if_pos ⟨rfl,rfl⟩,List.getD_eq_getElem?_getD,List.getElem?_set_self (by omega)];rfl
   · rw [if_neg (fun e=>h2 e.2),List.getD_eq_getElem?_getD,List.getElem?_set_ne (Ne.symm h2),← List.getD_eq_getElem?_getD]
 · rw [if_neg (fun e=>h e.1)]
   have e1:(t.cells.set i ((t.cells.getD i []).set k x)).getD i' []=t.cells.getD i' []:=by
    rw [List.getD_eq_getElem?_getD,List.getElem?_set_ne (Ne.symm h),← List.getD_eq_getElem?_getD]
   rw [e1]
theorem z8r {t:Tab} (hO:t.Mild) {i k:Nat} {x:Spn} (hi:i < t.R) (hk:k < t.C) (hx:-(2 ^ 34)≤x.lo∧x.hi≤2 ^ 34∧x.lo≤x.hi):(t.setCell i k x).Mild:=by
 refine ⟨hO.R1,hO.R8,hO.C1,hO.C8,?_,fun l hl=>?_,fun h=>hO.row_ok h,fun h=>hO.col_ok h,fun {i' k'} hi' hk'=>?_⟩
 · show (t.cells.set i _).length=t.R
   rw [List.length_set];exact hO.len
 · rcases List.mem_or_eq_of_mem_set hl with h | rfl
   · exact hO.wid l h
   · rw [List.length_set];exact hO.wid _ (z1C (by rw [hO.len];exact hi) _)
 · rw [z2H hO x hi hk]
   split
   · exact hx
   · exact hO.cell_ok hi' hk'
theorem zN5 {t:Tab} (hl:t.cells.length=t.R) {i k:Nat} (x:Spn) (hi:i < t.R) (i':Nat):rowA (t.setCell i k x) i'=if i'=i then (rowA t i).set k (spV x) else rowA t i':=by
 unfold rowA Tab.setCell
 simp only
 by_cases h:i'=i
 · subst h
   rw [if_pos rfl,List.getD_eq_getElem?_getD (l:=t.cells.set _ _),List.getElem?_set_self (by omega)]
   simp only [Option.getD_some]
   rw [List.map_set]
 · rw [if_neg h,List.getD_eq_getElem?_getD (l:=t.cells.set _ _),List.getElem?_set_ne (Ne.symm h),← List.getD_eq_getElem?_getD]
theorem TbAt.write {H:Heap} {a b q ga gb g:Nat} {ps:Nat→Nat} {t:Tab} (h:TbAt H a b q ga gb g ps t) (hl:t.cells.length=t.R) {i k:Nat} (hi:i < t.R) (x:Spn):
    TbAt (H.set (ps i) (.cells 0 2 true ((rowA t i).set k (spV x)))) a b q ga gb g ps (t.setCell i k x):=by
 obtain ⟨l1,l2,l3,l4⟩:=h.lt
 obtain ⟨p1,p2,p3⟩:=h.pa i hi
 refine ⟨?_,?_,?_,fun j hj=>?_,h.ab,h.aq,h.bq,h.pa,h.pp⟩
 · rw [List.getElem?_set_ne p1];exact h.rows
 · rw [List.getElem?_set_ne p2];exact h.cols
 · rw [List.getElem?_set_ne p3];exact h.acc
 · rw [zN5 hl x hi]
   by_cases e:j=i
   · subst e;rw [if_pos rfl,List.getElem?_set_self (l4 j hi)]
   · rw [if_neg e,List.getElem?_set_ne (fun e'=>e (h.pp i j hi hj e').symm)]
     exact h.row j hj
theorem z2W {t:Tab} (hO:t.Mild) {i k:Nat} (hi:i < t.R) (hk:k < t.C):(rowA t i)[k]?=some (spV (t.cell i k)):=by
 have h1:t.cells.getD i [] ∈ t.cells:=z1C (by rw [hO.len];exact hi) _
 have hw:=hO.wid _ h1
 unfold rowA Tab.cell
 rw [List.getElem?_map,List.getElem?_eq_getElem (by omega),List.getD_eq_getElem?_getD (l:=t.cells.getD i []),List.getElem?_eq_getElem (by omega)]
 rfl
noncomputable def attB (t:Tab) (i k n:Int):Bool:=(t.cell i.toNat k.toNat).has n && canB (t.setCell i.toNat k.toNat ⟨n,n⟩)
def AttAns (t:Tab) (i k n:Int) (v:AVal):Prop:=(askS t i k ≠ 0∧v=.tuple [.lit true 0 [],.bool false,.int .i64 (askS t i k)]) ∨
 (askS t i k=0∧attB t i k n=false∧v=.tuple [.lit true 0 [],.bool false,.int .i64 0]) ∨
 (askS t i k=0∧t.Ok∧outB t i k=false∧attB t i k n=true∧∃ x,Fits (t.setCell i.toNat k.toNat ⟨n,n⟩) x∧v=.tuple [(matM t x).v,.bool true,.int .i64 0])
theorem AttAns.pure {t:Tab} {i k n:Int} {v:AVal} (h:AttAns t i k n v):noRef v=true:=by
 rcases h with ⟨_,rfl⟩ | ⟨_,_,rfl⟩ | ⟨_,_,_,_,x,_,rfl⟩ <;> rfl
set_option maxRecDepth 10000
set_option maxHeartbeats 4000000
def zIw (bf:Array Nat):List Foot→Bool
 | []=>true
 | a :: l=>(l.all fun b=>(bf.getD b.i 0).testBit a.i || !clash a b) && zIw bf l
theorem z0C {bf:Array Nat}:∀ {l:List Foot},zIw bf l=true→apart bf l=true
 | [],_=>rfl
 | a :: l,h=>by
   simp only [zIw,Bool.and_eq_true] at h
   simp only [apart,Bool.and_eq_true]
   refine ⟨?_,z0C h.2⟩
   rw [← h.1]
   congr 1
   funext b
   exact Bool.or_comm _ _
theorem z2J (l:List Spn):(l.map spV).all noRef=true:=by
 rw [List.all_eq_true]
 intro x hx
 obtain ⟨y,_,rfl⟩:=List.mem_map.1 hx
 rfl
theorem zBD {H:Heap} {id:Nat} (hH:H[id]?=some (.cells 0 0 false [])) (cl:Bool) {l:List Spn} (h1:l ≠ []) (h8:l.length≤8) (nx:Nat):z0H env 0 nx 22 (.ref id 0 0 0 false) (.lit cl 2 (l.map spV)) H=some (.ref id 1 0 l.length false,[(id,.cells 1 2 true (l.map spV))]):=by
 have hnr:=z2J l
 have hb:l.length * 17≤z04:=by unfold z04;omega
 have hlt:¬ (l.length≤0):=by
  have:=List.length_pos_iff.2 h1
  omega
 have hfl:z0r env 8 39=true:=rfl
 simp [z0H,ti22,ti39,z16,hH,hfl,hnr,hb,h1,AVal.cellsOf,AVal.isTuple]
def cpD (t:Tab) (n:Nat):List RowD:=(List.range n).map fun i=>(0,rowA t i)
theorem zCJ (t:Tab) (n:Nat):cpD t (n+1)=cpD t n++[(0,rowA t n)]:=by simp [cpD,List.range_succ]
theorem z1A (t:Tab) (n:Nat):(cpD t n).length=n:=by simp [cpD]
def cpH (T:TabV) (g n:Nat):Heap:=[boxT T,.cells 0 3 false [.agg [.lit true 0 [],.lit true 0 [],.lit true 0 []]],.cells 1 2 true (T.rows.l.map spV),.cells 1 2 true (T.cols.l.map spV),accR g 6 (cpD T.tab n),
 .cells 0 3 false [.agg [.ref 2 1 0 T.tab.R false,.ref 3 1 0 T.tab.C false,.ref 4 (gR g (cpD T.tab n)) 0 n false]]]++rowT 2 6 (cpD T.tab n)
theorem zF6 {T:TabV} (hT:T.Wf) (hO:T.tab.Mild):∀ (n m g:Nat) (j0 j5 j6 j7 j8 j9 j10 j11 j12 j13 j14 j15 j16 j17 j18 j19 j20 j21 j22 j23 j24 j25 j26 j27 j28 j29 j30 j31 j32 j33 j34 j35 j36:AVal),m+n=T.tab.R →
    Goes (execT env (Try.f89.at [1,1,1,1,0,1,0]) ⟨[j0,.ptr 0 0 0 0,.ptr 1 0 0 0,.ptr 5 0 0 0,.int .i64 m,j5,j6,j7,j8,j9,j10,j11,j12,j13,j14,j15,j16,j17,j18,j19,j20,j21,j22,j23,j24,j25,j26,j27,j28,j29,j30,j31,j32,j33,j34,j35,j36],cpH T g m,[],0,[3,33]⟩) fun ex st=>
     ex=.exit 0∧∃ (g:Nat),FrP 37 [(2,.ptr 1 0 0 0),(3,.ptr 5 0 0 0)] (cpH T g T.tab.R) [] 0 [3,33] st:=by
 have hR8:=hO.R8
 have hC8:=hO.C8
 have hC1:=hO.C1
 have ll:T.cells.length=T.tab.R:=by have:=hO.len;simpa [TabV.tab] using this
 intro n
 induction n with
 | zero=>
   intro m g;intros;rename_i hm
   have hd:decide ((m:Int) < (T.tab.R:Int))=false:=by simp;omega
   have:m=T.tab.R:=by omega
   subst this
   simp only [go_sem,simprocAttr,Try.f89,cpH,boxT]
   rw [exec_loop]
   simp only [go_sem,simprocAttr,List.length_map,ll,hd]
   exact ⟨g,frP (by kernel_rfl)⟩
 | succ n ih=>
   intro m g;intros;rename_i hm
   have hmR:m < T.tab.R:=by omega
   have hd:decide ((m:Int) < (T.tab.R:Int))=true:=by simp;omega
   have i0:(0:Int)≤(m:Int):=by omega
   obtain ⟨c,hcm,hc1,_,hsz,hcl,hce⟩:=TabV.at hT hO hmR (show 0 < T.tab.C from hO.C1)
   have hsz:=eq_true hsz
   have hra:c.l.map spV=rowA T.tab m:=by unfold rowA;rw [hce]
   have hrl:(rowA T.tab m).length=T.tab.C:=by rw [← hra,List.length_map,hcl]
   have hnr:(rowA T.tab m).all noRef=true:=z7h _ _
   have hne:rowA T.tab m ≠ []:=fun e=>by rw [e] at hrl;simp at hrl;omega
   have hTl:(rowT 2 6 (cpD T.tab m)).length=2 * m:=by rw [z14,z1A]
   have hCl:(cpH T g m).length=2 * m+1+1+1+1+1+1:=by unfold cpH;rw [List.length_append,hTl];simp only [List.length_cons,List.length_nil];omega
   have ap1:=fun (H:Heap) (nx:Nat)=>append_lit (E:=env) (ro:=0) (nx:=nx) (sz:=2) (es:=[]) (H:=H) (x:=.lit c.cl 2 (rowA T.tab m)) (nsz:=2) (new:=rowA T.tab m) ti22 ti39 rfl ⟨by decide,rfl,rfl⟩ rfl hne (.inl rfl) (by rw [hrl];show (0+T.tab.C) * 17≤z04;unfold z04;omega) (fun _=>hnr)
   obtain ⟨g',ap2⟩:=z82 (t:=23) (H:=(cpH T g m++[.cells 0 2 true (rowA T.tab m)])++[.cells 0 1 false [.ref (2 * m+1+1+1+1+1+1) 0 0 T.tab.C false]]) (q:=4) (j:=2 * m+1+1+1+1+1+1+1) (g:=g) (p:=6) (rs:=cpD T.tab m) (r:=(0,rowA T.tab m)) (cl:=false) (ro:=0) ti23 ti22 ⟨rfl,rfl,rfl,rfl⟩ rfl
    (by unfold cpH;rfl) (by
      rw [z07 (z06 hCl _) _,z1A]
      show some (Blk.cells 0 1 false [AVal.ref (2 * m+1+1+1+1+1+1) 0 0 T.tab.C false])=some (Blk.cells 0 1 false [AVal.ref (6+2 * m) 0 0 (rowA T.tab m).length false])
      rw [hrl,show 6+2 * m=2 * m+1+1+1+1+1+1 by omega]) (by rw [z1A];omega) (2 * m+1+1+1+1+1+1+1+1) (Nat.zero_le _)
   rw [← zCJ,z1A,z1A] at ap2
   have ht1:rowT 2 6 (cpD T.tab m)++[.cells 0 2 true (rowA T.tab m)]++[.cells 0 1 false [.ref (2 * m+1+1+1+1+1+1) 0 0 T.tab.C false]]=rowT 2 6 (cpD T.tab (m+1)):=by
    rw [zCJ,z4f,z1A,hrl,show 6+2 * m=2 * m+1+1+1+1+1+1 by omega];simp
   have hl1:∀ b,(rowT 2 6 (cpD T.tab m)++[b]).length=2 * m+1:=fun b=>z06 hTl b
   have hTl':(rowT 2 6 (cpD T.tab (m+1))).length=2 * m+1+1:=by rw [z14,z1A];omega
   have hmem:AVal.ref (2 * m+1+1+1+1+1+1) 0 0 T.tab.C false ∈ rowR 6 (cpD T.tab (m+1)):=by
    rw [zCJ,z3x,z1A,hrl,show 6+2 * m=2 * m+1+1+1+1+1+1 by omega];simp
   have hcne:cpD T.tab (m+1) ≠ []:=fun e=>by have:=z1A T.tab (m+1);rw [e] at this;simp at this
   have htr:∀ Tm V,trunc (2 * m+1+1+1+1+1+1) ⟨Tm,cpH T g' (m+1),[],0,V⟩=⟨Tm,cpH T g' (m+1),[],0,V⟩:=fun Tm V=>z2k (i:=4) (g:=g') (sz:=1) (es:=rowR 6 (cpD T.tab (m+1))) (by omega) (by unfold cpH accR;rw [if_neg hcne];rfl) hmem (Nat.le_refl _)
   have wi:IntKind.i64.wrap ((m:Int)+1)=((m+1:Nat):Int):=z00 (by omega)
   have y60:(0 < 2 * m+1+1+1+1+1+1)=True:=eq_true (by omega)
   have y61:(1 < 2 * m+1+1+1+1+1+1)=True:=eq_true (by omega)
   have y62:(2 < 2 * m+1+1+1+1+1+1)=True:=eq_true (by omega)
   have y63:(3 < 2 * m+1+1+1+1+1+1)=True:=eq_true (by omega)
   have y64:(4 < 2 * m+1+1+1+1+1+1)=True:=eq_true (by omega)
   have y65:(5 < 2 * m+1+1+1+1+1+1)=True:=eq_true (by omega)
   have y70:(0 < 2 * m+1+1+1+1+1+1+1)=True:=eq_true (by omega)
   have y71:(1 < 2 * m+1+1+1+1+1+1+1)=True:=eq_true (by omega)
   have y72:(2 < 2 * m+1+1+1+1+1+1+1)=True:=eq_true (by omega)
   have y73:(3 < 2 * m+1+1+1+1+1+1+1)=True:=eq_true (by omega)
   have y74:(4 < 2 * m+1+1+1+1+1+1+1)=True:=eq_true (by omega)
   have y75:(5 < 2 * m+1+1+1+1+1+1+1)=True:=eq_true (by omega)
   have y80:(0 < 2 * m+1+1+1+1+1+1+1+1)=True:=eq_true (by omega)
   have y81:(1 < 2 * m+1+1+1+1+1+1+1+1)=True:=eq_true (by omega)
   have y82:(2 < 2 * m+1+1+1+1+1+1+1+1)=True:=eq_true (by omega)
   have y83:(3 < 2 * m+1+1+1+1+1+1+1+1)=True:=eq_true (by omega)
   have y84:(4 < 2 * m+1+1+1+1+1+1+1+1)=True:=eq_true (by omega)
   have y85:(5 < 2 * m+1+1+1+1+1+1+1+1)=True:=eq_true (by omega)
   have z1:(4 < 2 * m+1+1+1+1+1+1+1+1)=True:=eq_true (by omega)
   have z2:(5 < 2 * m+1+1+1+1+1+1+1+1)=True:=eq_true (by omega)
   have ih':=ih (m+1) g'
   simp only [cpH,boxT,List.cons_append,List.nil_append,ht1] at ap2 htr
   simp only [go_sem,simprocAttr,Try.f89,cpH,boxT] at ih' ⊢
   rw [exec_loop]
   simp only [go_sem,simprocAttr,List.length_map,ll,hd,i0,Int.toNat_natCast,hc1,hcl,hsz,hra,hrl,hTl,hl1,ap1,ap2,ht1,hTl',z1,z2,Nat.lt_add_one,y60,y61,y62,y63,y64,y65,y70,y71,y72,y73,y74,y75,y80,y81,y82,y83,y84,y85]
   rw [apart_ok]
   · simp only [go_sem,simprocAttr,hTl',htr,wi]
     exact ih' _ _ _ _ _ _ _ _ _ _ _ _ _ _ _ _ _ _ _ _ _ _ _ _ _ _ _ _ _ _ _ _ _ (by omega)
   · exact z0C (by kernel_rfl)
def cpX (T:TabV) (nx g:Nat):Heap:=[boxT T,.cells 0 3 false [memT T.tab (nx+2) (nx+3) (nx+4) 1 1 g],.cells 1 2 true (T.rows.l.map spV),.cells 1 2 true (T.cols.l.map spV),.cells g 1 false (rowR (nx+6) (cpD T.tab T.tab.R)),
 .cells 0 3 false [memT T.tab (nx+2) (nx+3) (nx+4) 1 1 g]]++rowT 2 (nx+6) (cpD T.tab T.tab.R)
theorem zHf {T:TabV} (hT:T.Wf) (hO:T.tab.Mild):∃ g,runT env 89 [T.v] [] 0=some (.ret (memT T.tab 2 3 4 1 1 g),cpX T 0 g):=by
 have hR8:=hO.R8
 have hC8:=hO.C8
 have hR1:=hO.R1
 have hC1:=hO.C1
 have lr:T.rows.l.length=T.tab.R:=rfl
 have lc:T.cols.l.length=T.tab.C:=rfl
 have hrn:T.rows.l ≠ []:=fun e=>by rw [e] at lr;simp at lr;omega
 have hcn:T.cols.l ≠ []:=fun e=>by rw [e] at lc;simp at lc;omega
 have z1:T.rows.sz=2:=(TabV.rowAt hT hR1).2
 have z2:T.cols.sz=2:=(TabV.colAt hT (show 0 < T.tab.C from hC1)).2
 obtain ⟨ex,st,hx,hp⟩:=zF6 hT hO T.tab.R 0 0 _ _ _ _ _ _ _ _ _ _ _ _ _ _ _ _ _ _ _ _ _ _ _ _ _ _ _ _ _ _ _ _ _ (by omega)
 obtain ⟨rfl,g,jp,rfl⟩:=hp
 refine ⟨g,?_⟩
 have e0:cpD T.tab 0=[]:=rfl
 have hne:cpD T.tab T.tab.R ≠ []:=fun e=>by have:=z1A T.tab T.tab.R;rw [e] at this;simp at this;omega
 have eA:accR g 6 (cpD T.tab T.tab.R)=.cells g 1 false (rowR 6 (cpD T.tab T.tab.R)):=if_neg hne
 have eG:gR g (cpD T.tab T.tab.R)=g:=if_neg hne
 have a1:=zBD (H:=[boxT T,.cells 0 3 false [.agg [.lit true 0 [],.lit true 0 [],.lit true 0 []]],.cells 0 0 false [],.cells 0 0 false [],.cells 0 0 false [],.cells 0 3 false [.agg [.ref 2 0 0 0 false,.ref 3 0 0 0 false,.ref 4 0 0 0 false]]]) (id:=2) rfl T.rows.cl hrn (by omega) 6
 have a2:=zBD (H:=[boxT T,.cells 0 3 false [.agg [.lit true 0 [],.lit true 0 [],.lit true 0 []]],.cells 1 2 true (T.rows.l.map spV),.cells 0 0 false [],.cells 0 0 false [],.cells 0 3 false [.agg [.ref 2 1 0 T.tab.R false,.ref 3 0 0 0 false,.ref 4 0 0 0 false]]]) (id:=3) rfl T.cols.cl hcn (by omega) 6
 simp only [boxT,lr,lc] at a1 a2
 simp only [go_sem,simprocAttr,Try.f89,cpH,boxT,e0,rowT,zGG,zK1,Int.ofNat_zero,Int.natCast_zero] at hx
 rw [run_unfold fn89 rfl]
 simp only [go_sem,simprocAttr,Try.f89,z0I,z1,z2,a1,a2]
 rw [hx]
 simp only [go_sem,simprocAttr,cpH,boxT,eA,eG,unwind,modeEx,resultsOf,one]
 rfl
theorem z9a (T:TabV) (nx g:Nat):(cpX T nx g).length=6+2 * T.tab.R:=by
 unfold cpX
 rw [List.length_append,z14,z1A]
 simp only [List.length_cons,List.length_nil]
theorem z2A {T:TabV} (hT:T.Wf) (hO:T.tab.Mild):∃ g,∀ (ro:Nat) (H:Heap) (nx:Nat),callT env 89 [T.v] ro H nx=some (.ret (memT T.tab (nx+2) (nx+3) (nx+4) 1 1 g),.ups (numbered nx (cpX T nx g))):=by
 have hR1:=hO.R1
 obtain ⟨g,hr⟩:=zHf hT hO
 refine ⟨g,fun ro H nx=>?_⟩
 have hlen:=z9a T 0 g
 have hc:∀ j,j < 6+2 * T.tab.R→(List.range' 0 (cpX T 0 g).length).contains j=true:=fun j hj=>by
  rw [hlen];simp;omega
 have hf:∀ j,j < 6+2 * T.tab.R→nxF nx (cpX T 0 g).length j=some (nx+j):=fun j hj=>by
  unfold nxF;rw [hlen,if_pos hj]
 rw [z1K rfl rfl rfl z0d hr (w:=memT T.tab 2 3 4 1 1 g) (by
  unfold memT
  simp only [handBack,mapO,hc 2 (by omega),hc 3 (by omega),hc 4 (by omega),Bool.or_true,if_true,Option.map_some])]
 have e1:(cpX T 0 g).map (renB (nxF nx (cpX T 0 g).length))=cpX T nx g:=by
  generalize hF:nxF nx (cpX T 0 g).length=F at hf ⊢
  have r1:=zAK F nx 2 (cpD T.tab T.tab.R) 6 fun i hi=>by
   rw [z1A] at hi
   rw [hf _ (by omega)];congr 1;omega
  have r2:=renR_rows F nx (cpD T.tab T.tab.R) 6 fun i hi=>by
   rw [z1A] at hi
   rw [hf _ (by omega)];congr 1;omega
  unfold cpX memT
  simp only [List.map_append,List.map_cons,List.map_nil,Nat.zero_add,r1,z3X]
  simp only [renB,renL,AVal.ren,hf 2 (by omega),hf 3 (by omega),hf 4 (by omega),r2,if_true,Bool.false_eq_true,if_false]
 rw [e1]
 simp only [AVal.ren,renL,hf 2 (by omega),hf 3 (by omega),hf 4 (by omega),memT]
def cpP (nx i:Nat):Nat:=nx+6+2 * i
theorem z3G {T:TabV} (hO:T.tab.Mild) (H:Heap) (g:Nat):TbAt (H++cpX T H.length g) (H.length+2) (H.length+3) (H.length+4) 1 1 g (cpP H.length) T.tab:=by
 have hR1:=hO.R1
 have hg:∀ i,(H++cpX T H.length g)[H.length+i]?=(cpX T H.length g)[i]?:=fun i=>by
  rw [List.getElem?_append_right (by omega),Nat.add_sub_cancel_left]
 have hd:∀ i,i < T.tab.R→(cpD T.tab T.tab.R)[i]?=some (0,rowA T.tab i):=fun i hi=>by
  unfold cpD
  rw [List.getElem?_map,List.getElem?_range hi];try rfl
 have hacc:rowR (H.length+6) (cpD T.tab T.tab.R)=vecA T.tab.R fun i=>.ref (cpP H.length i) 0 0 T.tab.C false:=by
  apply List.ext_getElem?
  intro i
  by_cases hi:i < T.tab.R
  · rw [vecA_get _ hi,z9A _ _ _ _ (hd i hi)]
    have hrl:=z0V (t:=T.tab) hO.len hO.wid hi
    show some (AVal.ref (H.length+6+2 * i) 0 0 (rowA T.tab i).length false)=_
    rw [hrl];try rfl
  · rw [List.getElem?_eq_none (by rw [z1O,z1A];omega),List.getElem?_eq_none (by rw [z0E];omega)]
 refine ⟨?_,?_,?_,fun i hi=>?_,by omega,by omega,by omega,fun i hi=>?_,fun i j hi hj e=>?_⟩
 · rw [hg];rfl
 · rw [hg];rfl
 · rw [hg,← hacc];rfl
 · unfold cpP
   rw [Nat.add_assoc,hg]
   have:=z6D 2 (cpD T.tab T.tab.R) (H.length+6) i _ (hd i hi)
   unfold cpX
   rw [List.getElem?_append_right (by simp only [List.length_cons,List.length_nil];omega)]
   simp only [List.length_cons,List.length_nil]
   rw [show 6+2 * i - (0+1+1+1+1+1+1)=2 * i by omega]
   exact this
 · unfold cpP;omega
 · unfold cpP at e;omega
set_option maxRecDepth 10000
set_option maxHeartbeats 2000000
def outP (c:CutA) (i k:Nat):Bool:=c.l1.getD i false && !c.l2.getD k false
def inP (c:CutA) (i k:Nat):Bool:=!c.l1.getD i false && c.l2.getD k false
def rgH (T:TabV) (c:CutA):Heap:=[boxT T,.cells 0 2 false [c.v]]
theorem z3g {n:Nat} {p:Nat→Bool} {f:Nat→Spn} (h:∀ i,i < n→-(2 ^ 34)≤(f i).lo∧(f i).hi≤2 ^ 34∧(f i).lo≤(f i).hi):∀ m,m≤n→(-(m * 2 ^ 34:Int)≤(z0h m p f).lo∧(z0h m p f).lo≤m * 2 ^ 34)∧-(m * 2 ^ 34:Int)≤(z0h m p f).hi∧(z0h m p f).hi≤m * 2 ^ 34
 | 0,_=>by simp [z0h,sumN]
 | m+1,hm=>by
   have ih:=z3g (p:=p) h m (by omega)
   have h1:=h m (by omega)
   rw [z4i]
   split
   · simp only [z0L];omega
   · omega
def z4m (x:Spn) (b:Int):Prop:=(-b≤x.lo∧x.lo≤b)∧-b≤x.hi∧x.hi≤b
theorem zH5 {T:TabV} (hT:T.Wf) (hO:T.tab.Mild) {c:CutA} (hc:c.Wf) (h1:c.l1.length=T.tab.R) (h2:c.l2.length=T.tab.C) {i:Nat} (hi:i < T.tab.R) (d e:Spn)
    (hd:z4m d (2 ^ 42)) (he:z4m e (2 ^ 42)):∀ (n k:Nat) (j0 j1 j4 j11 j12 j13 j14 j15 j16 j17 j18 j19 j20 j21 j22 j23 j24 j25 j26 j27 j28 j29 j30 j31 j32 j33 j34 j35 j36 j37 j38 j39 j40 j41 j42 j43 j44 j45 j46 j47 j48 j49 j50 j51 j52 j53 j54 j55 j56 j57 j58 j59 j60 j61 j62 j63 j64 j65 j66 j67 j68 j69 j70 j71 j72 j73 j74 j75 j76 j77 j78 j79 j80 j81 j82 j83 j84 j85 j86 j87 j88 j89 j90 j91 j92 j93 j94 j95 j96 j97 j98 j99 j100 j101 j102 j103 j104 j105 j106 j107 j108 j109 j110 j111 j112 j113 j114 j115 j116 j117 j118 j119 j120 j121 j122 j123 j124 j125 j126 j127 j128 j129 j130 j131 j132 j133 j134 j135 j136 j137 j138 j139 j140 j141 j142 j143 j144 j145 j146 j147 j148 j149 j150 j151 j152:AVal),k+n=T.tab.C →
    Goes (execT env (Try.f80.at [1,1,0,1,0,0,1,0,0,1,1,0]) ⟨[j0,j1,.ptr 0 0 0 0,.ptr 1 0 0 0,j4,.int .i64 (z0L d (z0h k (outP c i) (T.tab.cell i))).lo,.int .i64 (z0L e (z0h k (inP c i) (T.tab.cell i))).hi,.int .i64 (z0L e (z0h k (inP c i) (T.tab.cell i))).lo,.int .i64 (z0L d (z0h k (outP c i) (T.tab.cell i))).hi,.int .i64 i,.int .i64 k,j11,j12,j13,j14,j15,j16,j17,j18,j19,j20,j21,j22,j23,j24,j25,j26,j27,j28,j29,j30,j31,j32,j33,j34,j35,j36,j37,j38,j39,j40,j41,j42,j43,j44,j45,j46,j47,j48,j49,j50,j51,j52,j53,j54,j55,j56,j57,j58,j59,j60,j61,j62,j63,j64,j65,j66,j67,j68,j69,j70,j71,j72,j73,j74,j75,j76,j77,j78,j79,j80,j81,j82,j83,j84,j85,j86,j87,j88,j89,j90,j91,j92,j93,j94,j95,j96,j97,j98,j99,j100,j101,j102,j103,j104,j105,j106,j107,j108,j109,j110,j111,j112,j113,j114,j115,j116,j117,j118,j119,j120,j121,j122,j123,j124,j125,j126,j127,j128,j129,j130,j131,j132,j133,j134,j135,j136,j137,j138,j139,j140,j141,j142,j143,j144,j145,j146,j147,j148,j149,j150,j151,j152],rgH T c,[],0,[]⟩) fun ex st=>
     ex=.exit 2∧FrP 153 [(2,.ptr 0 0 0 0),(3,.ptr 1 0 0 0),(5,.int .i64 (z0L d (z0h T.tab.C (outP c i) (T.tab.cell i))).lo),(6,.int .i64 (z0L e (z0h T.tab.C (inP c i) (T.tab.cell i))).hi),(7,.int .i64 (z0L e (z0h T.tab.C (inP c i) (T.tab.cell i))).lo),(8,.int .i64 (z0L d (z0h T.tab.C (outP c i) (T.tab.cell i))).hi),(9,.int .i64 i)] (rgH T c) [] 0 [] st:=by
 have hC8:=hO.C8
 intro n
 induction n with
 | zero=>
   intro k;intros;rename_i hk
   have hd:decide ((k:Int) < (T.tab.C:Int))=false:=by simp;omega
   have:k=T.tab.C:=by omega
   subst this
   simp only [go_sem,simprocAttr,Try.f80,rgH,boxT]
   rw [exec_loop]
   simp only [go_sem,simprocAttr,List.length_map,show T.cols.l.length=T.tab.C from rfl,hd]
   exact frP (by kernel_rfl)
 | succ n ih=>
   intro k;intros;rename_i hk
   have hkC:k < T.tab.C:=by omega
   have hdk:decide ((k:Int) < (T.tab.C:Int))=true:=by simp;omega
   have k0:(0:Int)≤(k:Int):=by omega
   have i0:(0:Int)≤(i:Int):=by omega
   obtain ⟨s,_,q1,q2,q3,_,_⟩:=TabV.at hT hO hi hkC
   have hz1:=z1b hc.s1 (List.getElem?_eq_getElem (show i < c.l1.length by omega))
   have hz2:=z1b hc.s2 (List.getElem?_eq_getElem (show k < c.l2.length by omega))
   have g1:=z0f (l:=c.l1) (i:=i) (by omega)
   have g2:=z0f (l:=c.l2) (i:=k) (by omega)
   have bd:=z3g (p:=outP c i) (f:=T.tab.cell i) (fun j hj=>hO.cell_ok hi hj) k (by omega)
   have be:=z3g (p:=inP c i) (f:=T.tab.cell i) (fun j hj=>hO.cell_ok hi hj) k (by omega)
   have bi:=hO.cell_ok hi hkC
   have e1:=z4b d k (outP c i) (T.tab.cell i)
   have e2:=z4b e k (inP c i) (T.tab.cell i)
   have ih':=ih (k+1)
   rw [e1,e2,show outP c i k=(c.l1.getD i false && !c.l2.getD k false) from rfl,show inP c i k=(!c.l1.getD i false && c.l2.getD k false) from rfl] at ih'
   have bx:∀ {x y:Spn},z4m x (2 ^ 42)→((-(k * 2 ^ 34:Int)≤y.lo∧y.lo≤k * 2 ^ 34)∧-(k * 2 ^ 34:Int)≤y.hi∧y.hi≤k * 2 ^ 34)→(-(2 ^ 43)≤(z0L x y).lo∧(z0L x y).lo≤2 ^ 43)∧-(2 ^ 43)≤(z0L x y).hi∧(z0L x y).hi≤2 ^ 43:=fun h h'=>by unfold z4m at h;simp only [z0L];omega
   have bd:=bx hd bd
   have be:=bx he be
   generalize z0L d (z0h k (outP c i) (T.tab.cell i))=d1 at bd ih' ⊢
   generalize z0L e (z0h k (inP c i) (T.tab.cell i))=e1 at be ih' ⊢
   have w1:IntKind.i64.wrap (d1.lo+(T.tab.cell i k).lo)=(z0L d1 (T.tab.cell i k)).lo:=i64_in _ (by omega)
   have w2:IntKind.i64.wrap (d1.hi+(T.tab.cell i k).hi)=(z0L d1 (T.tab.cell i k)).hi:=i64_in _ (by omega)
   have w3:IntKind.i64.wrap (e1.lo+(T.tab.cell i k).lo)=(z0L e1 (T.tab.cell i k)).lo:=i64_in _ (by omega)
   have w4:IntKind.i64.wrap (e1.hi+(T.tab.cell i k).hi)=(z0L e1 (T.tab.cell i k)).hi:=i64_in _ (by omega)
   cases hb1:c.l1.getD i false <;> cases hb2:c.l2.getD k false <;> rw [hb1] at ih' g1 <;> rw [hb2] at ih' g2 <;>
    simp (config:={ maxSteps:=2000000 }) only [go_sem,simprocAttr,Try.f80,rgH,boxT,Bool.false_eq_true,if_false,if_true,Bool.not_true,Bool.not_false,Bool.and_true,Bool.and_false,Bool.true_and,Bool.false_and] at ih' ⊢ <;>
    rw [exec_loop] <;>
    simp (config:={ maxSteps:=2000000 }) only [go_sem,simprocAttr,List.length_map,show T.cols.l.length=T.tab.C from rfl,hdk,k0,i0,Int.toNat_natCast,q1,q2,q3,hz1,hz2,g1,g2,w1,w2,w3,w4,z00 (show k < 2 ^ 63 - 1 by omega)] <;>
    exact ih' _ _ _ _ _ _ _ _ _ _ _ _ _ _ _ _ _ _ _ _ _ _ _ _ _ _ _ _ _ _ _ _ _ _ _ _ _ _ _ _ _ _ _ _ _ _ _ _ _ _ _ _ _ _ _ _ _ _ _ _ _ _ _ _ _ _ _ _ _ _ _ _ _ _ _ _ _ _ _ _ _ _ _ _ _ _ _ _ _ _ _ _ _ _ _ _ _ _ _ _ _ _ _ _ _ _ _ _ _ _ _ _ _ _ _ _ _ _ _ _ _ _ _ _ _ _ _ _ _ _ _ _ _ _ _ _ _ _ _ _ _ _ _ _ _ (by omega)
set_option maxRecDepth 10000
set_option maxHeartbeats 2000000
def dS (t:Tab) (c:CutA):Nat→Spn
 | 0=>⟨0,0⟩
 | i+1=>z0L (dS t c i) (z0h t.C (outP c i) (t.cell i))
def eR (t:Tab) (c:CutA) (e:Spn) (i:Nat):Spn:=if c.l1.getD i false then z0L e (t.row i) else e
def eS (t:Tab) (c:CutA):Nat→Spn
 | 0=>⟨0,0⟩
 | i+1=>z0L (eR t c (eS t c i) i) (z0h t.C (inP c i) (t.cell i))
theorem zPO {t:Tab} (hO:t.Mild) (c:CutA):∀ i,i≤t.R→z4m (dS t c i) (i * 2 ^ 38)
 | 0,_=>by simp [dS,z4m]
 | i+1,hi=>by
   have ih:=zPO hO c i (by omega)
   have h1:=z3g (p:=outP c i) (f:=t.cell i) (fun j hj=>hO.cell_ok (i:=i) (by omega) hj) t.C (Nat.le_refl _)
   have hC8:=hO.C8
   unfold z4m at ih ⊢
   simp only [dS,z0L];omega
theorem zSE {t:Tab} (hO:t.Mild) (c:CutA):∀ i,i≤t.R→z4m (eS t c i) (i * 2 ^ 38)
 | 0,_=>by simp [eS,z4m]
 | i+1,hi=>by
   have ih:=zSE hO c i (by omega)
   have h1:=z3g (p:=inP c i) (f:=t.cell i) (fun j hj=>hO.cell_ok (i:=i) (by omega) hj) t.C (Nat.le_refl _)
   have hC8:=hO.C8
   have h2:=hO.row_ok (show i < t.R by omega)
   unfold z4m at ih ⊢
   simp only [eS,eR]
   split <;> (try simp only [z0L]) <;> omega
theorem zN1 {T:TabV} (hT:T.Wf) (hO:T.tab.Mild) {c:CutA} (hc:c.Wf) (h1:c.l1.length=T.tab.R) (h2:c.l2.length=T.tab.C):∀ (n i:Nat) (j0 j1 j4 j10 j11 j12 j13 j14 j15 j16 j17 j18 j19 j20 j21 j22 j23 j24 j25 j26 j27 j28 j29 j30 j31 j32 j33 j34 j35 j36 j37 j38 j39 j40 j41 j42 j43 j44 j45 j46 j47 j48 j49 j50 j51 j52 j53 j54 j55 j56 j57 j58 j59 j60 j61 j62 j63 j64 j65 j66 j67 j68 j69 j70 j71 j72 j73 j74 j75 j76 j77 j78 j79 j80 j81 j82 j83 j84 j85 j86 j87 j88 j89 j90 j91 j92 j93 j94 j95 j96 j97 j98 j99 j100 j101 j102 j103 j104 j105 j106 j107 j108 j109 j110 j111 j112 j113 j114 j115 j116 j117 j118 j119 j120 j121 j122 j123 j124 j125 j126 j127 j128 j129 j130 j131 j132 j133 j134 j135 j136 j137 j138 j139 j140 j141 j142 j143 j144 j145 j146 j147 j148 j149 j150 j151 j152:AVal),i+n=T.tab.R →
    Goes (execT env (Try.f80.at [1,1,0,1,0]) ⟨[j0,j1,.ptr 0 0 0 0,.ptr 1 0 0 0,j4,.int .i64 (dS T.tab c i).lo,.int .i64 (eS T.tab c i).hi,.int .i64 (eS T.tab c i).lo,.int .i64 (dS T.tab c i).hi,.int .i64 i,j10,j11,j12,j13,j14,j15,j16,j17,j18,j19,j20,j21,j22,j23,j24,j25,j26,j27,j28,j29,j30,j31,j32,j33,j34,j35,j36,j37,j38,j39,j40,j41,j42,j43,j44,j45,j46,j47,j48,j49,j50,j51,j52,j53,j54,j55,j56,j57,j58,j59,j60,j61,j62,j63,j64,j65,j66,j67,j68,j69,j70,j71,j72,j73,j74,j75,j76,j77,j78,j79,j80,j81,j82,j83,j84,j85,j86,j87,j88,j89,j90,j91,j92,j93,j94,j95,j96,j97,j98,j99,j100,j101,j102,j103,j104,j105,j106,j107,j108,j109,j110,j111,j112,j113,j114,j115,j116,j117,j118,j119,j120,j121,j122,j123,j124,j125,j126,j127,j128,j129,j130,j131,j132,j133,j134,j135,j136,j137,j138,j139,j140,j141,j142,j143,j144,j145,j146,j147,j148,j149,j150,j151,j152],rgH T c,[],0,[]⟩) fun ex st=>
     ex=.exit 0∧FrP 153 [(2,.ptr 0 0 0 0),(3,.ptr 1 0 0 0),(5,.int .i64 (dS T.tab c T.tab.R).lo),(6,.int .i64 (eS T.tab c T.tab.R).hi),(7,.int .i64 (eS T.tab c T.tab.R).lo),(8,.int .i64 (dS T.tab c T.tab.R).hi)] (rgH T c) [] 0 [] st:=by
 have hR8:=hO.R8
 intro n
 induction n with
 | zero=>
   intro i;intros;rename_i hi
   have hd:decide ((i:Int) < (T.tab.R:Int))=false:=by simp;omega
   have:i=T.tab.R:=by omega
   subst this
   simp only [go_sem,simprocAttr,Try.f80,rgH,boxT]
   rw [exec_loop]
   simp only [go_sem,simprocAttr,List.length_map,show T.rows.l.length=T.tab.R from rfl,hd]
   exact frP (by kernel_rfl)
 | succ n ih=>
   intro i;intros;rename_i hi
   have hiR:i < T.tab.R:=by omega
   have hd:decide ((i:Int) < (T.tab.R:Int))=true:=by simp;omega
   have i0:(0:Int)≤(i:Int):=by omega
   obtain ⟨hx1,hx2⟩:=TabV.rowAt hT hiR
   have hs:=z1b hc.s1 (List.getElem?_eq_getElem (show i < c.l1.length by omega))
   have gb:=z0f (l:=c.l1) (i:=i) (by omega)
   have bd0:=zPO hO c i (by omega)
   have be:=zSE hO c i (by omega)
   have bd:z4m (dS T.tab c i) (2 ^ 42):=by unfold z4m at bd0 ⊢;omega
   unfold z4m at be
   have bi:=hO.row_ok hiR
   have w1:IntKind.i64.wrap ((eS T.tab c i).lo+(T.tab.row i).lo)=(z0L (eS T.tab c i) (T.tab.row i)).lo:=i64_in _ (by omega)
   have w2:IntKind.i64.wrap ((eS T.tab c i).hi+(T.tab.row i).hi)=(z0L (eS T.tab c i) (T.tab.row i)).hi:=i64_in _ (by omega)
   have he:z4m (eR T.tab c (eS T.tab c i) i) (2 ^ 42):=by
    unfold z4m eR
    split <;> (try simp only [z0L]) <;> omega
   have pz:∀ (d:Spn) p f,z0L d (z0h 0 p f)=d:=fun d p f=>by simp [z0L,z0h,sumN]
   have ed:z0L (dS T.tab c i) (z0h T.tab.C (outP c i) (T.tab.cell i))=dS T.tab c (i+1):=rfl
   have ee:z0L (eR T.tab c (eS T.tab c i) i) (z0h T.tab.C (inP c i) (T.tab.cell i))=eS T.tab c (i+1):=rfl
   have ih':=ih (i+1)
   simp (config:={ maxSteps:=2000000 }) only [go_sem,simprocAttr,Try.f80,Int.ofNat_zero,Int.natCast_zero,pz,rgH,boxT,ed,ee] at ih' ⊢
   cases hb:c.l1.getD i false with
   | false=>
     have er:eR T.tab c (eS T.tab c i) i=eS T.tab c i:=by unfold eR;rw [hb];rfl
     rw [hb] at gb
     obtain ⟨ex,st,hx,hp⟩:=zH5 hT hO hc h1 h2 hiR (dS T.tab c i) (eR T.tab c (eS T.tab c i) i) bd he T.tab.C 0 _ _ _ _ _ _ _ _ _ _ _ _ _ _ _ _ _ _ _ _ _ _ _ _ _ _ _ _ _ _ _ _ _ _ _ _ _ _ _ _ _ _ _ _ _ _ _ _ _ _ _ _ _ _ _ _ _ _ _ _ _ _ _ _ _ _ _ _ _ _ _ _ _ _ _ _ _ _ _ _ _ _ _ _ _ _ _ _ _ _ _ _ _ _ _ _ _ _ _ _ _ _ _ _ _ _ _ _ _ _ _ _ _ _ _ _ _ _ _ _ _ _ _ _ _ _ _ _ _ _ _ _ _ _ _ _ _ _ _ _ _ _ _ _ _ (by omega)
     obtain ⟨rfl,jp,rfl⟩:=hp
     simp (config:={ maxSteps:=2000000 }) only [go_sem,simprocAttr,Try.f80,Int.ofNat_zero,Int.natCast_zero,pz,rgH,boxT,ed,ee] at hx
     rw [er] at hx
     rw [exec_loop]
     simp only [go_sem,simprocAttr,List.length_map,show T.rows.l.length=T.tab.R from rfl,hd,i0,Int.toNat_natCast,hs,gb]
     rw [hx]
     simp only [go_sem,simprocAttr,z00 (show i < 2 ^ 63 - 1 by omega)]
     exact ih' _ _ _ _ _ _ _ _ _ _ _ _ _ _ _ _ _ _ _ _ _ _ _ _ _ _ _ _ _ _ _ _ _ _ _ _ _ _ _ _ _ _ _ _ _ _ _ _ _ _ _ _ _ _ _ _ _ _ _ _ _ _ _ _ _ _ _ _ _ _ _ _ _ _ _ _ _ _ _ _ _ _ _ _ _ _ _ _ _ _ _ _ _ _ _ _ _ _ _ _ _ _ _ _ _ _ _ _ _ _ _ _ _ _ _ _ _ _ _ _ _ _ _ _ _ _ _ _ _ _ _ _ _ _ _ _ _ _ _ _ _ _ _ _ _ _ (by omega)
   | true=>
     have er:eR T.tab c (eS T.tab c i) i=z0L (eS T.tab c i) (T.tab.row i):=by unfold eR;rw [hb];rfl
     rw [hb] at gb
     obtain ⟨ex,st,hx,hp⟩:=zH5 hT hO hc h1 h2 hiR (dS T.tab c i) (eR T.tab c (eS T.tab c i) i) bd he T.tab.C 0 _ _ _ _ _ _ _ _ _ _ _ _ _ _ _ _ _ _ _ _ _ _ _ _ _ _ _ _ _ _ _ _ _ _ _ _ _ _ _ _ _ _ _ _ _ _ _ _ _ _ _ _ _ _ _ _ _ _ _ _ _ _ _ _ _ _ _ _ _ _ _ _ _ _ _ _ _ _ _ _ _ _ _ _ _ _ _ _ _ _ _ _ _ _ _ _ _ _ _ _ _ _ _ _ _ _ _ _ _ _ _ _ _ _ _ _ _ _ _ _ _ _ _ _ _ _ _ _ _ _ _ _ _ _ _ _ _ _ _ _ _ _ _ _ _ (by omega)
     obtain ⟨rfl,jp,rfl⟩:=hp
     simp (config:={ maxSteps:=2000000 }) only [go_sem,simprocAttr,Try.f80,Int.ofNat_zero,Int.natCast_zero,pz,rgH,boxT,ed,ee] at hx
     rw [er] at hx
     rw [exec_loop]
     simp only [go_sem,simprocAttr,List.length_map,show T.rows.l.length=T.tab.R from rfl,hd,i0,Int.toNat_natCast,hs,gb,hx1,hx2,w1,w2]
     rw [hx]
     simp only [go_sem,simprocAttr,z00 (show i < 2 ^ 63 - 1 by omega)]
     exact ih' _ _ _ _ _ _ _ _ _ _ _ _ _ _ _ _ _ _ _ _ _ _ _ _ _ _ _ _ _ _ _ _ _ _ _ _ _ _ _ _ _ _ _ _ _ _ _ _ _ _ _ _ _ _ _ _ _ _ _ _ _ _ _ _ _ _ _ _ _ _ _ _ _ _ _ _ _ _ _ _ _ _ _ _ _ _ _ _ _ _ _ _ _ _ _ _ _ _ _ _ _ _ _ _ _ _ _ _ _ _ _ _ _ _ _ _ _ _ _ _ _ _ _ _ _ _ _ _ _ _ _ _ _ _ _ _ _ _ _ _ _ _ _ _ _ _ (by omega)
theorem zQB {T:TabV} (hT:T.Wf) (hO:T.tab.Mild) {c:CutA} (hc:c.Wf) (h2:c.l2.length=T.tab.C) (d:Spn) (hd:z4m d (2 ^ 42)) (v6 v7:AVal):∀ (n k:Nat) (j0 j1 j4 j9 j10 j12 j13 j14 j15 j16 j17 j18 j19 j20 j21 j22 j23 j24 j25 j26 j27 j28 j29 j30 j31 j32 j33 j34 j35 j36 j37 j38 j39 j40 j41 j42 j43 j44 j45 j46 j47 j48 j49 j50 j51 j52 j53 j54 j55 j56 j57 j58 j59 j60 j61 j62 j63 j64 j65 j66 j67 j68 j69 j70 j71 j72 j73 j74 j75 j76 j77 j78 j79 j80 j81 j82 j83 j84 j85 j86 j87 j88 j89 j90 j91 j92 j93 j94 j95 j96 j97 j98 j99 j100 j101 j102 j103 j104 j105 j106 j107 j108 j109 j110 j111 j112 j113 j114 j115 j116 j117 j118 j119 j120 j121 j122 j123 j124 j125 j126 j127 j128 j129 j130 j131 j132 j133 j134 j135 j136 j137 j138 j139 j140 j141 j142 j143 j144 j145 j146 j147 j148 j149 j150 j151 j152:AVal),k+n=T.tab.C →
    Goes (execT env (Try.f80.at [1,1,1,0,1,0]) ⟨[j0,j1,.ptr 0 0 0 0,.ptr 1 0 0 0,j4,.int .i64 (z0L d (z0h k (fun k=>c.l2.getD k false) T.tab.col)).lo,v6,v7,.int .i64 (z0L d (z0h k (fun k=>c.l2.getD k false) T.tab.col)).hi,j9,j10,.int .i64 k,j12,j13,j14,j15,j16,j17,j18,j19,j20,j21,j22,j23,j24,j25,j26,j27,j28,j29,j30,j31,j32,j33,j34,j35,j36,j37,j38,j39,j40,j41,j42,j43,j44,j45,j46,j47,j48,j49,j50,j51,j52,j53,j54,j55,j56,j57,j58,j59,j60,j61,j62,j63,j64,j65,j66,j67,j68,j69,j70,j71,j72,j73,j74,j75,j76,j77,j78,j79,j80,j81,j82,j83,j84,j85,j86,j87,j88,j89,j90,j91,j92,j93,j94,j95,j96,j97,j98,j99,j100,j101,j102,j103,j104,j105,j106,j107,j108,j109,j110,j111,j112,j113,j114,j115,j116,j117,j118,j119,j120,j121,j122,j123,j124,j125,j126,j127,j128,j129,j130,j131,j132,j133,j134,j135,j136,j137,j138,j139,j140,j141,j142,j143,j144,j145,j146,j147,j148,j149,j150,j151,j152],rgH T c,[],0,[]⟩) fun ex st=>
     ex=.exit 4∧FrP 153 [(5,.int .i64 (z0L d (z0h T.tab.C (fun k=>c.l2.getD k false) T.tab.col)).lo),(6,v6),(7,v7),(8,.int .i64 (z0L d (z0h T.tab.C (fun k=>c.l2.getD k false) T.tab.col)).hi)] (rgH T c) [] 0 [] st:=by
 have hC8:=hO.C8
 intro n
 induction n with
 | zero=>
   intro k;intros;rename_i hk
   have hd:decide ((k:Int) < (T.tab.C:Int))=false:=by simp;omega
   have:k=T.tab.C:=by omega
   subst this
   simp only [go_sem,simprocAttr,Try.f80,rgH,boxT]
   rw [exec_loop]
   simp only [go_sem,simprocAttr,List.length_map,show T.cols.l.length=T.tab.C from rfl,hd]
   exact frP (by kernel_rfl)
 | succ n ih=>
   intro k;intros;rename_i hk
   have hkC:k < T.tab.C:=by omega
   have hdk:decide ((k:Int) < (T.tab.C:Int))=true:=by simp;omega
   have k0:(0:Int)≤(k:Int):=by omega
   obtain ⟨hx1,hx2⟩:=TabV.colAt hT hkC
   have hs:=z1b hc.s2 (List.getElem?_eq_getElem (show k < c.l2.length by omega))
   have gb:=z0f (l:=c.l2) (i:=k) (by omega)
   have bd:=z3g (p:=fun k=>c.l2.getD k false) (f:=T.tab.col) (fun j hj=>hO.col_ok hj) k (by omega)
   have bi:=hO.col_ok hkC
   have e1:=z4b d k (fun k=>c.l2.getD k false) T.tab.col
   have ih':=ih (k+1)
   rw [e1] at ih'
   have bd:(-(2 ^ 43)≤(z0L d (z0h k (fun k=>c.l2.getD k false) T.tab.col)).lo∧(z0L d (z0h k (fun k=>c.l2.getD k false) T.tab.col)).lo≤2 ^ 43)∧-(2 ^ 43)≤(z0L d (z0h k (fun k=>c.l2.getD k false) T.tab.col)).hi∧(z0L d (z0h k (fun k=>c.l2.getD k false) T.tab.col)).hi≤2 ^ 43:=by unfold z4m at hd;simp only [z0L];omega
   generalize z0L d (z0h k (fun k=>c.l2.getD k false) T.tab.col)=d1 at bd ih' ⊢
   have w1:IntKind.i64.wrap (d1.lo+(T.tab.col k).lo)=(z0L d1 (T.tab.col k)).lo:=i64_in _ (by omega)
   have w2:IntKind.i64.wrap (d1.hi+(T.tab.col k).hi)=(z0L d1 (T.tab.col k)).hi:=i64_in _ (by omega)
   cases hb:c.l2.getD k false <;> rw [hb] at ih' gb <;>
    simp (config:={ maxSteps:=2000000 }) only [go_sem,simprocAttr,Try.f80,rgH,boxT,Bool.false_eq_true,if_false,if_true] at ih' ⊢ <;>
    rw [exec_loop] <;>
    simp only [go_sem,simprocAttr,List.length_map,show T.cols.l.length=T.tab.C from rfl,hdk,k0,Int.toNat_natCast,hx1,hx2,hs,gb,w1,w2,z00 (show k < 2 ^ 63 - 1 by omega)] <;>
    exact ih' _ _ _ _ _ _ _ _ _ _ _ _ _ _ _ _ _ _ _ _ _ _ _ _ _ _ _ _ _ _ _ _ _ _ _ _ _ _ _ _ _ _ _ _ _ _ _ _ _ _ _ _ _ _ _ _ _ _ _ _ _ _ _ _ _ _ _ _ _ _ _ _ _ _ _ _ _ _ _ _ _ _ _ _ _ _ _ _ _ _ _ _ _ _ _ _ _ _ _ _ _ _ _ _ _ _ _ _ _ _ _ _ _ _ _ _ _ _ _ _ _ _ _ _ _ _ _ _ _ _ _ _ _ _ _ _ _ _ _ _ _ _ _ _ _ _ (by omega)
theorem zS9 (t:Tab) (c:CutA):∀ n,(dS t c n).lo=sumN n (fun i=>sumN t.C fun k=>if c.l1.getD i false && !c.l2.getD k false then (t.cell i k).lo else 0)∧(dS t c n).hi=sumN n (fun i=>sumN t.C fun k=>if c.l1.getD i false && !c.l2.getD k false then (t.cell i k).hi else 0)
 | 0=>⟨rfl,rfl⟩
 | n+1=>by
   obtain ⟨h1,h2⟩:=zS9 t c n
   simp only [dS,z0L,sumN,h1,h2]
   exact ⟨rfl,rfl⟩
theorem zSF (t:Tab) (c:CutA):∀ n,(eS t c n).lo=sumN n (fun i=>if c.l1.getD i false then (t.row i).lo else 0)+sumN n (fun i=>sumN t.C fun k=>if !c.l1.getD i false && c.l2.getD k false then (t.cell i k).lo else 0)∧(eS t c n).hi=sumN n (fun i=>if c.l1.getD i false then (t.row i).hi else 0)+sumN n (fun i=>sumN t.C fun k=>if !c.l1.getD i false && c.l2.getD k false then (t.cell i k).hi else 0)
 | 0=>⟨rfl,rfl⟩
 | n+1=>by
   obtain ⟨h1,h2⟩:=zSF t c n
   have a1:(z0h t.C (inP c n) (t.cell n)).lo=sumN t.C fun k=>if !c.l1.getD n false && c.l2.getD k false then (t.cell n k).lo else 0:=rfl
   have a2:(z0h t.C (inP c n) (t.cell n)).hi=sumN t.C fun k=>if !c.l1.getD n false && c.l2.getD k false then (t.cell n k).hi else 0:=rfl
   simp only [eS,eR,z0L,sumN,a1,a2]
   split <;> simp only [h1,h2] <;> omega
theorem zH6 {T:TabV} (hT:T.Wf) (hO:T.tab.Mild) {c:CutA} (hc:c.Wf) (h1:c.l1.length=T.tab.R) (h2:c.l2.length=T.tab.C):∃ H',runT env 80 [T.v,c.v] [] 0=some (.ret (.bool (T.tab.gap (fun i=>c.l1.getD i false) fun k=>c.l2.getD k false)),H'):=by
 obtain ⟨ex,st,hx,hp⟩:=zN1 hT hO hc h1 h2 T.tab.R 0 _ _ _ _ _ _ _ _ _ _ _ _ _ _ _ _ _ _ _ _ _ _ _ _ _ _ _ _ _ _ _ _ _ _ _ _ _ _ _ _ _ _ _ _ _ _ _ _ _ _ _ _ _ _ _ _ _ _ _ _ _ _ _ _ _ _ _ _ _ _ _ _ _ _ _ _ _ _ _ _ _ _ _ _ _ _ _ _ _ _ _ _ _ _ _ _ _ _ _ _ _ _ _ _ _ _ _ _ _ _ _ _ _ _ _ _ _ _ _ _ _ _ _ _ _ _ _ _ _ _ _ _ _ _ _ _ _ _ _ _ _ _ _ _ _ _ (by omega)
 obtain ⟨rfl,jp,rfl⟩:=hp
 have bd0:=zPO hO c T.tab.R (Nat.le_refl _)
 have hR8:=hO.R8
 have bd:z4m (dS T.tab c T.tab.R) (2 ^ 42):=by unfold z4m at bd0 ⊢;omega
 obtain ⟨ex2,st2,hx2,hp2⟩:=zQB hT hO hc h2 (dS T.tab c T.tab.R) bd (.int .i64 (eS T.tab c T.tab.R).hi) (.int .i64 (eS T.tab c T.tab.R).lo) T.tab.C 0 _ _ _ _ _ _ _ _ _ _ _ _ _ _ _ _ _ _ _ _ _ _ _ _ _ _ _ _ _ _ _ _ _ _ _ _ _ _ _ _ _ _ _ _ _ _ _ _ _ _ _ _ _ _ _ _ _ _ _ _ _ _ _ _ _ _ _ _ _ _ _ _ _ _ _ _ _ _ _ _ _ _ _ _ _ _ _ _ _ _ _ _ _ _ _ _ _ _ _ _ _ _ _ _ _ _ _ _ _ _ _ _ _ _ _ _ _ _ _ _ _ _ _ _ _ _ _ _ _ _ _ _ _ _ _ _ _ _ _ _ _ _ _ _ _ _ (by omega)
 obtain ⟨rfl,jq,rfl⟩:=hp2
 have pz:∀ (d:Spn) p f,z0L d (z0h 0 p f)=d:=fun d p f=>by simp [z0L,z0h,sumN]
 have z1:dS T.tab c 0=⟨0,0⟩:=rfl
 have z2:eS T.tab c 0=⟨0,0⟩:=rfl
 simp only [go_sem,simprocAttr,Try.f80,Int.ofNat_zero,Int.natCast_zero,rgH,boxT,pz,z1,z2] at hx hx2
 obtain ⟨q1,q2⟩:=zS9 T.tab c T.tab.R
 obtain ⟨q3,q4⟩:=zSF T.tab c T.tab.R
 have k1:(z0L (dS T.tab c T.tab.R) (z0h T.tab.C (fun k=>c.l2.getD k false) T.tab.col)).lo=T.tab.asked (fun i=>c.l1.getD i false) fun k=>c.l2.getD k false:=by simp only [z0L,q1];rfl
 have k2:(z0L (dS T.tab c T.tab.R) (z0h T.tab.C (fun k=>c.l2.getD k false) T.tab.col)).hi=T.tab.taken (fun i=>c.l1.getD i false) fun k=>c.l2.getD k false:=by simp only [z0L,q2];rfl
 have k3:(eS T.tab c T.tab.R).lo=T.tab.given (fun i=>c.l1.getD i false) fun k=>c.l2.getD k false:=q3
 have k4:(eS T.tab c T.tab.R).hi=T.tab.comes (fun i=>c.l1.getD i false) fun k=>c.l2.getD k false:=q4
 simp only [k1,k2,k3,k4] at hx hx2
 rw [run_unfold fn80 rfl]
 unfold Tab.gap
 simp only [go_sem,simprocAttr,Try.f80]
 rw [hx]
 simp only [go_sem,simprocAttr,rgH,boxT,k3,k4]
 rw [hx2]
 cases d1:decide (T.tab.comes (fun i=>c.l1.getD i false) (fun k=>c.l2.getD k false) < T.tab.asked (fun i=>c.l1.getD i false) fun k=>c.l2.getD k false) <;>
  (simp only [go_sem,simprocAttr,rgH,boxT,k1,k2,d1,unwind,modeEx,resultsOf,one]
   exact ⟨_,rfl⟩)
theorem zEG {T:TabV} (hT:T.Wf) (hO:T.tab.Mild) {c:CutA} (hc:c.Wf) (h1:c.l1.length=T.tab.R) (h2:c.l2.length=T.tab.C) (ro:Nat) (H:Heap) (nx:Nat):callT env 80 [T.v,c.v] ro H nx=some (.ret (.bool (T.tab.gap (fun i=>c.l1.getD i false) fun k=>c.l2.getD k false)),.ups []):=by
 obtain ⟨H',h⟩:=zH6 hT hO hc h1 h2
 exact call_pure rfl rfl rfl (z3T T c) h rfl ro H nx
set_option maxRecDepth 10000
set_option maxHeartbeats 2000000
def rshI (a:Int) (i:Nat):Int:=a.fdiv (2 ^ min i 64)
def zKk (a:Int) (i:Nat):Int:=IntKind.i64.wrap ((BitVec.ofInt 64 (rshI a i)) &&& (BitVec.ofInt 64 1)).toNat
def rbit (a:Int) (i:Nat):Bool:=decide (zKk a i=1)
theorem zMr:∀ a,a < 256→∀ i,i < 8→decide (zKk (a:Nat) i=1)=Nat.testBit a i:=by decide +kernel
theorem zKl {a i:Nat} (ha:a < 256) (hi:i < 8):rbit a i=Nat.testBit a i:=zMr a ha i hi
theorem zT3 (a:Int) (i:Nat) (z:AVal):binOp env .shr 3 ⟨.int .i64,1,8,z⟩ (.int .i64 a) (.int .i64 (i:Int))=some (.int .i64 (rshI a i)):=by
 simp only [binOp]
 rw [if_neg (by omega)]
 rfl
theorem zRh (a:Int) (i:Nat) (z:AVal):binOp env .and 3 ⟨.int .i64,1,8,z⟩ (.int .i64 (rshI a i)) (.int .i64 1)=some (.int .i64 (zKk a i)):=rfl
def z0s (a:Int) (n:Nat):List Bool:=(List.range n).map (rbit a)
theorem zAG (a:Int) (n:Nat):z0s a (n+1)=z0s a n++[rbit a n]:=by simp [z0s,List.range_succ]
theorem z18 (a:Int) (n:Nat):(z0s a n).length=n:=by simp [z0s]
theorem z4y {a:Int} {n i:Nat} (h:i < n):(z0s a n).getD i false=rbit a i:=getD_some (by simp [z0s,h])
theorem zQ7 {T:TabV} (hO:T.tab.Mild) (a b:Int):∀ (n i g1:Nat) (j0 j4 j5 j9 j10 j11 j12 j13 j14 j15 j16 j17 j18 j19 j20 j21 j22 j23 j24 j25 j26 j27 j28 j29 j30 j31 j32 j33 j34 j35 j36 j37 j38 j39 j40 j41 j42 j43 j44:AVal),i+n=T.tab.R →
    Goes (execT env (Try.f94.at [1,1,0,1,0]) ⟨[j0,.int .i64 a,.int .i64 b,.ptr 0 0 0 0,j4,j5,.ptr 1 0 0 0,.ptr 4 0 0 0,.int .i64 i,j9,j10,j11,j12,j13,j14,j15,j16,j17,j18,j19,j20,j21,j22,j23,j24,j25,j26,j27,j28,j29,j30,j31,j32,j33,j34,j35,j36,j37,j38,j39,j40,j41,j42,j43,j44],ctH T g1 0 (z0s a i) [],[],0,[7]⟩) fun e s=>
     e=.exit 0∧∃ (g1:Nat),FrP 45 [(1,.int .i64 a),(2,.int .i64 b),(3,.ptr 0 0 0 0),(6,.ptr 1 0 0 0),(7,.ptr 4 0 0 0)] (ctH T g1 0 (z0s a T.tab.R) []) [] 0 [7] s:=by
 have hR8:=hO.R8
 intro n
 induction n with
 | zero=>
   intro i g1;intros;rename_i hi
   have hd:decide ((i:Int) < (T.tab.R:Int))=false:=by simp;omega
   have:i=T.tab.R:=by omega
   subst this
   simp only [go_sem,simprocAttr,Try.f94,ctH,boxT]
   rw [exec_loop]
   simp only [go_sem,simprocAttr,List.length_map,show T.rows.l.length=T.tab.R from rfl,hd]
   exact ⟨g1,frP (by kernel_rfl)⟩
 | succ n ih=>
   intro i g1;intros;rename_i hi
   have hd:decide ((i:Int) < (T.tab.R:Int))=true:=by simp;omega
   obtain ⟨g1',ap⟩:=z32 (H:=ctH T g1 0 (z0s a i) []) (id:=2) (l:=z0s a i) (b:=rbit a i) (cl:=true) rfl (by rw [z18];omega) 5 (ro:=0) (Nat.zero_le _)
   rw [← zAG] at ap
   have hb:decide (zKk a i=1)=rbit a i:=rfl
   have ih':=ih (i+1) g1'
   simp only [ctH,boxT,List.length_nil] at ap
   simp only [go_sem,simprocAttr,Try.f94,ctH,boxT,List.length_nil] at ih' ⊢
   rw [exec_loop]
   simp only [go_sem,simprocAttr,List.length_map,show T.rows.l.length=T.tab.R from rfl,hd,zT3,zRh,hb,ap]
   rw [apart_ok]
   · simp only [go_sem,simprocAttr,ctH,z00 (show i < 2 ^ 63 - 1 by omega)]
     exact ih' _ _ _ _ _ _ _ _ _ _ _ _ _ _ _ _ _ _ _ _ _ _ _ _ _ _ _ _ _ _ _ _ _ _ _ _ _ _ _ (by omega)
   · kernel_rfl
theorem zQ6 {T:TabV} (hO:T.tab.Mild) (b:Int) (g1:Nat) (l1:List Bool):∀ (n i g2:Nat) (j0 j1 j4 j5 j8 j10 j11 j12 j13 j14 j15 j16 j17 j18 j19 j20 j21 j22 j23 j24 j25 j26 j27 j28 j29 j30 j31 j32 j33 j34 j35 j36 j37 j38 j39 j40 j41 j42 j43 j44:AVal),i+n=T.tab.C →
    Goes (execT env (Try.f94.at [1,1,1,0,1,0]) ⟨[j0,j1,.int .i64 b,.ptr 0 0 0 0,j4,j5,.ptr 1 0 0 0,.ptr 4 0 0 0,j8,.int .i64 i,j10,j11,j12,j13,j14,j15,j16,j17,j18,j19,j20,j21,j22,j23,j24,j25,j26,j27,j28,j29,j30,j31,j32,j33,j34,j35,j36,j37,j38,j39,j40,j41,j42,j43,j44],ctH T g1 g2 l1 (z0s b i),[],0,[7]⟩) fun e s=>
     e=.exit 2∧∃ (g2:Nat),FrP 45 [(6,.ptr 1 0 0 0),(7,.ptr 4 0 0 0)] (ctH T g1 g2 l1 (z0s b T.tab.C)) [] 0 [7] s:=by
 have hC8:=hO.C8
 intro n
 induction n with
 | zero=>
   intro i g2;intros;rename_i hi
   have hd:decide ((i:Int) < (T.tab.C:Int))=false:=by simp;omega
   have:i=T.tab.C:=by omega
   subst this
   simp only [go_sem,simprocAttr,Try.f94,ctH,boxT]
   rw [exec_loop]
   simp only [go_sem,simprocAttr,List.length_map,show T.cols.l.length=T.tab.C from rfl,hd]
   exact ⟨g2,frP (by kernel_rfl)⟩
 | succ n ih=>
   intro i g2;intros;rename_i hi
   have hd:decide ((i:Int) < (T.tab.C:Int))=true:=by simp;omega
   obtain ⟨g2',ap⟩:=z32 (H:=ctH T g1 g2 l1 (z0s b i)) (id:=3) (l:=z0s b i) (b:=rbit b i) (cl:=true) rfl (by rw [z18];omega) 5 (ro:=0) (Nat.zero_le _)
   rw [← zAG] at ap
   have hb:decide (zKk b i=1)=rbit b i:=rfl
   have ih':=ih (i+1) g2'
   simp only [ctH,boxT] at ap
   simp only [go_sem,simprocAttr,Try.f94,ctH,boxT] at ih' ⊢
   rw [exec_loop]
   simp only [go_sem,simprocAttr,List.length_map,show T.cols.l.length=T.tab.C from rfl,hd,zT3,zRh,hb,ap]
   rw [apart_ok]
   · simp only [go_sem,simprocAttr,ctH,z00 (show i < 2 ^ 63 - 1 by omega)]
     exact ih' _ _ _ _ _ _ _ _ _ _ _ _ _ _ _ _ _ _ _ _ _ _ _ _ _ _ _ _ _ _ _ _ _ _ _ _ _ _ _ _ (by omega)
   · kernel_rfl
def zAF (t:Tab) (a b:Int):CutA:=⟨false,1,z0s a t.R,false,1,z0s b t.C⟩
theorem zH2 {t:Tab} (hO:t.Mild) (a b:Int):(zAF t a b).Wf:=by
 have:=hO.R8
 have:=hO.C8
 exact ⟨.inr rfl,.inr rfl,by simp only [zAF,z18];omega,by simp only [zAF,z18];omega⟩
theorem zEB {T:TabV} (hO:T.tab.Mild) (a b:Int) (ro:Nat) (H:Heap) (nx:Nat):callT env 94 [T.v,.int .i64 a,.int .i64 b] ro H nx=some (.ret (zAF T.tab a b).v,.ups []):=by
 have hR1:=hO.R1
 have hC1:=hO.C1
 obtain ⟨e1,t1,hx1,hp1⟩:=zQ7 hO a b T.tab.R 0 0 _ _ _ _ _ _ _ _ _ _ _ _ _ _ _ _ _ _ _ _ _ _ _ _ _ _ _ _ _ _ _ _ _ _ _ _ _ _ _ (by omega)
 obtain ⟨rfl,g1,jp,rfl⟩:=hp1
 obtain ⟨e2,t2,hx2,hp2⟩:=zQ6 hO b g1 (z0s a T.tab.R) T.tab.C 0 0 _ _ _ _ _ _ _ _ _ _ _ _ _ _ _ _ _ _ _ _ _ _ _ _ _ _ _ _ _ _ _ _ _ _ _ _ _ _ _ _ (by omega)
 obtain ⟨rfl,g2,jq,rfl⟩:=hp2
 have s0:∀ a,z0s a 0=[]:=fun _=>rfl
 have b0:z0A []=[]:=rfl
 have n1:z0A (z0s a T.tab.R) ≠ []:=by
  intro h;have:=congrArg List.length h
  rw [z0K,z18] at this;exact absurd this (by show T.tab.R ≠ 0;omega)
 have n2:z0A (z0s b T.tab.C) ≠ []:=by
  intro h;have:=congrArg List.length h
  rw [z0K,z18] at this;exact absurd this (by show T.tab.C ≠ 0;omega)
 simp only [go_sem,simprocAttr,Try.f94,s0,b0,z1c,z1d,ctH,boxT,List.length_nil,Int.natCast_zero,Int.ofNat_zero] at hx1
 simp only [go_sem,simprocAttr,Try.f94,s0,b0,z1c,z1d,ctH,boxT,List.length_nil,Int.natCast_zero,Int.ofNat_zero] at hx2
 have:∃ H':Heap,H'[2]?=some (accB 1 g1 (z0A (z0s a T.tab.R)))∧H'[3]?=some (accB 1 g2 (z0A (z0s b T.tab.C)))∧runT env 94 [T.v,.int .i64 a,.int .i64 b] [] 0=some (.ret (.agg [.ref 2 (accG g1 (z0A (z0s a T.tab.R))) 0 (z0s a T.tab.R).length false,.ref 3 (accG g2 (z0A (z0s b T.tab.C))) 0 (z0s b T.tab.C).length false]),H'):=by
  refine ⟨?_,?_,?_,?_⟩
  case refine_4=>
   rw [run_unfold fn94 rfl]
   simp only [go_sem,simprocAttr,Try.f94,z0I]
   rw [hx1]
   simp only [go_sem,simprocAttr,ctH,boxT,b0,z1c,z1d]
   rw [hx2]
   simp only [go_sem,simprocAttr,ctH,boxT,unwind,modeEx,resultsOf,one]
   rfl
  · rfl
  · rfl
 obtain ⟨H',h6,h7,h⟩:=this
 have t1:(z0A (z0s a T.tab.R)).take (z0s a T.tab.R).length=z0A (z0s a T.tab.R):=List.take_of_length_le (by rw [z0K];exact Nat.le_refl _)
 have t2:(z0A (z0s b T.tab.C)).take (z0s b T.tab.C).length=z0A (z0s b T.tab.C):=List.take_of_length_le (by rw [z0K];exact Nat.le_refl _)
 have a1:accB 1 g1 (z0A (z0s a T.tab.R))=.cells g1 1 true (z0A (z0s a T.tab.R)):=if_neg n1
 have a2:accB 1 g2 (z0A (z0s b T.tab.C))=.cells g2 1 true (z0A (z0s b T.tab.C)):=if_neg n2
 have c1:accG g1 (z0A (z0s a T.tab.R))=g1:=if_neg n1
 have c2:accG g2 (z0A (z0s b T.tab.C))=g2:=if_neg n2
 rw [a1] at h6
 rw [a2] at h7
 rw [c1,c2] at h
 refine z0o (w:=(zAF T.tab a b).v) rfl rfl rfl (by simp [underL,AVal.under,TabV.under]) h ?_ ((zAF T.tab a b).under 0) ro H nx
 simp [handBack,toLit,noRef,AVal.under,mapO,h6,h7,t1,t2,CutA.v,zAF,z0K]
def gapN (t:Tab) (a b:Nat):Bool:=t.gap (fun i=>a.testBit i) fun k=>b.testBit k
theorem zJi (r:Nat→Bool):∀ n,∃ a,a < 2 ^ n∧∀ i,i < n→Nat.testBit a i=r i
 | 0=>⟨0,by decide,fun i hi=>by omega⟩
 | n+1=>by
   obtain ⟨a,ha,h⟩:=zJi r n
   have h2:2 ^ n < 2 ^ (n+1):=Nat.pow_lt_pow_right (by decide) (by omega)
   cases hr:r n with
   | false=>
     refine ⟨a,by omega,fun i hi=>?_⟩
     by_cases e:i=n
     · subst e;rw [hr,Nat.testBit_lt_two_pow ha]
     · exact h i (by omega)
   | true=>
     refine ⟨a ||| 2 ^ n,Nat.or_lt_two_pow (by omega) h2,fun i hi=>?_⟩
     rw [Nat.testBit_or]
     by_cases e:i=n
     · subst e;rw [hr,Nat.testBit_two_pow_self,Bool.or_true]
     · rw [Nat.testBit_two_pow_of_ne (Ne.symm e),Bool.or_false];exact h i (by omega)
theorem zP5 {t:Tab} (hO:t.Mild):canB t=allN (fun a=>allN (fun b=>!gapN t a b) 0 (2 ^ t.C)) 0 (2 ^ t.R):=by
 rw [Bool.eq_iff_iff,z0S]
 simp only [z44,Bool.not_eq_true']
 constructor
 · intro h a _ _ b _ _
   exact z3C h _ _
 · intro h
   rcases z8j hO with hc | ⟨r,c,hg⟩
   · exact hc
   · obtain ⟨a,ha,ha2⟩:=zJi r t.R
     obtain ⟨b,hb,hb2⟩:=zJi c t.C
     have:=h a (by omega) (by omega) b (by omega) (by omega)
     unfold gapN at this
     rw [z9o (r':=r) (c':=c) ha2 hb2,hg] at this
     cases this
theorem zQS:∀ r:Nat,r < 9→IntKind.i64.wrap ((1:Int) * 2 ^ (min (r:Int).toNat 64))=((2 ^ r:Nat):Int):=by decide +kernel
theorem zET {r:Nat} (hr:r≤8) (z:AVal):binOp env .shl 3 ⟨.int .i64,1,8,z⟩ (.int .i64 1) (.int .i64 (r:Int))=some (.int .i64 ((2 ^ r:Nat):Int)):=by
 simp only [binOp]
 rw [if_neg (by omega),← zQS r (by omega)]
 rfl
theorem zOQ {r:Nat} (h:r≤8):2 ^ r≤256:=Nat.pow_le_pow_right (by decide) h
theorem zJL {T:TabV} (hT:T.Wf) (hO:T.tab.Mild) {a:Nat} (ha:a < 256):∀ (n b:Nat) (j0 j2 j5 j6 j7 j8 j9 j10 j11 j12 j13 j14 j15 j16 j17 j18 j19 j20 j21 j22 j23 j24 j25 j26:AVal),b+n=2 ^ T.tab.C →
    Goes (execT env (Try.f75.at [1,0,1,0,0,1,0,0,1,0]) ⟨[j0,.ptr 0 0 0 0,j2,.int .i64 a,.int .i64 b,j5,j6,j7,j8,j9,j10,j11,j12,j13,j14,j15,j16,j17,j18,j19,j20,j21,j22,j23,j24,j25,j26],[boxT T],[],0,[]⟩) fun ex st=>
     if allN (fun b=>!gapN T.tab a b) b n then ex=.exit 2∧FrP 27 [(1,.ptr 0 0 0 0),(3,.int .i64 a)] [boxT T] [] 0 [] st
     else ex=.ret∧FrP 27 [(2,.bool false)] [boxT T] [] 0 [] st:=by
 have hR8:=hO.R8
 have hC8:=hO.C8
 have hp:=zOQ hC8
 have lc:T.cols.l.length=T.tab.C:=rfl
 intro n
 induction n with
 | zero=>
   intro b;intros;rename_i hb
   have hd:decide ((b:Int) < ((2 ^ T.tab.C:Nat):Int))=false:=decide_eq_false (by omega)
   simp only [go_sem,simprocAttr,Try.f75,boxT]
   rw [exec_loop]
   simp only [go_sem,simprocAttr,List.length_map,lc,zET hC8,hd]
   exact frP (by kernel_rfl)
 | succ n ih=>
   intro b;intros;rename_i hb
   have hd:decide ((b:Int) < ((2 ^ T.tab.C:Nat):Int))=true:=decide_eq_true (by omega)
   have cc:=zEB hO (a:Int) (b:Int)
   have gc:=zEG hT hO (zH2 hO (a:Int) (b:Int)) (z18 _ _) (z18 _ _)
   have eg:T.tab.gap (fun i=>(zAF T.tab a b).l1.getD i false) (fun k=>(zAF T.tab a b).l2.getD k false)=gapN T.tab a b:=
    z9o (fun i hi=>by rw [show (zAF T.tab a b).l1.getD i false=rbit a i from z4y hi,zKl ha (by omega)]) fun k hk=>by rw [show (zAF T.tab a b).l2.getD k false=rbit b k from z4y hk,zKl (by omega) (by omega)]
   rw [eg] at gc
   cases hg:gapN T.tab a b with
   | true=>
     rw [hg] at gc
     simp only [go_sem,simprocAttr,Try.f75,boxT]
     rw [exec_loop]
     simp only [go_sem,simprocAttr,List.length_map,lc,zET hC8,hd,cc,gc,allN,hg,Bool.not_true]
     exact frP (by kernel_rfl)
   | false=>
     rw [hg] at gc
     have ih':=ih (b+1)
     simp only [go_sem,simprocAttr,Try.f75,boxT] at ih' ⊢
     rw [exec_loop]
     simp only [go_sem,simprocAttr,List.length_map,lc,zET hC8,hd,cc,gc,allN,hg,Bool.not_false,z00 (show b < 2 ^ 63 - 1 by omega)]
     exact ih' _ _ _ _ _ _ _ _ _ _ _ _ _ _ _ _ _ _ _ _ _ _ _ _ (by omega)
theorem zJM {T:TabV} (hT:T.Wf) (hO:T.tab.Mild):∀ (n a:Nat) (j0 j2 j4 j5 j6 j7 j8 j9 j10 j11 j12 j13 j14 j15 j16 j17 j18 j19 j20 j21 j22 j23 j24 j25 j26:AVal),a+n=2 ^ T.tab.R →
    Goes (execT env (Try.f75.at [1,0,1,0]) ⟨[j0,.ptr 0 0 0 0,j2,.int .i64 a,j4,j5,j6,j7,j8,j9,j10,j11,j12,j13,j14,j15,j16,j17,j18,j19,j20,j21,j22,j23,j24,j25,j26],[boxT T],[],0,[]⟩) fun ex st=>
     if allN (fun a=>allN (fun b=>!gapN T.tab a b) 0 (2 ^ T.tab.C)) a n then ex=.exit 0∧FrP 27 [] [boxT T] [] 0 [] st
     else ex=.ret∧FrP 27 [(2,.bool false)] [boxT T] [] 0 [] st:=by
 have hR8:=hO.R8
 have hp:=zOQ hR8
 have lr:T.rows.l.length=T.tab.R:=rfl
 intro n
 induction n with
 | zero=>
   intro a;intros;rename_i ha
   have hd:decide ((a:Int) < ((2 ^ T.tab.R:Nat):Int))=false:=decide_eq_false (by omega)
   simp only [go_sem,simprocAttr,Try.f75,boxT]
   rw [exec_loop]
   simp only [go_sem,simprocAttr,List.length_map,lr,zET hR8,hd]
   exact frP (by kernel_rfl)
 | succ n ih=>
   intro a;intros;rename_i ha
   have hd:decide ((a:Int) < ((2 ^ T.tab.R:Nat):Int))=true:=decide_eq_true (by omega)
   obtain ⟨ex,st,hx,hp⟩:=zJL hT hO (a:=a) (by omega) (2 ^ T.tab.C) 0 _ _ _ _ _ _ _ _ _ _ _ _ _ _ _ _ _ _ _ _ _ _ _ _ (by omega)
   simp only [go_sem,simprocAttr,Try.f75,boxT,Int.ofNat_zero,Int.natCast_zero] at hx
   cases hq:allN (fun b=>!gapN T.tab a b) 0 (2 ^ T.tab.C) with
   | false=>
     rw [hq,if_neg (by simp)] at hp
     obtain ⟨rfl,jp,rfl⟩:=hp
     simp only [go_sem,simprocAttr,Try.f75,boxT]
     rw [exec_loop]
     simp only [go_sem,simprocAttr,List.length_map,lr,zET hR8,hd]
     rw [hx]
     simp only [go_sem,simprocAttr,boxT,allN,hq]
     exact frP (by kernel_rfl)
   | true=>
     rw [hq,if_pos rfl] at hp
     obtain ⟨rfl,jp,rfl⟩:=hp
     have ih':=ih (a+1)
     simp only [go_sem,simprocAttr,Try.f75,boxT] at ih' ⊢
     rw [exec_loop]
     simp only [go_sem,simprocAttr,List.length_map,lr,zET hR8,hd]
     rw [hx]
     simp only [go_sem,simprocAttr,boxT,allN,hq,z00 (show a < 2 ^ 63 - 1 by omega)]
     exact ih' _ _ _ _ _ _ _ _ _ _ _ _ _ _ _ _ _ _ _ _ _ _ _ _ _ (by omega)
theorem zC3 {T:TabV} (hT:T.Wf) (hO:T.tab.Mild):∃ H',runT env 75 [T.v] [] 0=some (.ret (.bool (canB T.tab)),H'):=by
 rw [zP5 hO]
 obtain ⟨ex,st,hx,hp⟩:=zJM hT hO (2 ^ T.tab.R) 0 _ _ _ _ _ _ _ _ _ _ _ _ _ _ _ _ _ _ _ _ _ _ _ _ _ (by omega)
 simp only [go_sem,simprocAttr,Try.f75,boxT,Int.ofNat_zero,Int.natCast_zero] at hx
 rw [run_unfold fn75 rfl]
 simp only [go_sem,simprocAttr,Try.f75,boxT]
 rw [hx]
 cases hq:allN (fun a=>allN (fun b=>!gapN T.tab a b) 0 (2 ^ T.tab.C)) 0 (2 ^ T.tab.R) with
 | false=>
   rw [hq,if_neg (by simp)] at hp
   obtain ⟨rfl,jp,rfl⟩:=hp
   simp only [go_sem,simprocAttr,boxT,unwind,modeEx,resultsOf,one]
   exact ⟨_,rfl⟩
 | true=>
   rw [hq,if_pos rfl] at hp
   obtain ⟨rfl,jp,rfl⟩:=hp
   simp only [go_sem,simprocAttr,boxT,unwind,modeEx,resultsOf,one]
   exact ⟨_,rfl⟩
theorem zGB {T:TabV} (hT:T.Wf) (hO:T.tab.Mild) (ro:Nat) (H:Heap) (nx:Nat):callT env 75 [T.v] ro H nx=some (.ret (.bool (canB T.tab)),.ups []):=by
 obtain ⟨H',h⟩:=zC3 hT hO
 exact call_pure rfl rfl rfl z0d h rfl ro H nx
theorem z8T (T:TabV) (c:CutA) (ro:Nat) (H:Heap) (nx:Nat):callT env 79 [T.v,c.v] ro H nx=some (.ret (.bool (fitC T.tab c)),.ups []):=by
 have:∃ H',runT env 79 [T.v,c.v] [] 0=some (.ret (.bool (fitC T.tab c)),H'):=by
  have lr:T.rows.l.length=T.tab.R:=rfl
  have lc:T.cols.l.length=T.tab.C:=rfl
  have e1:decide ((c.l1.length:Int)=(T.tab.R:Int))=decide (c.l1.length=T.tab.R):=decide_eq_decide.2 (by omega)
  have e2:decide ((c.l2.length:Int)=(T.tab.C:Int))=decide (c.l2.length=T.tab.C):=decide_eq_decide.2 (by omega)
  rw [run_unfold fn79 rfl]
  unfold fitC
  cases qa:decide (c.l1.length=T.tab.R) <;> cases qb:decide (c.l2.length=T.tab.C) <;>
   simp only [go_sem,simprocAttr,Try.f79,z0K,List.length_map,lr,lc,e1,e2,qa,qb,unwind,modeEx,resultsOf,one,Bool.and_true,Bool.and_false,Bool.true_and,Bool.false_and] <;>
   exact ⟨_,rfl⟩
 obtain ⟨H',h⟩:=this
 exact call_pure rfl rfl rfl (z3T T c) h rfl ro H nx
end Go.Proofs.Ytgfejpngfikjiaa.Tidy
