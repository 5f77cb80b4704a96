/-
 What the functions that the statements of this seat share compute.
-/
import Derived.Test.YtgfejpngfikjiaaCd
import Derived.Test.YtgfejpngfikjiaaCb
import Derived.KernelRfl
set_option linter.all false
namespace Go.Proofs.Ytgfejpngfikjiaa.Tidy
open Go Go.IntWalk
set_option maxRecDepth 10000
set_option linter.unusedSimpArgs false
set_option maxHeartbeats 4000000
theorem z5E {G:Net} {R C:Nat} (h:NetOk G R C) {f g:Nat→Int} (hf:G.In f) (hg:∀ j,j < G.n→-1≤g j∧g j≤1):NetS G f g where
 n:=h.n
 f:=fun j hj=>by have:=hf j hj;have:=h.l j hj;omega
 lo:=fun j hj=>by have:=h.l j hj;omega
 hi:=fun j hj=>by have:=h.l j hj;omega
 g:=hg
def zRz (G:Net) (g f':Nat→Int):Prop:=G.In f'∧G.Circ f'∧cycleS (G.ways f' g G.n) G.N=[]
theorem zGX {R C gn:Nat} {G:Net} (h:NetOk G R C) (hn:0 < G.n) {gf:Nat→Int} (hg:∀ j,j < G.n→-1≤gf j∧gf j≤1) {cl:Bool}:∀ (m:Nat) (f:Nat→Int) (j2 j3 j4 j5 j6 j7 j8 j9 j10 j11 j12 j13 j14 j15 j16 j17 j18 j19 j20 j21 j22 j23 j24 j25 j26 j27 j28 j29 j30 j31 j32 j33 j34 j35 j36 j37 j38 j39:AVal),(G.n * 2 ^ 30 - brings G gf f).toNat < m→G.In f→G.Circ f →
    Goes (execT env (Try.f126.at [1,0,0]) ⟨[.ptr 0 0 0 0,.lit cl 1 (intsV G.n gf),j2,j3,j4,j5,j6,j7,j8,j9,j10,j11,j12,j13,j14,j15,j16,j17,j18,j19,j20,j21,j22,j23,j24,j25,j26,j27,j28,j29,j30,j31,j32,j33,j34,j35,j36,j37,j38,j39],netH R C gn G f,[],0,[]⟩) fun e s=>
     e=.exit 0∧∃ (f':Nat→Int),zRz G gf f'∧FrP 40 [(0,.ptr 0 0 0 0),(1,.lit cl 1 (intsV G.n gf))] (netH R C gn G f') [] 0 [] s:=by
 intro m
 induction m with
 | zero=>intro f _ hm;omega
 | succ m ih=>
   intro f;intros;rename_i hm hf hc
   have hs:=z5E h hf hg
   have hgv:=GainV.lit (cl:=cl) hn gf
   have hA:NetAt (netH R C gn G f) 0 1 R C gn G.n (arcB gn G f):=⟨rfl,rfl,by decide,z0Y _ _ _⟩
   have cc:=zGF hs h.ok h.N h.R h.C hgv hA 0 2
   simp only [netH,netB,arcB] at cc
   have hb:=zL0 (g:=gf) h.ok hf hc
   have hbd:=z4C (G:=G) (g:=gf) hs.f hg G.n (Nat.le_refl _)
   cases hcy:cycleS (G.ways f gf G.n) G.N with
   | nil=>
     rw [hcy] at cc
     simp only [cycV,if_true] at cc
     simp only [go_sem,simprocAttr,Try.f126,netH,netB,arcB]
     rw [exec_loop]
     simp only [go_sem,simprocAttr,cc,zID]
     exact ⟨f,⟨hf,hc,hcy⟩,frP (by kernel_rfl)⟩
   | cons w l=>
     have hne:cycleS (G.ways f gf G.n) G.N ≠ []:=by rw [hcy];exact List.cons_ne_nil _ _
     obtain ⟨b1,b2,b3,b4⟩:=hb hne
     have hcs:=z8m (z5p h.ok f gf).1 hne
     have hN:=h.N
     have hR:=h.R
     have hC:=h.C
     rw [hcy] at cc b1 b2 b3 b4 hcs
     have ll:=(z3X (w :: l) (2 ^ 40)).1
     have hlen:=hcs.2.2.2.2
     have lc:=zAV (l:=w :: l) (cl:=true) (sz:=6) (.inr rfl) (by omega) 0 [netB R C 1 gn G.n,arcB gn G f] 2
     have pc:=zCn hA (l:=w :: l) (cl:=true) (sz:=6) (.inr rfl) (d:=z2D (w :: l)) (by omega) ll (fun x hx=>(zDS (hcs.2.2.1 x hx)).1) (by omega) hs.f 2
     have hs':=z5E h b2 hg
     have hbd':=z4C (G:=G) (g:=gf) hs'.f hg G.n (Nat.le_refl _)
     have ih':=ih (push f (z2D (w :: l)) (w :: l))
     generalize push f (z2D (w :: l)) (w :: l)=f1 at pc b2 b3 b4 hbd' ih'
     have hv:z0M (w :: l)=resV w :: z0M l:=rfl
     simp only [cycV,List.cons_ne_nil,if_false,reduceCtorEq] at cc
     simp only [netH,netB,arcB,hv] at cc pc lc
     unfold brings at hm b4 ih'
     simp only [go_sem,simprocAttr,Try.f126,netH,netB,arcB] at ih' ⊢
     rw [exec_loop]
     simp only [go_sem,simprocAttr,cc,zPn,lc,pc]
     exact ih' _ _ _ _ _ _ _ _ _ _ _ _ _ _ _ _ _ _ _ _ _ _ _ _ _ _ _ _ _ _ _ _ _ _ _ _ _ _ (by omega) b2 b3
theorem zIW {R C gn:Nat} {G:Net} {f gf:Nat→Int} (hs:NetS G f gf) {cl:Bool}:∀ (n i:Nat) (j0 j2 j3 j4 j5 j7 j8 j9 j10 j11 j12 j13 j14 j15 j16 j17 j18 j19 j20 j21 j25 j26 j27 j28 j29 j30 j31 j32 j33 j34 j35 j36 j37 j38 j39:AVal),i+n=G.n →
    Goes (execT env (Try.f126.at [1,1,1,0,1,0]) ⟨[j0,.lit cl 1 (intsV G.n gf),j2,j3,j4,j5,.int .i64 (sumN i fun j=>gf j * f j),j7,j8,j9,j10,j11,j12,j13,j14,j15,j16,j17,j18,j19,j20,j21,.ref 1 gn 0 G.n false,.int .i64 G.n,.int .i64 i,j25,j26,j27,j28,j29,j30,j31,j32,j33,j34,j35,j36,j37,j38,j39],netH R C gn G f,[],0,[]⟩) fun e s=>
     e=.exit 2∧FrP 40 [(6,.int .i64 (brings G gf f))] (netH R C gn G f) [] 0 [] s:=by
 have hn8:=hs.n
 intro n
 induction n with
 | zero=>
   intro i;intros;rename_i hi
   have hd:decide ((i:Int) < (G.n:Int))=false:=by simp;omega
   have:i=G.n:=by omega
   subst this
   simp only [go_sem,simprocAttr,Try.f126]
   rw [exec_loop]
   simp only [go_sem,simprocAttr,hd]
   exact frP (by kernel_rfl)
 | succ n ih=>
   intro i;intros;rename_i hi
   have hin:i < G.n:=by omega
   have hd:decide ((i:Int) < (G.n:Int))=true:=by simp;omega
   have h0:(0:Int)≤(i:Int):=by omega
   have ha:=z49 (f:=f) hin
   have hgi:=z19 (f:=gf) hin
   have hb:=z4C hs.f hs.g i (by omega)
   have h1:=hs.f i hin
   have h2:=hs.g i hin
   have h3:-(2 ^ 30)≤gf i * f i∧gf i * f i≤2 ^ 30:=by
    have:gf i=-1 ∨ gf i=0 ∨ gf i=1:=by omega
    rcases this with e | e | e <;> rw [e] <;> omega
   have w1:IntKind.i64.wrap (gf i * f i)=gf i * f i:=i64_in _ (by omega)
   have w2:IntKind.i64.wrap (sumN i (fun j=>gf j * f j)+gf i * f i)=sumN (i+1) fun j=>gf j * f j:=by rw [i64_in _ (by omega)];rfl
   have ih':=ih (i+1)
   simp only [go_sem,simprocAttr,Try.f126,netH,netB,arcB] at ih' ⊢
   rw [exec_loop]
   simp only [go_sem,simprocAttr,hd,h0,hin,decide_true,Int.toNat_natCast,ha,hgi,w1,w2,trunc,List.map_cons,List.map_nil,z00 (show i < 2 ^ 63 - 1 by omega)]
   exact ih' _ _ _ _ _ _ _ _ _ _ _ _ _ _ _ _ _ _ _ _ _ _ _ _ _ _ _ _ _ _ _ _ _ _ _ (by omega)
def Most (G:Net) (g f:Nat→Int):Prop:=G.In f∧G.Circ f∧∀ f',G.In f'→G.Circ f'→brings G g f'≤brings G g f
theorem zIV {R C gn:Nat} {G:Net} (h:NetOk G R C) (hn:0 < G.n) {gf:Nat→Int} (hg:∀ j,j < G.n→-1≤gf j∧gf j≤1) {cl:Bool} {f:Nat→Int} (hf:G.In f) (hc:G.Circ f):
    ∃ f',Most G gf f'∧runT env 126 [.ptr 0 0 0 0,.lit cl 1 (intsV G.n gf)] [netB R C 1 gn G.n,arcB gn G f] 0=some (.ret (.int .i64 (brings G gf f')),[netB R C 1 gn G.n,arcB gn G f']):=by
 obtain ⟨e1,t1,hx1,hp1⟩:=zGX (gn:=gn) h hn hg (cl:=cl) _ f _ _ _ _ _ _ _ _ _ _ _ _ _ _ _ _ _ _ _ _ _ _ _ _ _ _ _ _ _ _ _ _ _ _ _ _ _ _ (Nat.lt_succ_self _) hf hc
 obtain ⟨rfl,f',⟨g1,g2,g3⟩,jp,rfl⟩:=hp1
 obtain ⟨e2,t2,hx2,hp2⟩:=zIW (R:=R) (C:=C) (gn:=gn) (z5E h g1 hg) (cl:=cl) G.n 0 _ _ _ _ _ _ _ _ _ _ _ _ _ _ _ _ _ _ _ _ _ _ _ _ _ _ _ _ _ _ _ _ _ _ _ (by omega)
 obtain ⟨rfl,jq,rfl⟩:=hp2
 refine ⟨f',⟨g1,g2,fun f'' k1 k2=>zJC h.ok g2 g3 k1 k2⟩,?_⟩
 simp only [go_sem,simprocAttr,Try.f126,netH,netB,arcB] at hx1
 simp only [go_sem,simprocAttr,Try.f126,netH,netB,arcB,sumN,Int.natCast_zero,Int.ofNat_zero] at hx2
 rw [run_unfold fn126 rfl]
 simp only [go_sem,simprocAttr,Try.f126,netB,arcB]
 rw [hx1]
 simp only [go_sem,simprocAttr,netH,netB,arcB,z1Q]
 rw [hx2]
 simp only [go_sem,simprocAttr,netH,netB,arcB,unwind,modeEx,resultsOf,one]
theorem z5A (g:Nat) (G:Net) (f:Nat→Int):litFree (arcB g G f)=true:=by
 have:∀ l:List Nat,z2H (l.map (z5x G f))=true:=by
  intro l
  induction l with
  | nil=>rfl
  | cons x l ih=>simp only [List.map_cons,z2H,ih,Bool.and_true];rfl
 exact this _
theorem z5Y {R C gn:Nat} {G:Net} (h:NetOk G R C) (hn:0 < G.n) {gf:Nat→Int} (hg:∀ j,j < G.n→-1≤gf j∧gf j≤1) {f:Nat→Int} (hf:G.In f) (hc:G.Circ f):
    ∃ f',Most G gf f'∧∀ {H:Heap} {p a q gq:Nat},NetAt H p a R C gn G.n (arcB gn G f)→H[q]?=some (.cells gq 1 true (intsV G.n gf))→q ≠ p→q ≠ a→∀ nx,
     callT env 126 [.ptr p 0 0 0,.ref q gq 0 G.n false] 0 H nx=some (.ret (.int .i64 (brings G gf f')),.ups [(p,netB R C a gn G.n),(a,arcB gn G f')]):=by
 obtain ⟨f',hm,hr⟩:=zIV (gn:=gn) (cl:=false) h hn hg hf hc
 refine ⟨f',hm,fun {H p a q gq} hA hq hqp hqa nx=>?_⟩
 have hl:lend H (env.hint 126).lits [.ptr p 0 0 0,.ref q gq 0 G.n false] 0=some ([.ptr p 0 0 0,.lit false 1 (intsV G.n gf)],[q]):=by
  have hlen:(intsV G.n gf).length=G.n:=z0R _ _
  have ht:(intsV G.n gf).take G.n=intsV G.n gf:=List.take_of_length_le (by omega)
  have hre:reach H fuel0 [q] []=some [q]:=z5f [q] [] 64 (fun id hid=>by simp at hid;subst hid;exact ⟨_,_,_,hq⟩) (by simp) (by simp) (by simp)
  simp [lend,hint126,noRef,AVal.under,toLit,hq,hlen,ht,AVal.refs,hre]
 exact z4x (X:=[]) (v:=.int .i64 (brings G gf f')) (lent:=[q]) rfl rfl rfl rfl hA hl rfl (by simp [Ne.symm hqp,Ne.symm hqa]) hr (fun _=>rfl) rfl rfl (.inr ⟨rfl,z5A _ _ _⟩)
set_option maxRecDepth 10000
set_option maxHeartbeats 2000000
def natsV (l:List Nat):List AVal:=l.map fun (j:Nat)=>.int .i64 (j:Int)
theorem zCg {l:List Nat} {i j:Nat} (h:l[i]?=some j):(natsV l)[i]?=some (.int .i64 j):=by simp [natsV,h]
@[go_sem] theorem z5D (l:List Nat):(natsV l).length=l.length:=by simp [natsV]
def z0c (l:List Nat) (j:Nat):Int:=if j ∈ l then 1 else 0
def z99 (l:List Nat) (i j:Nat):Int:=if j ∈ l.take i then -1 else z0c l j
theorem zJ0 {l:List Nat} {i j:Nat} (h:l[i]?=some j) (k:Nat):z0c (l.take (i+1)) k=if k=j then 1 else z0c (l.take i) k:=by
 unfold z0c
 rw [List.take_add_one,h]
 by_cases e:k=j
 · simp [e]
 · simp [e]
theorem zIj {l:List Nat} {i j:Nat} (h:l[i]?=some j) (k:Nat):z99 l (i+1) k=if k=j then -1 else z99 l i k:=by
 unfold z99
 rw [List.take_add_one,h]
 by_cases e:k=j
 · simp [e]
 · simp [e]
theorem zKe (l:List Nat):z99 l l.length=fun j=>-(z0c l j):=by
 funext j
 unfold z99 z0c
 rw [List.take_length]
 split <;> rfl
def z4H (R C gn:Nat) (G:Net) (f g:Nat→Int):Heap:=[netB R C 1 gn G.n,arcB gn G f,.cells 0 2 true [.agg [.int .i64 0,.int .i64 0]],.cells 0 1 true (intsV G.n g)]
theorem zAL {R C gn:Nat} {G:Net} {f:Nat→Int} {cl:Bool} {sz:Nat} {l:List Nat} (hsz:l=[] ∨ sz=1) (hl:∀ j ∈ l,j < G.n) (hlen:l.length < 2 ^ 30):∀ (n i:Nat) (j2 j3 j6 j7 j8 j9 j10 j11 j12 j13 j14 j15 j16 j20 j21 j22 j23 j24 j25 j26 j27 j28 j29 j30 j31 j32 j33 j34 j35 j36 j37 j38 j39 j40 j41 j42 j43 j44 j45:AVal),i+n=l.length →
    Goes (execT env (Try.f82.at [1,1,0,1,0]) ⟨[.ptr 0 0 0 0,.lit cl sz (natsV l),j2,j3,.ptr 2 0 0 0,.ref 3 0 0 G.n false,j6,j7,j8,j9,j10,j11,j12,j13,j14,j15,j16,.lit cl sz (natsV l),.int .i64 l.length,.int .i64 i,j20,j21,j22,j23,j24,j25,j26,j27,j28,j29,j30,j31,j32,j33,j34,j35,j36,j37,j38,j39,j40,j41,j42,j43,j44,j45],z4H R C gn G f (z0c (l.take i)),[],0,[]⟩) fun e s=>
     e=.exit 0∧FrP 46 [(0,.ptr 0 0 0 0),(1,.lit cl sz (natsV l)),(4,.ptr 2 0 0 0),(5,.ref 3 0 0 G.n false)] (z4H R C gn G f (z0c l)) [] 0 [] s:=by
 intro n
 induction n with
 | zero=>
   intro i;intros;rename_i hi
   have hd:decide ((i:Int) < (l.length:Int))=false:=by simp;omega
   have ht:l.take i=l:=List.take_of_length_le (by omega)
   simp only [go_sem,simprocAttr,Try.f82]
   rw [exec_loop]
   simp only [go_sem,simprocAttr,hd,ht]
   exact frP (by kernel_rfl)
 | succ n ih=>
   intro i;intros;rename_i hi
   have hd:decide ((i:Int) < (l.length:Int))=true:=by simp;omega
   have h0:(0:Int)≤(i:Int):=by omega
   obtain ⟨j,hj,_⟩:=z0Q (show i < l.length by omega)
   have hz:=z1j hsz hj
   have hj':=zCg hj
   have hjn:=hl j (List.mem_of_getElem? hj)
   have hjd:decide ((j:Int) < (G.n:Int))=true:=by simp;omega
   have j0:(0:Int)≤(j:Int):=by omega
   have gj:=z19 (f:=z0c (l.take i)) hjn
   have sj:=z34 (n:=G.n) (v:=1) fun k _=>zJ0 hj k
   have ih':=ih (i+1)
   simp only [go_sem,simprocAttr,Try.f82,hz,z4H,netB,arcB] at ih' ⊢
   rw [exec_loop]
   simp only [go_sem,simprocAttr,hd,h0,Int.toNat_natCast,hj',hjd,j0,gj,sj,z00 (show i < 2 ^ 63 - 1 by omega)]
   exact ih' _ _ _ _ _ _ _ _ _ _ _ _ _ _ _ _ _ _ _ _ _ _ _ _ _ _ _ _ _ _ _ _ _ _ _ _ _ _ _ (by omega)
theorem z8o {R C gn:Nat} {G:Net} {f:Nat→Int} {cl:Bool} {sz:Nat} {l:List Nat} (hsz:l=[] ∨ sz=1) (hl:∀ j ∈ l,j < G.n) (hlen:l.length < 2 ^ 30) (x:Int):∀ (n i:Nat) (j1 j2 j3 j6 j7 j9 j10 j11 j12 j13 j14 j15 j16 j17 j18 j19 j20 j21 j22 j23 j24 j25 j26 j27 j28 j29 j33 j34 j35 j36 j37 j38 j39 j40 j41 j42 j43 j44 j45:AVal),i+n=l.length →
    Goes (execT env (Try.f82.at [1,1,1,1,0,1,0]) ⟨[.ptr 0 0 0 0,j1,j2,j3,.ptr 2 0 0 0,.ref 3 0 0 G.n false,j6,j7,.int .i64 x,j9,j10,j11,j12,j13,j14,j15,j16,j17,j18,j19,j20,j21,j22,j23,j24,j25,j26,j27,j28,j29,.lit cl sz (natsV l),.int .i64 l.length,.int .i64 i,j33,j34,j35,j36,j37,j38,j39,j40,j41,j42,j43,j44,j45],z4H R C gn G f (z99 l i),[],0,[]⟩) fun e s=>
     e=.exit 2∧FrP 46 [(0,.ptr 0 0 0 0),(4,.ptr 2 0 0 0),(5,.ref 3 0 0 G.n false),(8,.int .i64 x)] (z4H R C gn G f fun j=>-(z0c l j)) [] 0 [] s:=by
 intro n
 induction n with
 | zero=>
   intro i;intros;rename_i hi
   have hd:decide ((i:Int) < (l.length:Int))=false:=by simp;omega
   have:i=l.length:=by omega
   subst this
   have ht:=zKe l
   simp only [go_sem,simprocAttr,Try.f82]
   rw [exec_loop]
   simp only [go_sem,simprocAttr,hd,ht]
   exact frP (by kernel_rfl)
 | succ n ih=>
   intro i;intros;rename_i hi
   have hd:decide ((i:Int) < (l.length:Int))=true:=by simp;omega
   have h0:(0:Int)≤(i:Int):=by omega
   obtain ⟨j,hj,_⟩:=z0Q (show i < l.length by omega)
   have hz:=z1j hsz hj
   have hj':=zCg hj
   have hjn:=hl j (List.mem_of_getElem? hj)
   have hjd:decide ((j:Int) < (G.n:Int))=true:=by simp;omega
   have j0:(0:Int)≤(j:Int):=by omega
   have gj:=z19 (f:=z99 l i) hjn
   have sj:=z34 (n:=G.n) (v:=-1) fun k _=>zIj hj k
   have ih':=ih (i+1)
   simp only [go_sem,simprocAttr,Try.f82,hz,z4H,netB,arcB] at ih' ⊢
   rw [exec_loop]
   simp only [go_sem,simprocAttr,hd,h0,Int.toNat_natCast,hj',hjd,j0,gj,sj,z00 (show i < 2 ^ 63 - 1 by omega)]
   exact ih' _ _ _ _ _ _ _ _ _ _ _ _ _ _ _ _ _ _ _ _ _ _ _ _ _ _ _ _ _ _ _ _ _ _ _ _ _ _ _ (by omega)
def EndsOf (G:Net) (l:List Nat) (lo hi:Int):Prop:=(∃ f1,Most G (z0c l) f1∧hi=brings G (z0c l) f1)∧∃ f2,Most G (fun j=>-(z0c l j)) f2∧lo=-(brings G (fun j=>-(z0c l j)) f2)
theorem zKL {R C gn:Nat} {G:Net} (h:NetOk G R C) (hn:0 < G.n) {f:Nat→Int} (hf:G.In f) (hc:G.Circ f) {cl:Bool} {sz:Nat} {l:List Nat} (hsz:l=[] ∨ sz=1) (hl:∀ j ∈ l,j < G.n) (hlen:l.length < 2 ^ 30):
    ∃ lo hi,EndsOf G l lo hi∧∃ (f':Nat→Int) (X:Heap),runT env 82 [.ptr 0 0 0 0,.lit cl sz (natsV l)] [netB R C 1 gn G.n,arcB gn G f] 0=some (.ret (.agg [.int .i64 lo,.int .i64 hi]),netB R C 1 gn G.n :: arcB gn G f' :: X):=by
 have hn8:=h.n
 have N0:(0:Int)≤(G.n:Int):=by omega
 have m1:G.n * 9≤z04:=by unfold z04;omega
 have r1:List.replicate G.n (AVal.int .i64 0)=intsV G.n (z0c []):=by
  rw [z1x]
  exact z17 fun i _=>by unfold z0c;simp
 have p1:∀ j,j < G.n→-1≤z0c l j∧z0c l j≤1:=fun j _=>by unfold z0c;split <;> omega
 have p2:∀ j,j < G.n→-1≤-(z0c l j)∧-(z0c l j)≤1:=fun j hj=>by have:=p1 j hj;omega
 obtain ⟨f1,hm1,gc1⟩:=z5Y (gn:=gn) h hn p1 hf hc
 obtain ⟨f2,hm2,gc2⟩:=z5Y (gn:=gn) h hn p2 hm1.1 hm1.2.1
 have g1:=gc1 (H:=z4H R C gn G f (z0c l)) (p:=0) (a:=1) (q:=3) (gq:=0) ⟨rfl,rfl,by decide,z0Y _ _ _⟩ rfl (by decide) (by decide) 4
 have g2:=gc2 (H:=z4H R C gn G f1 fun j=>-(z0c l j)) (p:=0) (a:=1) (q:=3) (gq:=0) ⟨rfl,rfl,by decide,z0Y _ _ _⟩ rfl (by decide) (by decide) 4
 have bd:-(G.n * 2 ^ 30:Int)≤brings G (fun j=>-(z0c l j)) f2∧brings G (fun j=>-(z0c l j)) f2≤G.n * 2 ^ 30:=z4C (g:=fun j=>-(z0c l j)) (z5E h hm2.1 p2).f p2 G.n (Nat.le_refl _)
 have w1:IntKind.i64.wrap (0 - brings G (fun j=>-(z0c l j)) f2)=-(brings G (fun j=>-(z0c l j)) f2):=by
  rw [i64_in _ (by omega)];omega
 refine ⟨-(brings G (fun j=>-(z0c l j)) f2),brings G (z0c l) f1,⟨⟨f1,hm1,rfl⟩,f2,hm2,rfl⟩,f2,?_⟩
 obtain ⟨e1,t1,hx1,hp1⟩:=zAL (R:=R) (C:=C) (gn:=gn) (G:=G) (f:=f) (cl:=cl) hsz hl hlen l.length 0 _ _ _ _ _ _ _ _ _ _ _ _ _ _ _ _ _ _ _ _ _ _ _ _ _ _ _ _ _ _ _ _ _ _ _ _ _ _ _ (by omega)
 obtain ⟨rfl,jp,rfl⟩:=hp1
 obtain ⟨e2,t2,hx2,hp2⟩:=z8o (R:=R) (C:=C) (gn:=gn) (G:=G) (f:=f1) (cl:=cl) hsz hl hlen (brings G (z0c l) f1) l.length 0 _ _ _ _ _ _ _ _ _ _ _ _ _ _ _ _ _ _ _ _ _ _ _ _ _ _ _ _ _ _ _ _ _ _ _ _ _ _ _ (by omega)
 obtain ⟨rfl,jq,rfl⟩:=hp2
 have m0:z99 l 0=z0c l:=by funext j;unfold z99;simp
 simp only [z4H,netB,arcB] at g1 g2
 simp only [go_sem,simprocAttr,Try.f82,z4H,netB,arcB,List.take_zero,Int.natCast_zero,Int.ofNat_zero] at hx1
 simp only [go_sem,simprocAttr,Try.f82,z4H,netB,arcB,m0,Int.natCast_zero,Int.ofNat_zero] at hx2
 rw [run_unfold fn82 rfl]
 simp only [go_sem,simprocAttr,Try.f82,netB,arcB,N0,m1,z1Q,Int.toNat_natCast,r1]
 rw [hx1]
 simp only [go_sem,simprocAttr,z4H,netB,arcB,g1]
 rw [hx2]
 simp only [go_sem,simprocAttr,z4H,netB,arcB,g2,w1,unwind,modeEx,resultsOf,one]
 exact ⟨_,rfl⟩
theorem zAH (G:Net) (g f:Nat→Int):brings G (fun j=>-(g j)) f=-(brings G g f):=by
 unfold brings
 rw [← z7D]
 exact z02 fun j _=>by rw [Int.neg_mul]
structure IsEnds (G:Net) (l:List Nat) (lo hi:Int):Prop where
 at_lo:∃ f,G.In f∧G.Circ f∧brings G (z0c l) f=lo
 at_hi:∃ f,G.In f∧G.Circ f∧brings G (z0c l) f=hi
 all:∀ f,G.In f→G.Circ f→lo≤brings G (z0c l) f∧brings G (z0c l) f≤hi
theorem EndsOf.is {G:Net} {l:List Nat} {lo hi:Int} (h:EndsOf G l lo hi):IsEnds G l lo hi:=by
 obtain ⟨⟨f1,h1,rfl⟩,f2,h2,rfl⟩:=h
 refine ⟨⟨f2,h2.1,h2.2.1,by rw [zAH];omega⟩,⟨f1,h1.1,h1.2.1,rfl⟩,fun f k1 k2=>⟨?_,h1.2.2 f k1 k2⟩⟩
 have:=h2.2.2 f k1 k2
 rw [zAH] at this
 omega
theorem IsEnds.unique {G:Net} {l:List Nat} {lo hi lo' hi':Int} (h:IsEnds G l lo hi) (h':IsEnds G l lo' hi'):lo=lo'∧hi=hi':=by
 obtain ⟨f1,a1,b1,c1⟩:=h.at_lo
 obtain ⟨f2,a2,b2,c2⟩:=h.at_hi
 obtain ⟨f3,a3,b3,c3⟩:=h'.at_lo
 obtain ⟨f4,a4,b4,c4⟩:=h'.at_hi
 have e1:=h'.all f1 a1 b1
 have e2:=h'.all f2 a2 b2
 have e3:=h.all f3 a3 b3
 have e4:=h.all f4 a4 b4
 omega
theorem z51 {R C gn:Nat} {G:Net} (h:NetOk G R C) (hn:0 < G.n) {f:Nat→Int} (hf:G.In f) (hc:G.Circ f) {cl:Bool} {sz:Nat} {l:List Nat} (hsz:l=[] ∨ sz=1) (hl:∀ j ∈ l,j < G.n) (hlen:l.length < 2 ^ 30):
    ∃ lo hi,IsEnds G l lo hi∧∃ (f':Nat→Int),∀ {H:Heap} {p a:Nat} {v:AVal} {lent:List Nat},NetAt H p a R C gn G.n (arcB gn G f)→lend H [1] [.ptr p 0 0 0,v] 0=some ([.ptr p 0 0 0,.lit cl sz (natsV l)],lent)→p ∉ lent∧a ∉ lent→∀ nx,
     callT env 82 [.ptr p 0 0 0,v] 0 H nx=some (.ret (.agg [.int .i64 lo,.int .i64 hi]),.ups [(p,netB R C a gn G.n),(a,arcB gn G f')]):=by
 obtain ⟨lo,hi,he,f',X,hr⟩:=zKL (gn:=gn) (cl:=cl) h hn hf hc hsz hl hlen
 refine ⟨lo,hi,he.is,f',fun {H p a v lent} hA hle hne nx=>?_⟩
 have hu:underL 0 [AVal.lit cl sz (natsV l)]=true:=by
  have:∀ l:List Nat,underL 0 (natsV l)=true:=by
   intro l
   induction l with
   | nil=>rfl
   | cons x l ih=>show (AVal.under 0 _ && underL 0 (natsV l))=true;rw [ih];rfl
  simp [underL,AVal.under,this]
 exact z4x (X:=X) (v:=.agg [.int .i64 lo,.int .i64 hi]) (lent:=lent) rfl rfl rfl rfl hA hle hu hne hr (fun _=>rfl) rfl rfl (.inr ⟨rfl,z5A _ _ _⟩)
theorem z3o {H:Heap} {p a R C g n:Nat} {A:Blk} (h:NetAt H p a R C g n A) {i k:Nat} (hi:i < 8) (hC:C≤8) (hk:k < 8) (ro nx:Nat):callT env 83 [.ptr p 0 0 0,.int .i64 i,.int .i64 k] ro H nx=some (.ret (.int .i64 (i * C+k:Nat)),.ups []):=by
 have hm:i * C≤8 * 8:=Nat.mul_le_mul (by omega) hC
 have w1:IntKind.i64.wrap ((i:Int) * (C:Int))=((i * C:Nat):Int):=by rw [← Int.natCast_mul,i64_in _ (by omega)]
 have w2:IntKind.i64.wrap (((i * C:Nat):Int)+k)=((i * C+k:Nat):Int):=by rw [i64_in _ (by omega)];omega
 have:∃ H',runT env 83 [.ptr 0 0 0 0,.int .i64 i,.int .i64 k] [netB R C 1 g n,A] 2=some (.ret (.int .i64 (i * C+k:Nat)),H'):=by
  rw [run_unfold fn83 rfl]
  simp only [go_sem,simprocAttr,Try.f83,netB,w1,w2,unwind,modeEx,resultsOf,one]
  exact ⟨_,rfl⟩
 obtain ⟨H',hr⟩:=this
 exact z1d rfl rfl rfl rfl h (z1L rfl rfl) rfl hr rfl rfl
theorem z6J {H:Heap} {p a R C g n:Nat} {A:Blk} (h:NetAt H p a R C g n A) {i:Nat} (hi:i≤8) (hR:R≤8) (hC:C≤8) (ro nx:Nat):callT env 88 [.ptr p 0 0 0,.int .i64 i] ro H nx=some (.ret (.int .i64 (R * C+i:Nat)),.ups []):=by
 have hm:R * C≤8 * 8:=Nat.mul_le_mul hR hC
 have w1:IntKind.i64.wrap ((R:Int) * (C:Int))=((R * C:Nat):Int):=by rw [← Int.natCast_mul,i64_in _ (by omega)]
 have w2:IntKind.i64.wrap (((R * C:Nat):Int)+i)=((R * C+i:Nat):Int):=by rw [i64_in _ (by omega)];omega
 have:∃ H',runT env 88 [.ptr 0 0 0 0,.int .i64 i] [netB R C 1 g n,A] 2=some (.ret (.int .i64 (R * C+i:Nat)),H'):=by
  rw [run_unfold fn88 rfl]
  simp only [go_sem,simprocAttr,Try.f88,netB,w1,w2,unwind,modeEx,resultsOf,one]
  exact ⟨_,rfl⟩
 obtain ⟨H',hr⟩:=this
 exact z1d rfl rfl rfl rfl h (z1L rfl rfl) rfl hr rfl rfl
theorem z8l {H:Heap} {p a R C g n:Nat} {A:Blk} (h:NetAt H p a R C g n A) {i:Nat} (hi:i≤8) (hR:R≤8) (hC:C≤8) (ro nx:Nat):callT env 90 [.ptr p 0 0 0,.int .i64 i] ro H nx=some (.ret (.int .i64 (R * C+R+i:Nat)),.ups []):=by
 have hm:R * C≤8 * 8:=Nat.mul_le_mul hR hC
 have w1:IntKind.i64.wrap ((R:Int) * (C:Int))=((R * C:Nat):Int):=by rw [← Int.natCast_mul,i64_in _ (by omega)]
 have w2:IntKind.i64.wrap (((R * C:Nat):Int)+R)=((R * C+R:Nat):Int):=by rw [i64_in _ (by omega)];omega
 have w3:IntKind.i64.wrap (((R * C+R:Nat):Int)+i)=((R * C+R+i:Nat):Int):=by rw [i64_in _ (by omega)];omega
 have:∃ H',runT env 90 [.ptr 0 0 0 0,.int .i64 i] [netB R C 1 g n,A] 2=some (.ret (.int .i64 (R * C+R+i:Nat)),H'):=by
  rw [run_unfold fn90 rfl]
  simp only [go_sem,simprocAttr,Try.f90,netB,w1,w2,w3,unwind,modeEx,resultsOf,one]
  exact ⟨_,rfl⟩
 obtain ⟨H',hr⟩:=this
 exact z1d rfl rfl rfl rfl h (z1L rfl rfl) rfl hr rfl rfl
end Go.Proofs.Ytgfejpngfikjiaa.Tidy
namespace Go.Proofs.Ytgfejpngfikjiaa.Tidy
open Go
theorem zDe {G:Net} (f:Nat→Int):brings G (z0c []) f=0:=z0m fun j _=>by simp [z0c]
theorem z3U {G:Net} (f:Nat→Int):∀ {l:List Nat},l.Nodup→(∀ j ∈ l,j < G.n)→brings G (z0c l) f=(l.map f).sum
 | [],_,_=>zDe f
 | a :: l,hn,hl=>by
   have ih:=z3U (G:=G) f (List.nodup_cons.1 hn).2 fun j hj=>hl j (by simp [hj])
   have ha:a ∉ l:=(List.nodup_cons.1 hn).1
   have h1:brings G (z0c (a :: l)) f=sumN G.n (fun j=>(if j=a then f a else 0)+z0c l j * f j):=z02 fun j _=>by
    unfold z0c
    by_cases h:j=a
    · subst h;simp [ha]
    · simp [h]
   rw [h1,z3x,z2p (hl a (by simp)),List.map_cons,List.sum_cons,← ih]
   rfl
def Tab.brings (t:Tab) (l:List Nat) (x:Nat→Nat→Int):Int:=Tidy.brings t.net (z0c l) (t.flow x)
theorem zKO {t:Tab} {f:Nat→Int} (h:t.net.Circ f) {j:Nat} (hj:j < t.net.n):t.flow (t.mat f) j=f j:=by
 obtain ⟨h1,h2⟩:=zCE h
 have hj':j < t.R * t.C+t.R+t.C:=hj
 unfold Tab.flow
 by_cases a:j < t.R * t.C
 · rw [if_pos a]
   unfold Tab.mat
   rw [Nat.mul_comm,Nat.div_add_mod]
 · rw [if_neg a]
   by_cases b:j < t.R * t.C+t.R
   · rw [if_pos b,← h1 (j - t.R * t.C) (by omega)]
     congr 1;omega
   · rw [if_neg b,← h2 (j - t.R * t.C - t.R) (by omega)]
     congr 1;omega
theorem z7O {t:Tab} {l:List Nat} {f:Nat→Int} (h:t.net.Circ f):t.brings l (t.mat f)=Tidy.brings t.net (z0c l) f:=
 z02 fun j hj=>by rw [zKO h hj]
theorem z0y {t:Tab} {l:List Nat} {lo hi:Int}:IsEnds t.net l lo hi ↔ (∃ x,Fits t x∧t.brings l x=lo)∧(∃ x,Fits t x∧t.brings l x=hi)∧∀ x,Fits t x→lo≤t.brings l x∧t.brings l x≤hi:=by
 constructor
 · intro h
   obtain ⟨f1,a1,b1,c1⟩:=h.at_lo
   obtain ⟨f2,a2,b2,c2⟩:=h.at_hi
   refine ⟨⟨_,z24 a1 b1,by rw [z7O b1,c1]⟩,⟨_,z24 a2 b2,by rw [z7O b2,c2]⟩,fun x hx=>?_⟩
   obtain ⟨a,b⟩:=z3r hx
   exact h.all _ a b
 · rintro ⟨⟨x1,h1,e1⟩,⟨x2,h2,e2⟩,h⟩
   obtain ⟨a1,b1⟩:=z3r h1
   obtain ⟨a2,b2⟩:=z3r h2
   refine ⟨⟨_,a1,b1,e1⟩,⟨_,a2,b2,e2⟩,fun f a b=>?_⟩
   have:=h _ (z24 a b)
   rwa [z7O b] at this
theorem z0i (t:Tab) (x:Nat→Nat→Int) {i k:Nat} (hi:i < t.R) (hk:k < t.C):t.brings [i * t.C+k] x=x i k:=by
 have h1:=z3z hi hk
 unfold Tab.brings
 rw [z3U _ (by simp) (fun j hj=>by simp at hj;subst hj;show _ < t.R * t.C+t.R+t.C;omega)]
 simp [t.flow_cell x hi hk]
theorem z1N (t:Tab) (x:Nat→Nat→Int) {i:Nat} (hi:i < t.R):t.brings [t.R * t.C+i] x=sumN t.C (x i):=by
 unfold Tab.brings
 rw [z3U _ (by simp) (fun j hj=>by simp at hj;subst hj;show _ < t.R * t.C+t.R+t.C;omega)]
 simp [t.flow_row x hi]
theorem z2A (t:Tab) (x:Nat→Nat→Int) {k:Nat} (hk:k < t.C):t.brings [t.R * t.C+t.R+k] x=sumN t.R fun i=>x i k:=by
 unfold Tab.brings
 rw [z3U _ (by simp) (fun j hj=>by simp at hj;subst hj;show _ < t.R * t.C+t.R+t.C;omega)]
 simp [t.flow_col x]
def exT:Tab:=⟨[⟨10,10⟩,⟨5,7⟩],[⟨8,9⟩,⟨6,9⟩],[[⟨0,6⟩,⟨0,6⟩],[⟨0,6⟩,⟨0,6⟩]]⟩
theorem zBI {x:Nat→Nat→Int} (h:Fits exT x):(0≤x 0 0∧x 0 0≤6∧0≤x 0 1∧x 0 1≤6∧0≤x 1 0∧x 1 0≤6∧0≤x 1 1∧x 1 1≤6) ∧
    10≤x 0 0+x 0 1∧x 0 0+x 0 1≤10∧5≤x 1 0+x 1 1∧x 1 0+x 1 1≤7∧8≤x 0 0+x 1 0∧x 0 0+x 1 0≤9∧6≤x 0 1+x 1 1∧x 0 1+x 1 1≤9:=by
 have a1:0≤x 0 0∧x 0 0≤6:=h.cell 0 0 (by decide) (by decide)
 have a2:0≤x 0 1∧x 0 1≤6:=h.cell 0 1 (by decide) (by decide)
 have a3:0≤x 1 0∧x 1 0≤6:=h.cell 1 0 (by decide) (by decide)
 have a4:0≤x 1 1∧x 1 1≤6:=h.cell 1 1 (by decide) (by decide)
 have b1:10≤0+x 0 0+x 0 1∧0+x 0 0+x 0 1≤10:=h.row 0 (by decide)
 have b2:5≤0+x 1 0+x 1 1∧0+x 1 0+x 1 1≤7:=h.row 1 (by decide)
 have c1:8≤0+x 0 0+x 1 0∧0+x 0 0+x 1 0≤9:=h.col 0 (by decide)
 have c2:6≤0+x 0 1+x 1 1∧0+x 0 1+x 1 1≤9:=h.col 1 (by decide)
 omega
theorem zBJ (m:List (List Int)) (h:z6e exT (z03 m)=true):Fits exT (z03 m):=z1T.1 h
theorem zIG:IsEnds exT.net [0] 4 6:=z0y.2 ⟨⟨_,zBJ [[4,6],[5,0]] (by decide),by decide⟩,⟨_,zBJ [[6,4],[3,2]] (by decide),by decide⟩,fun x hx=>by
 have:=zBI hx
 rw [show exT.brings [0] x=x 0 0 from z0i exT x (i:=0) (k:=0) (by decide) (by decide)];omega⟩
theorem zIH:IsEnds exT.net [2] 2 5:=z0y.2 ⟨⟨_,zBJ [[6,4],[2,3]] (by decide),by decide⟩,⟨_,zBJ [[4,6],[5,0]] (by decide),by decide⟩,fun x hx=>by
 have:=zBI hx
 rw [show exT.brings [2] x=x 1 0 from z0i exT x (i:=1) (k:=0) (by decide) (by decide)];omega⟩
theorem zII:IsEnds exT.net [3] 0 5:=z0y.2 ⟨⟨_,zBJ [[4,6],[5,0]] (by decide),by decide⟩,⟨_,zBJ [[6,4],[2,5]] (by decide),by decide⟩,fun x hx=>by
 have:=zBI hx
 rw [show exT.brings [3] x=x 1 1 from z0i exT x (i:=1) (k:=1) (by decide) (by decide)];omega⟩
theorem zKM:IsEnds exT.net [4,5] 15 17:=z0y.2 ⟨⟨_,zBJ [[4,6],[5,0]] (by decide),by decide⟩,⟨_,zBJ [[6,4],[2,5]] (by decide),by decide⟩,fun x hx=>by
 have:=zBI hx
 have e:exT.brings [4,5] x=x 0 0+x 0 1+(x 1 0+x 1 1):=by
  unfold Tab.brings
  rw [z3U _ (by simp) (fun j hj=>by simp at hj;rcases hj with rfl | rfl <;> decide)]
  have e1:=exT.flow_row x (i:=0) (by decide)
  have e2:=exT.flow_row x (i:=1) (by decide)
  have e1:exT.flow x 4=0+x 0 0+x 0 1:=e1
  have e2:exT.flow x 5=0+x 1 0+x 1 1:=e2
  simp [e1,e2]
 rw [e];omega⟩
theorem zN9:exT.ok=true:=by decide
theorem zLt:exT.Can:=⟨_,zBJ [[5,5],[4,2]] (by decide)⟩
def exG:Tab:=⟨[⟨13,13⟩,⟨5,7⟩],[⟨8,9⟩,⟨6,9⟩],[[⟨0,6⟩,⟨0,6⟩],[⟨0,6⟩,⟨0,6⟩]]⟩
theorem zIM:exG.ok=true:=by decide
theorem zNA:exG.gap (fun i=>[true,false].getD i false) (fun k=>[false,false].getD k false)=true:=by decide
theorem zFK:¬ exG.Can:=fun h=>by have:=z2z h (fun i=>[true,false].getD i false) (fun k=>[false,false].getD k false);rw [zNA] at this;cases this
end Go.Proofs.Ytgfejpngfikjiaa.Tidy
namespace Go.Proofs.Ytgfejpngfikjiaa.Tidy
open Go Go.IntWalk
set_option maxRecDepth 10000
set_option linter.unusedSimpArgs false
set_option maxHeartbeats 2000000
def outB (t:Tab) (i k:Int):Bool:=decide (i < 0) || (decide ((t.R:Int)≤i) || (decide (k < 0) || decide ((t.C:Int)≤k)))
noncomputable def askS (t:Tab) (i k:Int):Int:=if t.ok then (if canB t then (if outB t i k then 1 else 0) else 31) else 60
def askX (T:TabV) (nx g:Nat) (f:Nat→Int):Heap:=boxT T :: setX T (nx+1) g f
theorem zHX {T:TabV} (hT:T.Wf) (i k:Int):∃ (v:AVal) (H':Heap),runT env 81 [T.v,.int .i64 i,.int .i64 k] [] 0=some (.ret v,H') ∧
    ((askS T.tab i k ≠ 0∧v=.tuple [.nilptr,.int .i64 (askS T.tab i k)]) ∨
     (askS T.tab i k=0∧T.tab.Ok∧canB T.tab=true∧outB T.tab i k=false∧∃ f g,T.tab.net.In f∧T.tab.net.Circ f∧v=.tuple [.ptr 4 0 0 0,.int .i64 0]∧H'=askX T 0 g f)):=by
 rcases z28 hT 0 [boxT T] 1 with ⟨hok,us,hc,_⟩ | ⟨hO,hcan,us,hc,_⟩ | ⟨hO,hcan,f,g,_,hin,hci,hc⟩
 · have ha:askS T.tab i k=60:=by unfold askS;rw [hok];rfl
   rw [ha]
   have:∃ H',runT env 81 [T.v,.int .i64 i,.int .i64 k] [] 0=some (.ret (.tuple [.nilptr,.int .i64 60]),H'):=by
    simp only [boxT] at hc
    rw [run_unfold fn81 rfl]
    simp only [go_sem,simprocAttr,Try.f81,hc,unwind,modeEx,resultsOf,one]
    exact ⟨_,rfl⟩
   obtain ⟨H',h⟩:=this
   exact ⟨_,_,h,.inl ⟨by decide,rfl⟩⟩
 · have hok:=Tab.ok_iff.2 hO
   have ha:askS T.tab i k=31:=by unfold askS;rw [hok,hcan];rfl
   rw [ha]
   have:∃ H',runT env 81 [T.v,.int .i64 i,.int .i64 k] [] 0=some (.ret (.tuple [.nilptr,.int .i64 31]),H'):=by
    simp only [boxT] at hc
    rw [run_unfold fn81 rfl]
    simp only [go_sem,simprocAttr,Try.f81,hc,unwind,modeEx,resultsOf,one]
    exact ⟨_,rfl⟩
   obtain ⟨H',h⟩:=this
   exact ⟨_,_,h,.inl ⟨by decide,rfl⟩⟩
 · have hok:=Tab.ok_iff.2 hO
   have hrun:runT env 81 [T.v,.int .i64 i,.int .i64 k] [] 0=some (.ret (if outB T.tab i k then .tuple [.nilptr,.int .i64 1] else .tuple [.ptr 4 0 0 0,.int .i64 0]),askX T 0 g f):=by
    simp only [setX,boxT,netB,arcB,z0A] at hc
    rw [run_unfold fn81 rfl]
    simp only [go_sem,simprocAttr,Try.f81,hc,numbered,netB]
    unfold outB
    cases d1:decide (i < 0) <;> cases d2:decide ((T.tab.R:Int)≤i) <;> cases d3:decide (k < 0) <;> cases d4:decide ((T.tab.C:Int)≤k) <;>
     simp only [go_sem,simprocAttr,d1,d2,d3,d4,unwind,modeEx,resultsOf,one,askX,setX,boxT,netB,arcB,z0A,Bool.or_true,Bool.true_or,Bool.or_false,Bool.false_or,if_true,if_false,Bool.false_eq_true]
   cases ho:outB T.tab i k with
   | true=>
     rw [ho] at hrun
     have ha:askS T.tab i k=1:=by unfold askS;rw [hok,hcan,ho];rfl
     exact ⟨_,_,hrun,.inl ⟨by rw [ha];decide,by rw [ha];rfl⟩⟩
   | false=>
     rw [ho] at hrun
     have ha:askS T.tab i k=0:=by unfold askS;rw [hok,hcan,ho];rfl
     exact ⟨_,_,hrun,.inr ⟨ha,hO,hcan,rfl,f,g,hin,hci,rfl,rfl⟩⟩
theorem z5R {T:TabV} (hT:T.Wf) (i k:Int) (ro:Nat) (H:Heap) (nx:Nat):
    (askS T.tab i k ≠ 0∧∃ us,callT env 81 [T.v,.int .i64 i,.int .i64 k] ro H nx=some (.ret (.tuple [.nilptr,.int .i64 (askS T.tab i k)]),.ups us)∧∃ X,us=numbered nx X) ∨
    (askS T.tab i k=0∧T.tab.Ok∧canB T.tab=true∧outB T.tab i k=false∧∃ f g,T.tab.net.In f∧T.tab.net.Circ f∧callT env 81 [T.v,.int .i64 i,.int .i64 k] ro H nx=some (.ret (.tuple [.ptr (nx+4) 0 0 0,.int .i64 0]),.ups (numbered nx (askX T nx g f)))):=by
 obtain ⟨v,H',hr,hv⟩:=zHX hT i k
 rcases hv with ⟨hz,rfl⟩ | ⟨hz,hO,hcan,ho,f,g,hin,hci,rfl,rfl⟩
 · exact .inl ⟨hz,_,z1R rfl rfl rfl rfl hr (w:=.tuple [.nilptr,.int .i64 (askS T.tab i k)]) rfl ro H nx,_,rfl⟩
 · refine .inr ⟨hz,hO,hcan,ho,f,g,hin,hci,?_⟩
   rw [z1R rfl rfl rfl rfl hr (w:=.tuple [.ptr 4 0 0 0,.int .i64 0]) rfl ro H nx]
   have n3:nxF nx 6 3=some (nx+3):=rfl
   have n4:nxF nx 6 4=some (nx+4):=rfl
   have hcell:∀ (f:Nat→Option Nat) (a b:Nat),f a=some b→renB f (z0A a)=z0A b:=fun f a b h=>by simp [renB,z0A,renL,AVal.ren,h]
   have hA:∀ h:Nat→Option Nat,renB h (arcB g T.tab.net f)=arcB g T.tab.net f:=fun _=>rfl
   simp only [askX,setX,List.length_cons,List.length_nil,List.map_cons,List.map_nil,z3E,hA,Nat.zero_add,Nat.reduceAdd,z4e n3,hcell _ _ _ n4,AVal.ren,renL,n4,Nat.add_assoc]
theorem z0g:∀ (X H:Heap),putU H (numbered H.length X)=H++X
 | [],H=>by simp [numbered,putU]
 | x :: X,H=>by
   have:=z0g X (H++[x])
   rw [List.length_append,List.length_singleton] at this
   simp only [numbered,putU,Nat.lt_irrefl,if_false,this,List.append_assoc,List.singleton_append]
theorem z1r {t:Tab} {i k:Int} (h:outB t i k=false):∃ a b:Nat,i=a∧k=b∧a < t.R∧b < t.C:=by
 unfold outB at h
 simp only [Bool.or_eq_false_iff,decide_eq_false_iff_not] at h
 exact ⟨i.toNat,k.toNat,by omega,by omega,by omega,by omega⟩
def EndsAns (t:Tab) (code:Int) (l:List Nat) (v:AVal):Prop:=(code ≠ 0∧v=.tuple [.agg [.int .i64 0,.int .i64 0],.int .i64 code]) ∨ (code=0∧t.Ok∧∃ lo hi,IsEnds t.net l lo hi∧v=.tuple [.agg [.int .i64 lo,.int .i64 hi],.int .i64 0])
theorem EndsAns.pure {t:Tab} {code:Int} {l:List Nat} {v:AVal} (h:EndsAns t code l v):noRef v=true∧v.under 0=true:=by
 rcases h with ⟨_,rfl⟩ | ⟨_,_,lo,hi,_,rfl⟩ <;> exact ⟨rfl,rfl⟩
theorem zF6 {T:TabV} (hT:T.Wf) (i k:Int):∃ (v:AVal) (H':Heap),runT env 26 [T.v,.int .i64 i,.int .i64 k] [] 0=some (.ret v,H')∧EndsAns T.tab (askS T.tab i k) [i.toNat * T.tab.C+k.toNat] v:=by
 rcases z5R hT i k 0 [boxT T,.cells 0 2 true [.agg [.int .i64 0,.int .i64 0]]] 2 with ⟨hz,us,hc,X,rfl⟩ | ⟨hz,hO,hcan,ho,f,g,hin,hci,hc⟩
 · have hz':decide (askS T.tab i k=0)=false:=decide_eq_false hz
   have:∃ H',runT env 26 [T.v,.int .i64 i,.int .i64 k] [] 0=some (.ret (.tuple [.agg [.int .i64 0,.int .i64 0],.int .i64 (askS T.tab i k)]),H'):=by
    have hp:=z0g X [boxT T,.cells 0 2 true [.agg [.int .i64 0,.int .i64 0]]]
    simp only [boxT,List.length_cons,List.length_nil,Nat.zero_add,Nat.reduceAdd,List.cons_append,List.nil_append] at hc hp
    rw [run_unfold fn26 rfl]
    simp only [go_sem,simprocAttr,Try.f26,hc,hz',hp,unwind,modeEx,resultsOf,one]
    exact ⟨_,rfl⟩
   obtain ⟨H',h⟩:=this
   exact ⟨_,_,h,.inl ⟨hz,rfl⟩⟩
 · obtain ⟨a,b,rfl,rfl,ha,hb⟩:=z1r ho
   have hN:=z1i hO
   have hR8:=hO.R8
   have hC8:=hO.C8
   have hlt:a * T.tab.C+b < T.tab.net.n:=by
    have:=z3z ha hb
    show _ < T.tab.R * T.tab.C+T.tab.R+T.tab.C
    omega
   obtain ⟨lo,hi,he,f',ec⟩:=z51 (gn:=g) (cl:=true) (sz:=1) (l:=[a * T.tab.C+b]) hN (z6F hO) hin hci (.inr rfl) (fun j hj=>by simp at hj;omega) (by simp)
   have hA:NetAt ([boxT T,.cells 0 2 true [.agg [.int .i64 0,.int .i64 0]]]++askX T 2 g f) 6 5 T.tab.R T.tab.C g T.tab.net.n (arcB g T.tab.net f):=⟨rfl,rfl,by decide,z0Y _ _ _⟩
   have cc:=z3o hA (i:=a) (k:=b) (by omega) hC8 (by omega) 0 8
   have ec:=ec hA (v:=.lit true 1 [.int .i64 (a * T.tab.C+b:Nat)]) (lent:=[]) (z1L rfl rfl) (by simp) 8
   rw [hz]
   have:∃ H',runT env 26 [T.v,.int .i64 a,.int .i64 b] [] 0=some (.ret (.tuple [.agg [.int .i64 lo,.int .i64 hi],.int .i64 0]),H'):=by
    simp only [askX,setX,boxT,netB,arcB,z0A,List.cons_append,List.nil_append,Nat.reduceAdd] at hc cc ec
    rw [run_unfold fn26 rfl]
    simp only [go_sem,simprocAttr,Try.f26,hc,numbered,cc,ec,unwind,modeEx,resultsOf,one]
    exact ⟨_,rfl⟩
   obtain ⟨H',h⟩:=this
   exact ⟨_,_,h,.inr ⟨rfl,hO,lo,hi,by simpa using he,rfl⟩⟩
set_option maxRecDepth 10000
set_option maxHeartbeats 2000000
theorem z1e {T:TabV} (hT:T.Wf) (i k:Int):∃ v,EndsAns T.tab (askS T.tab i k) [i.toNat * T.tab.C+k.toNat] v∧∀ ro H nx,callT env 26 [T.v,.int .i64 i,.int .i64 k] ro H nx=some (.ret v,.ups []):=by
 obtain ⟨v,H',hr,hv⟩:=zF6 hT i k
 exact ⟨v,hv,fun ro H nx=>call_pure rfl rfl rfl rfl hr hv.pure.2 ro H nx⟩
theorem zE4 {T:TabV} (hT:T.Wf) (i:Int):∃ (v:AVal) (H':Heap),runT env 87 [T.v,.int .i64 i,.int .i64 0,.func 88 [] [],.int .i64 i] [] 0=some (.ret v,H')∧EndsAns T.tab (askS T.tab i 0) [T.tab.R * T.tab.C+i.toNat] v:=by
 rcases z5R hT i 0 0 [boxT T,.cells 0 2 true [.agg [.int .i64 0,.int .i64 0]]] 2 with ⟨hz,us,hc,X,rfl⟩ | ⟨hz,hO,hcan,ho,f,g,hin,hci,hc⟩
 · have hz':decide (askS T.tab i 0=0)=false:=decide_eq_false hz
   have:∃ H',runT env 87 [T.v,.int .i64 i,.int .i64 0,.func 88 [] [],.int .i64 i] [] 0=some (.ret (.tuple [.agg [.int .i64 0,.int .i64 0],.int .i64 (askS T.tab i 0)]),H'):=by
    have hp:=z0g X [boxT T,.cells 0 2 true [.agg [.int .i64 0,.int .i64 0]]]
    simp only [boxT,List.length_cons,List.length_nil,Nat.zero_add,Nat.reduceAdd,List.cons_append,List.nil_append] at hc hp
    rw [run_unfold fn87 rfl]
    simp only [go_sem,simprocAttr,Try.f87,hc,hz',hp,unwind,modeEx,resultsOf,one]
    exact ⟨_,rfl⟩
   obtain ⟨H',h⟩:=this
   exact ⟨_,_,h,.inl ⟨hz,rfl⟩⟩
 · obtain ⟨a,b,ea,eb,ha,hb⟩:=z1r ho
   obtain ⟨m,rfl,hm⟩:∃ m:Nat,i=m∧m < T.tab.R:=⟨i.toNat,by omega,by omega⟩
   have hN:=z1i hO
   have hR8:=hO.R8
   have hC8:=hO.C8
   have hlt:T.tab.R * T.tab.C+m < T.tab.net.n:=by
    show _ < T.tab.R * T.tab.C+T.tab.R+T.tab.C
    omega
   obtain ⟨lo,hi,he,f',ec⟩:=z51 (gn:=g) (cl:=true) (sz:=1) (l:=[T.tab.R * T.tab.C+m]) hN (z6F hO) hin hci (.inr rfl) (fun j hj=>by simp at hj;omega) (by simp)
   have hA:NetAt ([boxT T,.cells 0 2 true [.agg [.int .i64 0,.int .i64 0]]]++askX T 2 g f) 6 5 T.tab.R T.tab.C g T.tab.net.n (arcB g T.tab.net f):=⟨rfl,rfl,by decide,z0Y _ _ _⟩
   have cc:=z6J hA (i:=m) (by omega) hR8 hC8 0 8
   have ec:=ec hA (v:=.lit true 1 [.int .i64 (T.tab.R * T.tab.C+m:Nat)]) (lent:=[]) (z1L rfl rfl) (by simp) 8
   rw [hz]
   have:∃ H',runT env 87 [T.v,.int .i64 m,.int .i64 0,.func 88 [] [],.int .i64 m] [] 0=some (.ret (.tuple [.agg [.int .i64 lo,.int .i64 hi],.int .i64 0]),H'):=by
    simp only [askX,setX,boxT,netB,arcB,z0A,List.cons_append,List.nil_append,Nat.reduceAdd] at hc cc ec
    rw [run_unfold fn87 rfl]
    simp only [go_sem,simprocAttr,Try.f87,hc,numbered,cc,ec,unwind,modeEx,resultsOf,one]
    exact ⟨_,rfl⟩
   obtain ⟨H',h⟩:=this
   exact ⟨_,_,h,.inr ⟨rfl,hO,lo,hi,by simpa using he,rfl⟩⟩
theorem zFi {T:TabV} (hT:T.Wf) (i:Int):∃ (v:AVal) (H':Heap),runT env 28 [T.v,.int .i64 i] [] 0=some (.ret v,H')∧EndsAns T.tab (askS T.tab i 0) [T.tab.R * T.tab.C+i.toNat] v:=by
 obtain ⟨v,H',hr,hv⟩:=zE4 hT i
 refine ⟨v,?_⟩
 have hc:=call_pure (f:=87) rfl rfl rfl rfl hr hv.pure.2 0 [boxT T,.cells 0 2 true [.agg [.int .i64 0,.int .i64 0]]] 2
 have:∃ H',runT env 28 [T.v,.int .i64 i] [] 0=some (.ret v,H'):=by
  simp only [boxT] at hc
  rcases hv with ⟨hz,rfl⟩ | ⟨hz,hO,lo,hi,he,rfl⟩
  · rw [run_unfold fn28 rfl]
    simp only [go_sem,simprocAttr,Try.f28,hc,unwind,modeEx,resultsOf,one]
    exact ⟨_,rfl⟩
  · rw [run_unfold fn28 rfl]
    simp only [go_sem,simprocAttr,Try.f28,hc,unwind,modeEx,resultsOf,one]
    exact ⟨_,rfl⟩
 obtain ⟨H',h⟩:=this
 exact ⟨H',h,hv⟩
theorem z5H {T:TabV} (hT:T.Wf) (i:Int):∃ v,EndsAns T.tab (askS T.tab i 0) [T.tab.R * T.tab.C+i.toNat] v∧∀ ro H nx,callT env 28 [T.v,.int .i64 i] ro H nx=some (.ret v,.ups []):=by
 obtain ⟨v,H',hr,hv⟩:=zFi hT i
 exact ⟨v,hv,fun ro H nx=>call_pure rfl rfl rfl rfl hr hv.pure.2 ro H nx⟩
theorem zE3 {T:TabV} (hT:T.Wf) (i:Int):∃ (v:AVal) (H':Heap),runT env 87 [T.v,.int .i64 0,.int .i64 i,.func 90 [] [],.int .i64 i] [] 0=some (.ret v,H')∧EndsAns T.tab (askS T.tab 0 i) [T.tab.R * T.tab.C+T.tab.R+i.toNat] v:=by
 rcases z5R hT 0 i 0 [boxT T,.cells 0 2 true [.agg [.int .i64 0,.int .i64 0]]] 2 with ⟨hz,us,hc,X,rfl⟩ | ⟨hz,hO,hcan,ho,f,g,hin,hci,hc⟩
 · have hz':decide (askS T.tab 0 i=0)=false:=decide_eq_false hz
   have:∃ H',runT env 87 [T.v,.int .i64 0,.int .i64 i,.func 90 [] [],.int .i64 i] [] 0=some (.ret (.tuple [.agg [.int .i64 0,.int .i64 0],.int .i64 (askS T.tab 0 i)]),H'):=by
    have hp:=z0g X [boxT T,.cells 0 2 true [.agg [.int .i64 0,.int .i64 0]]]
    simp only [boxT,List.length_cons,List.length_nil,Nat.zero_add,Nat.reduceAdd,List.cons_append,List.nil_append] at hc hp
    rw [run_unfold fn87 rfl]
    simp only [go_sem,simprocAttr,Try.f87,hc,hz',hp,unwind,modeEx,resultsOf,one]
    exact ⟨_,rfl⟩
   obtain ⟨H',h⟩:=this
   exact ⟨_,_,h,.inl ⟨hz,rfl⟩⟩
 · obtain ⟨a,b,ea,eb,ha,hb⟩:=z1r ho
   obtain ⟨m,rfl,hm⟩:∃ m:Nat,i=m∧m < T.tab.C:=⟨i.toNat,by omega,by omega⟩
   have hN:=z1i hO
   have hR8:=hO.R8
   have hC8:=hO.C8
   have hlt:T.tab.R * T.tab.C+T.tab.R+m < T.tab.net.n:=by
    show _ < T.tab.R * T.tab.C+T.tab.R+T.tab.C
    omega
   obtain ⟨lo,hi,he,f',ec⟩:=z51 (gn:=g) (cl:=true) (sz:=1) (l:=[T.tab.R * T.tab.C+T.tab.R+m]) hN (z6F hO) hin hci (.inr rfl) (fun j hj=>by simp at hj;omega) (by simp)
   have hA:NetAt ([boxT T,.cells 0 2 true [.agg [.int .i64 0,.int .i64 0]]]++askX T 2 g f) 6 5 T.tab.R T.tab.C g T.tab.net.n (arcB g T.tab.net f):=⟨rfl,rfl,by decide,z0Y _ _ _⟩
   have cc:=z8l hA (i:=m) (by omega) hR8 hC8 0 8
   have ec:=ec hA (v:=.lit true 1 [.int .i64 (T.tab.R * T.tab.C+T.tab.R+m:Nat)]) (lent:=[]) (z1L rfl rfl) (by simp) 8
   rw [hz]
   have:∃ H',runT env 87 [T.v,.int .i64 0,.int .i64 m,.func 90 [] [],.int .i64 m] [] 0=some (.ret (.tuple [.agg [.int .i64 lo,.int .i64 hi],.int .i64 0]),H'):=by
    simp only [askX,setX,boxT,netB,arcB,z0A,List.cons_append,List.nil_append,Nat.reduceAdd] at hc cc ec
    rw [run_unfold fn87 rfl]
    simp only [go_sem,simprocAttr,Try.f87,hc,numbered,cc,ec,unwind,modeEx,resultsOf,one]
    exact ⟨_,rfl⟩
   obtain ⟨H',h⟩:=this
   exact ⟨_,_,h,.inr ⟨rfl,hO,lo,hi,by simpa using he,rfl⟩⟩
theorem zF9 {T:TabV} (hT:T.Wf) (i:Int):∃ (v:AVal) (H':Heap),runT env 30 [T.v,.int .i64 i] [] 0=some (.ret v,H')∧EndsAns T.tab (askS T.tab 0 i) [T.tab.R * T.tab.C+T.tab.R+i.toNat] v:=by
 obtain ⟨v,H',hr,hv⟩:=zE3 hT i
 refine ⟨v,?_⟩
 have hc:=call_pure (f:=87) rfl rfl rfl rfl hr hv.pure.2 0 [boxT T,.cells 0 2 true [.agg [.int .i64 0,.int .i64 0]]] 2
 have:∃ H',runT env 30 [T.v,.int .i64 i] [] 0=some (.ret v,H'):=by
  simp only [boxT] at hc
  rcases hv with ⟨hz,rfl⟩ | ⟨hz,hO,lo,hi,he,rfl⟩
  · rw [run_unfold fn30 rfl]
    simp only [go_sem,simprocAttr,Try.f30,hc,unwind,modeEx,resultsOf,one]
    exact ⟨_,rfl⟩
  · rw [run_unfold fn30 rfl]
    simp only [go_sem,simprocAttr,Try.f30,hc,unwind,modeEx,resultsOf,one]
    exact ⟨_,rfl⟩
 obtain ⟨H',h⟩:=this
 exact ⟨H',h,hv⟩
theorem z4z {T:TabV} (hT:T.Wf) (i:Int):∃ v,EndsAns T.tab (askS T.tab 0 i) [T.tab.R * T.tab.C+T.tab.R+i.toNat] v∧∀ ro H nx,callT env 30 [T.v,.int .i64 i] ro H nx=some (.ret v,.ups []):=by
 obtain ⟨v,H',hr,hv⟩:=zF9 hT i
 exact ⟨v,hv,fun ro H nx=>call_pure rfl rfl rfl rfl hr hv.pure.2 ro H nx⟩
set_option maxRecDepth 10000
set_option maxHeartbeats 2000000
theorem zAA {H:Heap} {id g:Nat} {l:List Nat} {j:Nat} {cl:Bool} (hH:H[id]?=some (accB 1 g (natsV l))) (hb:l.length < 2 ^ 30) (nx:Nat) {ro:Nat} (hro:ro≤id):
    ∃ g',z0H env ro nx 51 (.ref id (accG g (natsV l)) 0 l.length false) (.lit cl 1 [.int .i64 j]) H=some (.ref id (accG g' (natsV (l++[j]))) 0 (l++[j]).length false,[(id,accB 1 g' (natsV (l++[j])))]):=by
 obtain ⟨g',h⟩:=z47 (v:=.int .i64 j) (cl:=cl) ti51 ti3 rfl ⟨by decide,rfl,rfl⟩ rfl hH rfl (by rw [z5D];show (l.length+1) * 9≤2 ^ 45;omega) nx hro
 rw [z5D] at h
 exact ⟨g',by rw [h];simp [natsV]⟩
theorem zFS {H:Heap} {p q g:Nat} {l:List Nat} (hq:H[q]?=some (accB 1 g (natsV l))):∃ sz,(l=[] ∨ sz=1)∧lend H [1] [.ptr p 0 0 0,.ref q (accG g (natsV l)) 0 l.length false] 0=some ([.ptr p 0 0 0,.lit false sz (natsV l)],[q]):=by
 have hlen:=z5D l
 have ht:(natsV l).take l.length=natsV l:=List.take_of_length_le (by omega)
 by_cases h:l=[]
 · subst h
   have hq':H[q]?=some (.cells 0 0 false []):=hq
   have hre:reach H fuel0 [q] []=some [q]:=by unfold fuel0;simp [reach,hq',refsL]
   refine ⟨0,.inl rfl,?_⟩
   simp [lend,noRef,AVal.under,toLit,hq',AVal.refs,hre,natsV,accG,mapO]
 · have hne:natsV l ≠ []:=fun e=>h (by have:=congrArg List.length e;rw [hlen] at this;exact List.length_eq_zero_iff.1 this)
   have ea:accB 1 g (natsV l)=.cells g 1 true (natsV l):=if_neg hne
   have eg:accG g (natsV l)=g:=if_neg hne
   rw [ea] at hq
   have hre:reach H fuel0 [q] []=some [q]:=z5f [q] [] 64 (fun id hid=>by simp at hid;subst hid;exact ⟨_,_,_,hq⟩) (by simp) (by simp) (by simp)
   refine ⟨1,.inr rfl,?_⟩
   simp [lend,noRef,AVal.under,toLit,hq,hlen,ht,AVal.refs,hre,eg]
def z2I (t:Tab) (n:Nat):List Nat:=(List.range n).map (t.R * t.C+·)
theorem zGs (t:Tab) (n:Nat):z2I t (n+1)=z2I t n++[t.R * t.C+n]:=by simp [z2I,List.range_succ]
theorem z88 (t:Tab) (n:Nat):(z2I t n).length=n:=by simp [z2I]
def totH (T:TabV) (g:Nat) (f:Nat→Int) (gt:Nat) (l:List Nat):Heap:=[boxT T,.cells 0 2 true [.agg [.int .i64 0,.int .i64 0]],boxT T,boxT T,arcB g T.tab.net f,netB T.tab.R T.tab.C 4 g T.tab.net.n,z0A 5,accB 1 gt (natsV l)]
theorem zH9 {T:TabV} (hO:T.tab.Ok) (g:Nat) (f:Nat→Int):∀ (n i gt:Nat) (j0 j1 j3 j5 j7 j8 j9 j10 j11 j12 j13 j14 j15 j16 j17 j18 j19 j22 j23 j24 j25 j26 j27 j28 j29 j30 j31 j32 j33:AVal),i+n=T.tab.R →
    Goes (execT env (Try.f34.at [1,1,1,1,0,1,0]) ⟨[j0,j1,.ptr 1 0 0 0,j3,.ptr 5 0 0 0,j5,.ref 7 (accG gt (natsV (z2I T.tab i))) 0 (z2I T.tab i).length false,j7,j8,j9,j10,j11,j12,j13,j14,j15,j16,j17,j18,j19,.int .i64 T.tab.R,.int .i64 i,j22,j23,j24,j25,j26,j27,j28,j29,j30,j31,j32,j33],totH T g f gt (z2I T.tab i),[],0,[6]⟩) fun e s=>
     e=.exit 0∧∃ (gt:Nat),FrP 34 [(2,.ptr 1 0 0 0),(4,.ptr 5 0 0 0),(6,.ref 7 (accG gt (natsV (z2I T.tab T.tab.R))) 0 (z2I T.tab T.tab.R).length false)] (totH T g f gt (z2I T.tab T.tab.R)) [] 0 [6] s:=by
 have hR8:=hO.R8
 have hC8:=hO.C8
 intro n
 induction n with
 | zero=>
   intro i gt;intros;rename_i hi
   have hd:decide ((i:Int) < (T.tab.R:Int))=false:=by simp;omega
   have:i=T.tab.R:=by omega
   subst this
   simp only [go_sem,simprocAttr,Try.f34]
   rw [exec_loop]
   simp only [go_sem,simprocAttr,hd]
   exact ⟨gt,frP (by kernel_rfl)⟩
 | succ n ih=>
   intro i gt;intros;rename_i hi
   have hd:decide ((i:Int) < (T.tab.R:Int))=true:=by simp;omega
   have hA:NetAt (totH T g f gt (z2I T.tab i)) 5 4 T.tab.R T.tab.C g T.tab.net.n (arcB g T.tab.net f):=⟨rfl,rfl,by decide,z0Y _ _ _⟩
   have cc:=z6J hA (i:=i) (by omega) hR8 hC8 0 8
   obtain ⟨gt',ap⟩:=zAA (H:=totH T g f gt (z2I T.tab i)) (id:=7) (l:=z2I T.tab i) (j:=T.tab.R * T.tab.C+i) (cl:=true) rfl (by rw [z88];omega) 8 (ro:=0) (Nat.zero_le _)
   rw [← zGs] at ap
   have ih':=ih (i+1) gt'
   simp only [totH,boxT,netB,arcB,z0A] at cc ap
   simp only [go_sem,simprocAttr,Try.f34,totH,boxT,netB,arcB,z0A] at ih' ⊢
   rw [exec_loop]
   simp only [go_sem,simprocAttr,hd,cc,ap,z00 (show i < 2 ^ 63 - 1 by omega)]
   exact ih' _ _ _ _ _ _ _ _ _ _ _ _ _ _ _ _ _ _ _ _ _ _ _ _ _ _ _ _ _ (by omega)
theorem zJY {T:TabV} (hT:T.Wf):∃ (v:AVal) (H':Heap),runT env 34 [T.v] [] 0=some (.ret v,H')∧EndsAns T.tab (askS T.tab 0 0) (z2I T.tab T.tab.R) v:=by
 rcases z28 hT 0 [boxT T,.cells 0 2 true [.agg [.int .i64 0,.int .i64 0]]] 2 with ⟨hok,us,hc,X,rfl⟩ | ⟨hO,hcan,us,hc,X,rfl⟩ | ⟨hO,hcan,f,g,_,hin,hci,hc⟩
 · have ha:askS T.tab 0 0=60:=by unfold askS;rw [hok];rfl
   rw [ha]
   have:∃ H',runT env 34 [T.v] [] 0=some (.ret (.tuple [.agg [.int .i64 0,.int .i64 0],.int .i64 60]),H'):=by
    have hp:=z0g X [boxT T,.cells 0 2 true [.agg [.int .i64 0,.int .i64 0]]]
    simp only [boxT,List.length_cons,List.length_nil,Nat.zero_add,Nat.reduceAdd,List.cons_append,List.nil_append] at hc hp
    rw [run_unfold fn34 rfl]
    simp only [go_sem,simprocAttr,Try.f34,hc,hp,unwind,modeEx,resultsOf,one]
    exact ⟨_,rfl⟩
   obtain ⟨H',h⟩:=this
   exact ⟨_,_,h,.inl ⟨by decide,rfl⟩⟩
 · have hok:=Tab.ok_iff.2 hO
   have ha:askS T.tab 0 0=31:=by unfold askS;rw [hok,hcan];rfl
   rw [ha]
   have:∃ H',runT env 34 [T.v] [] 0=some (.ret (.tuple [.agg [.int .i64 0,.int .i64 0],.int .i64 31]),H'):=by
    have hp:=z0g X [boxT T,.cells 0 2 true [.agg [.int .i64 0,.int .i64 0]]]
    simp only [boxT,List.length_cons,List.length_nil,Nat.zero_add,Nat.reduceAdd,List.cons_append,List.nil_append] at hc hp
    rw [run_unfold fn34 rfl]
    simp only [go_sem,simprocAttr,Try.f34,hc,hp,unwind,modeEx,resultsOf,one]
    exact ⟨_,rfl⟩
   obtain ⟨H',h⟩:=this
   exact ⟨_,_,h,.inl ⟨by decide,rfl⟩⟩
 · have hok:=Tab.ok_iff.2 hO
   have hR1:=hO.R1
   have hC1:=hO.C1
   have ho:outB T.tab 0 0=false:=by
    unfold outB
    rw [show decide ((0:Int) < 0)=false from rfl,decide_eq_false (p:=(T.tab.R:Int)≤0) (by omega),decide_eq_false (p:=(T.tab.C:Int)≤0) (by omega)]
    rfl
   have ha:askS T.tab 0 0=0:=by unfold askS;rw [hok,hcan,ho];rfl
   rw [ha]
   obtain ⟨e1,t1,hx1,hp1⟩:=zH9 hO g f T.tab.R 0 0 _ _ _ _ _ _ _ _ _ _ _ _ _ _ _ _ _ _ _ _ _ _ _ _ _ _ _ _ _ (by omega)
   obtain ⟨rfl,gt,jp,rfl⟩:=hp1
   obtain ⟨sz,hsz,hle⟩:=zFS (H:=totH T g f gt (z2I T.tab T.tab.R)) (p:=5) (q:=7) (g:=gt) (l:=z2I T.tab T.tab.R) rfl
   obtain ⟨lo,hi,he,f',ec⟩:=z51 (gn:=g) (cl:=false) (sz:=sz) (l:=z2I T.tab T.tab.R) (z1i hO) (z6F hO) hin hci hsz (fun j hj=>by
    simp only [z2I,List.mem_map,List.mem_range] at hj
    obtain ⟨a,ha,rfl⟩:=hj
    show _ < T.tab.R * T.tab.C+T.tab.R+T.tab.C
    omega) (by rw [z88];have:=hO.R8;omega)
   have hA:NetAt (totH T g f gt (z2I T.tab T.tab.R)) 5 4 T.tab.R T.tab.C g T.tab.net.n (arcB g T.tab.net f):=⟨rfl,rfl,by decide,z0Y _ _ _⟩
   have ec:=ec hA hle (by simp) 8
   have e0:z2I T.tab 0=[]:=rfl
   have en:natsV []=[]:=rfl
   simp only [setX,totH,boxT,netB,arcB,z0A] at hc ec
   simp only [go_sem,simprocAttr,Try.f34,totH,boxT,netB,arcB,z0A,e0,en,z1Z,z1a,List.length_nil,Int.natCast_zero,Int.ofNat_zero] at hx1
   have:∃ H',runT env 34 [T.v] [] 0=some (.ret (.tuple [.agg [.int .i64 lo,.int .i64 hi],.int .i64 0]),H'):=by
    rw [run_unfold fn34 rfl]
    simp only [go_sem,simprocAttr,Try.f34,hc,numbered]
    rw [hx1]
    simp only [go_sem,simprocAttr,totH,boxT,netB,arcB,z0A,ec,unwind,modeEx,resultsOf,one]
    exact ⟨_,rfl⟩
   obtain ⟨H',h⟩:=this
   exact ⟨_,_,h,.inr ⟨rfl,hO,lo,hi,he,rfl⟩⟩
theorem z5l {T:TabV} (hT:T.Wf):∃ v,EndsAns T.tab (askS T.tab 0 0) (z2I T.tab T.tab.R) v∧∀ ro H nx,callT env 34 [T.v] ro H nx=some (.ret v,.ups []):=by
 obtain ⟨v,H',hr,hv⟩:=zJY hT
 exact ⟨v,hv,fun ro H nx=>call_pure rfl rfl rfl rfl hr hv.pure.2 ro H nx⟩
set_option maxRecDepth 10000
set_option maxHeartbeats 2000000
theorem z2r {H:Heap} {id g:Nat} {l:List Bool} {b:Bool} {cl:Bool} (hH:H[id]?=some (accB 1 g (z09 l))) (hb:l.length < 2 ^ 30) (nx:Nat) {ro:Nat} (hro:ro≤id):
    ∃ g',z0H env ro nx 26 (.ref id (accG g (z09 l)) 0 l.length false) (.lit cl 1 [.bool b]) H=some (.ref id (accG g' (z09 (l++[b]))) 0 (l++[b]).length false,[(id,accB 1 g' (z09 (l++[b])))]):=by
 obtain ⟨g',h⟩:=z47 (v:=.bool b) (cl:=cl) ti26 ti4 rfl ⟨by decide,rfl,rfl⟩ rfl hH rfl (by rw [z0F];show (l.length+1) * 2≤2 ^ 45;omega) nx hro
 rw [z0F] at h
 exact ⟨g',by rw [h];simp [z09]⟩
def z3l (met:List Bool) (off:Nat) (b:Bool) (n:Nat):List Bool:=(List.range n).map fun i=>met.getD (off+i) false == b
theorem zAn (met:List Bool) (off:Nat) (b:Bool) (n:Nat):z3l met off b (n+1)=z3l met off b n++[met.getD (off+n) false == b]:=by simp [z3l,List.range_succ]
theorem z1m (met:List Bool) (off:Nat) (b:Bool) (n:Nat):(z3l met off b n).length=n:=by simp [z3l]
def gapH (T:TabV) (g:Nat) (f:Nat→Int) (g1 g2:Nat) (l1 l2:List Bool):Heap:=[boxT T,.cells 0 2 false [.agg [.lit true 0 [],.lit true 0 []]],boxT T,arcB g T.tab.net f,netB T.tab.R T.tab.C 3 g T.tab.net.n,z0A 4,accB 1 g1 (z09 l1),accB 1 g2 (z09 l2),.cells 0 2 false [.agg [.ref 6 (accG g1 (z09 l1)) 0 l1.length false,.ref 7 (accG g2 (z09 l2)) 0 l2.length false]]]
theorem zKT {T:TabV} (hO:T.tab.Ok) (g:Nat) (f:Nat→Int) {met:List Bool} (hm:met.length=1+T.tab.R+T.tab.C) (b:Bool):∀ (n i g1:Nat) (j0 j1 j3 j6 j9 j10 j11 j12 j13 j14 j15 j16 j17 j18 j19 j20 j21 j22 j23 j24 j25 j26 j29 j30 j31 j32 j33 j34 j35 j36 j37 j38 j39 j40 j41 j42 j43 j44 j45 j46 j47 j48 j49 j50 j51 j52 j53 j54 j55 j56 j57 j58 j59 j60 j61 j62 j63 j64 j65 j66:AVal),i+n=T.tab.R →
    Goes (execT env (Try.f76.at [1,1,1,1,1,1,0,1,0]) ⟨[j0,j1,.ptr 1 0 0 0,j3,.ptr 4 0 0 0,.lit false 1 (z09 met),j6,.bool b,.ptr 8 0 0 0,j9,j10,j11,j12,j13,j14,j15,j16,j17,j18,j19,j20,j21,j22,j23,j24,j25,j26,.int .i64 T.tab.R,.int .i64 i,j29,j30,j31,j32,j33,j34,j35,j36,j37,j38,j39,j40,j41,j42,j43,j44,j45,j46,j47,j48,j49,j50,j51,j52,j53,j54,j55,j56,j57,j58,j59,j60,j61,j62,j63,j64,j65,j66],gapH T g f g1 0 (z3l met 1 b i) [],[],0,[8]⟩) fun e s=>
     e=.exit 0∧∃ (g1:Nat),FrP 67 [(2,.ptr 1 0 0 0),(4,.ptr 4 0 0 0),(5,.lit false 1 (z09 met)),(7,.bool b),(8,.ptr 8 0 0 0)] (gapH T g f g1 0 (z3l met 1 b T.tab.R) []) [] 0 [8] s:=by
 have hR8:=hO.R8
 have hC8:=hO.C8
 intro n
 induction n with
 | zero=>
   intro i g1;intros;rename_i hi
   have hd:decide ((i:Int) < (T.tab.R:Int))=false:=by simp;omega
   have:i=T.tab.R:=by omega
   subst this
   simp only [go_sem,simprocAttr,Try.f76]
   rw [exec_loop]
   simp only [go_sem,simprocAttr,hd]
   exact ⟨g1,frP (by kernel_rfl)⟩
 | succ n ih=>
   intro i g1;intros;rename_i hi
   have hd:decide ((i:Int) < (T.tab.R:Int))=true:=by simp;omega
   have hA:NetAt (gapH T g f g1 0 (z3l met 1 b i) []) 4 3 T.tab.R T.tab.C g T.tab.net.n (arcB g T.tab.net f):=⟨rfl,rfl,by decide,z0Y _ _ _⟩
   have rc:=zBg hA (i:=i) (by omega) 0 9
   have l2:=hA.looks
   have gb:=z0f (l:=met) (i:=1+i) (by omega)
   have p0:(0:Int)≤((1+i:Nat):Int):=by omega
   obtain ⟨g1',ap⟩:=z2r (H:=gapH T g f g1 0 (z3l met 1 b i) []) (id:=6) (l:=z3l met 1 b i) (b:=met.getD (1+i) false == b) (cl:=true) rfl (by rw [z1m];omega) 9 (ro:=0) (Nat.zero_le _)
   rw [← zAn] at ap
   have ih':=ih (i+1) g1'
   simp only [gapH,boxT,netB,arcB,z0A,List.length_nil] at rc ap l2
   simp only [go_sem,simprocAttr,Try.f76,gapH,boxT,netB,arcB,z0A,List.length_nil] at ih' ⊢
   rw [exec_loop]
   simp only [go_sem,simprocAttr,hd,rc,l2,gb,p0,Int.toNat_natCast,ap,z00 (show i < 2 ^ 63 - 1 by omega)]
   rw [apart_ok]
   · simp only [go_sem,simprocAttr,gapH,z00 (show i < 2 ^ 63 - 1 by omega)]
     exact ih' _ _ _ _ _ _ _ _ _ _ _ _ _ _ _ _ _ _ _ _ _ _ _ _ _ _ _ _ _ _ _ _ _ _ _ _ _ _ _ _ _ _ _ _ _ _ _ _ _ _ _ _ _ _ _ _ _ _ _ _ (by omega)
   · kernel_rfl
theorem zKS {T:TabV} (hO:T.tab.Ok) (g:Nat) (f:Nat→Int) {met:List Bool} (hm:met.length=1+T.tab.R+T.tab.C) (b:Bool) (g1:Nat) (l1:List Bool):∀ (n i g2:Nat) (j0 j1 j3 j6 j9 j10 j11 j12 j13 j14 j15 j16 j17 j18 j19 j20 j21 j22 j23 j24 j25 j26 j27 j28 j29 j30 j31 j32 j33 j34 j35 j36 j37 j38 j39 j40 j41 j42 j43 j44 j45 j46 j47 j50 j51 j52 j53 j54 j55 j56 j57 j58 j59 j60 j61 j62 j63 j64 j65 j66:AVal),i+n=T.tab.C →
    Goes (execT env (Try.f76.at [1,1,1,1,1,1,1,0,1,0]) ⟨[j0,j1,.ptr 1 0 0 0,j3,.ptr 4 0 0 0,.lit false 1 (z09 met),j6,.bool b,.ptr 8 0 0 0,j9,j10,j11,j12,j13,j14,j15,j16,j17,j18,j19,j20,j21,j22,j23,j24,j25,j26,j27,j28,j29,j30,j31,j32,j33,j34,j35,j36,j37,j38,j39,j40,j41,j42,j43,j44,j45,j46,j47,.int .i64 T.tab.C,.int .i64 i,j50,j51,j52,j53,j54,j55,j56,j57,j58,j59,j60,j61,j62,j63,j64,j65,j66],gapH T g f g1 g2 l1 (z3l met (1+T.tab.R) b i),[],0,[8]⟩) fun e s=>
     e=.exit 2∧∃ (g2:Nat),FrP 67 [(2,.ptr 1 0 0 0),(4,.ptr 4 0 0 0),(8,.ptr 8 0 0 0)] (gapH T g f g1 g2 l1 (z3l met (1+T.tab.R) b T.tab.C)) [] 0 [8] s:=by
 have hR8:=hO.R8
 have hC8:=hO.C8
 intro n
 induction n with
 | zero=>
   intro i g2;intros;rename_i hi
   have hd:decide ((i:Int) < (T.tab.C:Int))=false:=by simp;omega
   have:i=T.tab.C:=by omega
   subst this
   simp only [go_sem,simprocAttr,Try.f76]
   rw [exec_loop]
   simp only [go_sem,simprocAttr,hd]
   exact ⟨g2,frP (by kernel_rfl)⟩
 | succ n ih=>
   intro i g2;intros;rename_i hi
   have hd:decide ((i:Int) < (T.tab.C:Int))=true:=by simp;omega
   have hA:NetAt (gapH T g f g1 g2 l1 (z3l met (1+T.tab.R) b i)) 4 3 T.tab.R T.tab.C g T.tab.net.n (arcB g T.tab.net f):=⟨rfl,rfl,by decide,z0Y _ _ _⟩
   have rc:=zB7 hA hR8 (i:=i) (by omega) 0 9
   have l2:=hA.looks
   have gb:=z0f (l:=met) (i:=1+T.tab.R+i) (by omega)
   have p0:(0:Int)≤((1+T.tab.R+i:Nat):Int):=by omega
   obtain ⟨g2',ap⟩:=z2r (H:=gapH T g f g1 g2 l1 (z3l met (1+T.tab.R) b i)) (id:=7) (l:=z3l met (1+T.tab.R) b i) (b:=met.getD (1+T.tab.R+i) false == b) (cl:=true) rfl (by rw [z1m];omega) 9 (ro:=0) (Nat.zero_le _)
   rw [← zAn] at ap
   have ih':=ih (i+1) g2'
   simp only [gapH,boxT,netB,arcB,z0A,List.length_nil] at rc ap l2
   simp only [go_sem,simprocAttr,Try.f76,gapH,boxT,netB,arcB,z0A,List.length_nil] at ih' ⊢
   rw [exec_loop]
   simp only [go_sem,simprocAttr,hd,rc,l2,gb,p0,Int.toNat_natCast,ap,z00 (show i < 2 ^ 63 - 1 by omega)]
   rw [apart_ok]
   · simp only [go_sem,simprocAttr,gapH,z00 (show i < 2 ^ 63 - 1 by omega)]
     exact ih' _ _ _ _ _ _ _ _ _ _ _ _ _ _ _ _ _ _ _ _ _ _ _ _ _ _ _ _ _ _ _ _ _ _ _ _ _ _ _ _ _ _ _ _ _ _ _ _ _ _ _ _ _ _ _ _ _ _ _ _ (by omega)
   · kernel_rfl
def cutV (l1 l2:List Bool):AVal:=.agg [z2J l1,z2J l2]
def z69 (t:Tab) (met:List Bool):List Bool:=z3l met 1 (!met.getD 0 false) t.R
def z6i (t:Tab) (met:List Bool):List Bool:=z3l met (1+t.R) (!met.getD 0 false) t.C
theorem zIU {T:TabV} (hT:T.Wf) (hO:T.tab.Ok):∃ (v w:AVal) (H':Heap),runT env 76 [T.v] [] 0=some (.ret v,H')∧handBack H' 0 [] 4 v=some w ∧
    (((∃ f,z12 T.tab.net=.ok f)∧w=.tuple [.agg [.lit true 0 [],.lit true 0 []],.bool false]) ∨ (∃ met,z12 T.tab.net=.cut met∧w=.tuple [cutV (z69 T.tab met) (z6i T.tab met),.bool true])):=by
 obtain ⟨g,nc⟩:=zFY hT hO
 obtain ⟨f',hf,sc⟩:=z9W (gn:=g) (z1i hO) z2T
 have nc:=nc 0 [boxT T,.cells 0 2 false [.agg [.lit true 0 [],.lit true 0 []]]] 2
 have hA:NetAt ([boxT T,.cells 0 2 false [.agg [.lit true 0 [],.lit true 0 []]]]++nofX T 2 g) 4 3 T.tab.R T.tab.C g T.tab.net.n (arcB g T.tab.net z2T):=⟨rfl,rfl,by decide,z0Y _ _ _⟩
 have sc:=sc hA 6
 simp only [nofX,boxT,z0A,netB,arcB,List.cons_append,List.nil_append,Nat.reduceAdd] at sc nc
 cases hs:z12 T.tab.net with
 | ok f=>
   rw [hs] at sc
   simp only [brV] at sc
   have:∃ H',runT env 76 [T.v] [] 0=some (.ret (.tuple [.agg [.lit true 0 [],.lit true 0 []],.bool false]),H'):=by
    rw [run_unfold fn76 rfl]
    simp only [go_sem,simprocAttr,Try.f76,nc,numbered,sc,unwind,modeEx,resultsOf,one]
    exact ⟨_,rfl⟩
   obtain ⟨H',h⟩:=this
   exact ⟨_,_,H',h,rfl,.inl ⟨⟨f,rfl⟩,rfl⟩⟩
 | cut met=>
   have hb:=(z2X (z1i hO)).2
   rw [hs] at hb
   obtain ⟨hml,hov⟩:=hb
   have hNN:T.tab.net.N=1+T.tab.R+T.tab.C:=rfl
   have hR1:=hO.R1
   have hC1:=hO.C1
   have g0:=z0f (l:=met) (i:=0) (by omega)
   rw [hs] at sc
   simp only [brV,z2J] at sc
   obtain ⟨e1,t1,hx1,hp1⟩:=zKT hO g f' (met:=met) (by omega) (!met.getD 0 false) T.tab.R 0 0 _ _ _ _ _ _ _ _ _ _ _ _ _ _ _ _ _ _ _ _ _ _ _ _ _ _ _ _ _ _ _ _ _ _ _ _ _ _ _ _ _ _ _ _ _ _ _ _ _ _ _ _ _ _ _ _ _ _ _ _ (by omega)
   obtain ⟨rfl,g1,jp,rfl⟩:=hp1
   obtain ⟨e2,t2,hx2,hp2⟩:=zKS hO g f' (met:=met) (by omega) (!met.getD 0 false) g1 (z69 T.tab met) T.tab.C 0 0 _ _ _ _ _ _ _ _ _ _ _ _ _ _ _ _ _ _ _ _ _ _ _ _ _ _ _ _ _ _ _ _ _ _ _ _ _ _ _ _ _ _ _ _ _ _ _ _ _ _ _ _ _ _ _ _ _ _ _ _ (by omega)
   obtain ⟨rfl,g2,jq,rfl⟩:=hp2
   have s0:∀ o,z3l met o (!met.getD 0 false) 0=[]:=fun _=>rfl
   have b0:z09 []=[]:=rfl
   have f1:z3l met 1 (!met.getD 0 false) T.tab.R=z69 T.tab met:=rfl
   have f2:z3l met (1+T.tab.R) (!met.getD 0 false) T.tab.C=z6i T.tab met:=rfl
   have n1:z09 (z69 T.tab met) ≠ []:=by
    intro h;have:=congrArg List.length h
    rw [z0F,z69,z1m] at this;exact absurd this (by show T.tab.R ≠ 0;omega)
   have n2:z09 (z6i T.tab met) ≠ []:=by
    intro h;have:=congrArg List.length h
    rw [z0F,z6i,z1m] at this;exact absurd this (by show T.tab.C ≠ 0;omega)
   simp only [go_sem,simprocAttr,Try.f76,s0,b0,f1,z1Z,z1a,gapH,boxT,netB,arcB,z0A,List.length_nil,Int.natCast_zero,Int.ofNat_zero] at hx1
   simp only [go_sem,simprocAttr,Try.f76,s0,b0,f2,z1Z,z1a,gapH,boxT,netB,arcB,z0A,List.length_nil,Int.natCast_zero,Int.ofNat_zero] at hx2
   have:∃ H':Heap,H'[6]?=some (accB 1 g1 (z09 (z69 T.tab met)))∧H'[7]?=some (accB 1 g2 (z09 (z6i T.tab met)))∧runT env 76 [T.v] [] 0=some (.ret (.tuple [.agg [.ref 6 (accG g1 (z09 (z69 T.tab met))) 0 (z69 T.tab met).length false,.ref 7 (accG g2 (z09 (z6i T.tab met))) 0 (z6i T.tab met).length false],.bool true]),H'):=by
    refine ⟨?_,?_,?_,?_⟩
    case refine_4=>
     rw [run_unfold fn76 rfl]
     simp only [go_sem,simprocAttr,Try.f76,nc,numbered,sc,g0,z0E]
     rw [hx1]
     simp only [go_sem,simprocAttr,gapH,boxT,netB,arcB,z0A,b0,z1Z,z1a]
     rw [hx2]
     simp only [go_sem,simprocAttr,gapH,boxT,netB,arcB,z0A,f2,unwind,modeEx,resultsOf,one]
     rfl
    · rfl
    · rfl
   obtain ⟨H',h6,h7,h⟩:=this
   refine ⟨_,_,H',h,?_,.inr ⟨met,rfl,rfl⟩⟩
   have t1:(z09 (z69 T.tab met)).take (z69 T.tab met).length=z09 (z69 T.tab met):=List.take_of_length_le (by rw [z0F];exact Nat.le_refl _)
   have t2:(z09 (z6i T.tab met)).take (z6i T.tab met).length=z09 (z6i T.tab met):=List.take_of_length_le (by rw [z0F];exact Nat.le_refl _)
   have a1:accB 1 g1 (z09 (z69 T.tab met))=.cells g1 1 true (z09 (z69 T.tab met)):=if_neg n1
   have a2:accB 1 g2 (z09 (z6i T.tab met))=.cells g2 1 true (z09 (z6i T.tab met)):=if_neg n2
   have c1:accG g1 (z09 (z69 T.tab met))=g1:=if_neg n1
   have c2:accG g2 (z09 (z6i T.tab met))=g2:=if_neg n2
   rw [a1] at h6
   rw [a2] at h7
   rw [c1,c2]
   simp [handBack,toLit,noRef,AVal.under,mapO,h6,h7,t1,t2,cutV,z2J,z0F]
set_option maxRecDepth 10000
set_option maxHeartbeats 2000000
theorem z1P {a a' b b':Int} (h1:a=a') (h2:b=b'):a+b=a'+b':=by rw [h1,h2]
theorem z8z {t:Tab} {r r' c c':Nat→Bool} (hr:∀ i,i < t.R→r i=r' i) (hc:∀ k,k < t.C→c k=c' k):t.gap r c=t.gap r' c':=by
 have e1:t.asked r c=t.asked r' c':=z1P (z02 fun i hi=>z02 fun k hk=>by rw [hr i hi,hc k hk]) (z02 fun k hk=>by rw [hc k hk])
 have e2:t.comes r c=t.comes r' c':=z1P (z02 fun i hi=>by rw [hr i hi]) (z02 fun i hi=>z02 fun k hk=>by rw [hr i hi,hc k hk])
 have e3:t.given r c=t.given r' c':=z1P (z02 fun i hi=>by rw [hr i hi]) (z02 fun i hi=>z02 fun k hk=>by rw [hr i hi,hc k hk])
 have e4:t.taken r c=t.taken r' c':=z1P (z02 fun i hi=>z02 fun k hk=>by rw [hr i hi,hc k hk]) (z02 fun k hk=>by rw [hc k hk])
 unfold Tab.gap
 rw [e1,e2,e3,e4]
theorem zAm (met:List Bool) (off:Nat) (b:Bool) {n i:Nat} (h:i < n):(z3l met off b n).getD i false=(met.getD (off+i) false == b):=by
 unfold z3l
 rw [List.getD_eq_getElem?_getD,List.getElem?_map,List.getElem?_range h];rfl
theorem zLv {t:Tab} {met:List Bool} (h:0 < t.net.over fun v=>met.getD v false):t.gap (fun i=>(z69 t met).getD i false) (fun k=>(z6i t met).getD k false)=true:=by
 rw [← zIT (S:=fun v=>met.getD v false) h]
 exact z8z (fun i hi=>zAm _ _ _ hi) fun k hk=>zAm _ _ _ hk
def GapAns (t:Tab) (w:AVal):Prop:=(t.ok=false∧w=.tuple [.agg [.lit true 0 [],.lit true 0 []],.bool false,.int .i64 60]) ∨
 (t.Ok∧canB t=true∧w=.tuple [.agg [.lit true 0 [],.lit true 0 []],.bool false,.int .i64 0]) ∨
 (t.Ok∧canB t=false∧∃ l1 l2:List Bool,l1.length=t.R∧l2.length=t.C∧t.gap (fun i=>l1.getD i false) (fun k=>l2.getD k false)=true∧w=.tuple [cutV l1 l2,.bool true,.int .i64 0])
theorem zKQ {T:TabV} (hT:T.Wf) (hO:T.tab.Ok):∃ w,((canB T.tab=true∧w=.tuple [.agg [.lit true 0 [],.lit true 0 []],.bool false]) ∨
    (canB T.tab=false∧∃ l1 l2:List Bool,l1.length=T.tab.R∧l2.length=T.tab.C∧T.tab.gap (fun i=>l1.getD i false) (fun k=>l2.getD k false)=true∧w=.tuple [cutV l1 l2,.bool true]))∧∀ ro H nx,callT env 76 [T.v] ro H nx=some (.ret w,.ups []):=by
 obtain ⟨v,w,H',hr,hb,hw⟩:=zIU hT hO
 rcases hw with ⟨hf,rfl⟩ | ⟨met,hs,rfl⟩
 · exact ⟨_,.inl ⟨z0S.2 ((z4S hO).2 hf),rfl⟩,fun ro H nx=>z0r rfl rfl rfl z0b hr hb rfl ro H nx⟩
 · have hov:=(z2X (z1i hO)).2
   rw [hs] at hov
   exact ⟨_,.inr ⟨z5T.2 ((z4S hO).1 ⟨met,hs⟩),_,_,z1m _ _ _ _,z1m _ _ _ _,zLv hov.2,rfl⟩,fun ro H nx=>z0r rfl rfl rfl z0b hr hb (by
    have:∀ l,noRef (z2J l)=true:=fun l=>by
     have h:∀ l:List Bool,underL 0 (z09 l)=true:=by
      intro l
      induction l with
      | nil=>rfl
      | cons x l ih=>show (AVal.under 0 _ && underL 0 (z09 l))=true;rw [ih];rfl
     simp [noRef,z2J,AVal.under,h]
    simp only [noRef] at this
    simp [noRef,cutV,AVal.under,underL,this]) ro H nx⟩
theorem zMU {T:TabV} (hT:T.Wf):∃ (w:AVal) (H':Heap),runT env 23 [T.v] [] 0=some (.ret w,H')∧GapAns T.tab w:=by
 have hc:=z0w T hT
 cases hok:T.tab.ok with
 | false=>
   have:∃ H',runT env 23 [T.v] [] 0=some (.ret (.tuple [.agg [.lit true 0 [],.lit true 0 []],.bool false,.int .i64 60]),H'):=by
    rw [run_unfold fn23 rfl]
    simp only [go_sem,simprocAttr,Try.f23,hc,z22 hok,unwind,modeEx,resultsOf,one]
    exact ⟨_,rfl⟩
   obtain ⟨H',h⟩:=this
   exact ⟨_,_,h,.inl ⟨hok,rfl⟩⟩
 | true=>
   have hO:=Tab.ok_iff.1 hok
   obtain ⟨w,hw,gc⟩:=zKQ hT hO
   rcases hw with ⟨hcan,rfl⟩ | ⟨hcan,l1,l2,k1,k2,k3,rfl⟩
   · have:∃ H',runT env 23 [T.v] [] 0=some (.ret (.tuple [.agg [.lit true 0 [],.lit true 0 []],.bool false,.int .i64 0]),H'):=by
       rw [run_unfold fn23 rfl]
       simp only [go_sem,simprocAttr,Try.f23,hc,z0O hok,gc,unwind,modeEx,resultsOf,one]
       exact ⟨_,rfl⟩
     obtain ⟨H',h⟩:=this
     exact ⟨_,_,h,.inr (.inl ⟨hO,hcan,rfl⟩)⟩
   · have:∃ H',runT env 23 [T.v] [] 0=some (.ret (.tuple [cutV l1 l2,.bool true,.int .i64 0]),H'):=by
       simp only [cutV,z2J] at gc ⊢
       rw [run_unfold fn23 rfl]
       simp only [go_sem,simprocAttr,Try.f23,hc,z0O hok,gc,unwind,modeEx,resultsOf,one]
       exact ⟨_,rfl⟩
     obtain ⟨H',h⟩:=this
     exact ⟨_,_,h,.inr (.inr ⟨hO,hcan,l1,l2,k1,k2,k3,rfl⟩)⟩
set_option maxRecDepth 10000
set_option maxHeartbeats 2000000
structure CutA where
 c1:Bool
 s1:Nat
 l1:List Bool
 c2:Bool
 s2:Nat
 l2:List Bool
def CutA.v (c:CutA):AVal:=.agg [.lit c.c1 c.s1 (z09 c.l1),.lit c.c2 c.s2 (z09 c.l2)]
structure CutA.Wf (c:CutA):Prop where
 s1:c.l1=[] ∨ c.s1=1
 s2:c.l2=[] ∨ c.s2=1
 b1:c.l1.length < 2 ^ 63
 b2:c.l2.length < 2 ^ 63
@[go_sem] theorem CutA.cells_eq (c:CutA):c.v.cellsOf=[.lit c.c1 c.s1 (z09 c.l1),.lit c.c2 c.s2 (z09 c.l2)]:=rfl
@[go_sem] theorem CutA.tup (c:CutA):c.v.isTuple=false:=rfl
@[go_sem] theorem CutA.under (c:CutA) (m:Nat):c.v.under m=true:=by
 have h:∀ l:List Bool,underL m (z09 l)=true:=by
  intro l
  induction l with
  | nil=>rfl
  | cons x l ih=>show (AVal.under m _ && underL m (z09 l))=true;rw [ih];rfl
 simp [CutA.v,AVal.under,underL,h]
def z0G (x y:Spn):Spn:=⟨x.lo+y.lo,x.hi+y.hi⟩
def z0h (n:Nat) (p:Nat→Bool) (f:Nat→Spn):Spn:=⟨sumN n fun i=>if p i then (f i).lo else 0,sumN n fun i=>if p i then (f i).hi else 0⟩
theorem z5i (n:Nat) (p:Nat→Bool) (f:Nat→Spn):z0h (n+1) p f=if p n then z0G (z0h n p f) (f n) else z0h n p f:=by
 unfold z0h z0G
 simp only [sumN]
 split <;> simp
theorem z20 {n:Nat} {p:Nat→Bool} {f:Nat→Spn} (h:∀ i,i < n→0≤(f i).lo∧(f i).hi≤2 ^ 30∧(f i).lo≤(f i).hi):∀ m,m≤n→0≤(z0h m p f).lo∧(z0h m p f).lo≤m * 2 ^ 30∧0≤(z0h m p f).hi∧(z0h m p f).hi≤m * 2 ^ 30
 | 0,_=>by simp [z0h,sumN]
 | m+1,hm=>by
   have ih:=z20 (p:=p) h m (by omega)
   have h1:=h m (by omega)
   rw [z5i]
   split
   · simp only [z0G];omega
   · omega
set_option maxRecDepth 10000
set_option maxHeartbeats 2000000
theorem z4L (d:Spn) (n:Nat) (p:Nat→Bool) (f:Nat→Spn):z0G d (z0h (n+1) p f)=if p n then z0G (z0G d (z0h n p f)) (f n) else z0G d (z0h n p f):=by
 rw [z5i]
 split
 · simp only [z0G,Int.add_assoc]
 · rfl
set_option maxRecDepth 10000
set_option maxHeartbeats 2000000
set_option maxRecDepth 10000
set_option maxHeartbeats 2000000
@[go_sem] theorem CutA.fold (c:CutA):AVal.agg [.lit c.c1 c.s1 (z09 c.l1),.lit c.c2 c.s2 (z09 c.l2)]=c.v:=rfl
theorem z4j (T:TabV) (c:CutA):underL 0 [T.v,c.v]=true:=by simp only [underL,TabV.under,CutA.under,Bool.and_self]
def cutA (l1 l2:List Bool):CutA:=⟨false,1,l1,false,1,l2⟩
theorem zFA (l1 l2:List Bool):(cutA l1 l2).v=cutV l1 l2:=rfl
theorem GapAns.pure {t:Tab} {w:AVal} (h:GapAns t w):noRef w=true:=by
 rcases h with ⟨_,rfl⟩ | ⟨_,_,rfl⟩ | ⟨_,_,l1,l2,_,_,_,rfl⟩
 · rfl
 · rfl
 · have:=(cutA l1 l2).under 0
   rw [zFA] at this
   simp only [noRef,AVal.under,underL,this,Bool.and_self]
theorem zAu {T:TabV} (hT:T.Wf):∃ w,GapAns T.tab w∧∀ ro H nx,callT env 23 [T.v] ro H nx=some (.ret w,.ups []):=by
 obtain ⟨w,H',hr,hw⟩:=zMU hT
 exact ⟨w,hw,fun ro H nx=>call_pure rfl rfl rfl z0b hr hw.pure ro H nx⟩
set_option maxRecDepth 10000
set_option maxHeartbeats 2000000
def ex6:SlV:=⟨true,2,[⟨0,6⟩,⟨0,6⟩]⟩
def exV:TabV:=⟨⟨true,2,[⟨10,10⟩,⟨5,7⟩]⟩,⟨true,2,[⟨8,9⟩,⟨6,9⟩]⟩,true,1,[ex6,ex6]⟩
def exGV:TabV:=⟨⟨true,2,[⟨13,13⟩,⟨5,7⟩]⟩,⟨true,2,[⟨8,9⟩,⟨6,9⟩]⟩,true,1,[ex6,ex6]⟩
theorem zFH:∀ s ∈ [ex6,ex6],(s.l=[] ∨ s.sz=2)∧s.l.length < 2 ^ 63:=by
 intro s hs
 simp only [List.mem_cons,List.not_mem_nil,or_false,or_self] at hs
 subst hs
 exact ⟨.inr rfl,by decide⟩
theorem zCM:exV.Wf:=⟨.inr rfl,.inr rfl,.inr rfl,fun s hs=>(zFH s hs).1,by decide,by decide,by decide,fun s hs=>(zFH s hs).2⟩
theorem zIF:exGV.Wf:=⟨.inr rfl,.inr rfl,.inr rfl,fun s hs=>(zFH s hs).1,by decide,by decide,by decide,fun s hs=>(zFH s hs).2⟩
theorem zN7:exV.tab=exT:=rfl
theorem zFI:exGV.tab=exG:=rfl
theorem zGO:(runN env 100 74 [] [] 0).map (fun x=>x.1)=some (.ret exV.v):=by kernel_rfl
theorem zN8 (ro:Nat) (H:Heap) (nx:Nat):callT env 74 [] ro H nx=some (.ret exV.v,.ups []):=by
 have h:=zGO
 cases hr:runN env 100 74 [] [] 0 with
 | none=>rw [hr] at h;cases h
 | some x=>
   rw [hr] at h
   obtain ⟨r,H'⟩:=x
   simp only [Option.map_some,Option.some.injEq] at h
   subst h
   exact call_pure rfl rfl rfl rfl (runT_some.2 ⟨100,hr⟩) rfl ro H nx
def okM:Option (CRes × Heap)→Bool
 | some (.ret v,H')=>match handBack H' 0 [] 4 v with
   | some (.tuple [.agg [.lit _ sz [.agg [.int .i64 p,.int .i64 q]],a,b],.int .i64 e])=>decide (sz=2) && decide (p=15) && decide (q=17) && decide (e=0) && noRef a && noRef b && decide (a.cellsOf.length=1) && decide (b.cellsOf.length=1) && !a.isTuple && !b.isTuple
   | _=>false
 | _=>false
theorem z9v:okM (runN env 300 37 [exV.v,.int .i64 0,.int .i64 1] [] 0)=true:=by kernel_rfl
theorem zIq:∃ cl a b,noRef a=true∧noRef b=true∧a.cellsOf.length=1∧b.cellsOf.length=1∧a.isTuple=false∧b.isTuple=false∧∀ ro H nx,callT env 37 [exV.v,.int .i64 0,.int .i64 1] ro H nx=some (.ret (.tuple [.agg [.lit cl 2 [.agg [.int .i64 15,.int .i64 17]],a,b],.int .i64 0]),.ups []):=by
 have h:=z9v
 unfold okM at h
 split at h
 · rename_i v H' hr
   split at h
   · rename_i cl sz p q a b e hb
     simp only [Bool.and_eq_true,decide_eq_true_eq,Bool.not_eq_true'] at h
     obtain ⟨⟨⟨⟨⟨⟨⟨⟨⟨rfl,rfl⟩,rfl⟩,rfl⟩,ha⟩,hb'⟩,la⟩,lb⟩,ta⟩,tb⟩:=h
     refine ⟨cl,a,b,ha,hb',la,lb,ta,tb,fun ro H nx=>z0r rfl rfl rfl rfl (runT_some.2 ⟨300,hr⟩) hb ?_ ro H nx⟩
     simp only [noRef,AVal.under,underL,Bool.true_and,Bool.and_true] at ha hb' ⊢
     rw [ha,hb'];rfl
   · cases h
 · cases h
theorem zBD {t:Tab} {code:Int} {l:List Nat} {v:AVal} {lo hi:Int} (h:EndsAns t code l v) (hc:code=0) (he:IsEnds t.net l lo hi):v=.tuple [.agg [.int .i64 lo,.int .i64 hi],.int .i64 0]:=by
 rcases h with ⟨h1,_⟩ | ⟨_,_,lo',hi',h2,rfl⟩
 · exact absurd hc h1
 · obtain ⟨rfl,rfl⟩:=h2.unique he
   rfl
end Go.Proofs.Ytgfejpngfikjiaa.Tidy
