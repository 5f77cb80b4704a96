/-
 What the functions that the statements of this seat share compute.
-/
import Derived.Test.YtgfejpngfikjiaaCd
import Derived.Test.YtgfejpngfikjiaaCb
import Derived.KernelRfl
set_option linter.all false
namespace Go.Proofs.Ytgfejpngfikjiaa.Tidy
open Go Go.IntWalk
set_option maxRecDepth 10000
set_option linter.unusedSimpArgs false
set_option maxHeartbeats 4000000
theorem z5a {G:Net} {R C:Nat} (h:NetOk G R C) {f g:Nat→Int} (hf:G.In f) (hg:∀ j,j < G.n→-1≤g j∧g j≤1):NetS G f g where
 n:=h.n
 f:=fun j hj=>by have:=hf j hj;have:=h.l j hj;omega
 lo:=fun j hj=>by have:=h.l j hj;omega
 hi:=fun j hj=>by have:=h.l j hj;omega
 g:=hg
def zUX (G:Net) (g f':Nat→Int):Prop:=G.In f'∧G.Circ f'∧cycleS (G.ways f' g G.n) G.N=[]
theorem zHz {R C gn:Nat} {G:Net} (h:NetOk G R C) (hn:0 < G.n) {gf:Nat→Int} (hg:∀ j,j < G.n→-1≤gf j∧gf j≤1) {cl:Bool}:∀ (m:Nat) (f:Nat→Int) (j2 j3 j4 j5 j6 j7 j8 j9 j10 j11 j12 j13 j14 j15 j16 j17 j18 j19 j20 j21 j22 j23 j24 j25 j26 j27 j28 j29 j30 j31 j32 j33 j34 j35 j36 j37 j38 j39:AVal),(G.n * 2 ^ 30 - brings G gf f).toNat < m→G.In f→G.Circ f →
    Goes (execT env (Try.f126.at [1,0,0]) ⟨[.ptr 0 0 0 0,.lit cl 1 (intsV G.n gf),j2,j3,j4,j5,j6,j7,j8,j9,j10,j11,j12,j13,j14,j15,j16,j17,j18,j19,j20,j21,j22,j23,j24,j25,j26,j27,j28,j29,j30,j31,j32,j33,j34,j35,j36,j37,j38,j39],netH R C gn G f,[],0,[]⟩) fun e s=>
     e=.exit 0∧∃ (f':Nat→Int),zUX G gf f'∧FrP 40 [(0,.ptr 0 0 0 0),(1,.lit cl 1 (intsV G.n gf))] (netH R C gn G f') [] 0 [] s:=by
 intro m
 induction m with
 | zero=>intro f _ hm;omega
 | succ m ih=>
   intro f;intros;rename_i hm hf hc
   have hs:=z5a h hf hg
   have hgv:=GainV.lit (cl:=cl) hn gf
   have hA:NetAt (netH R C gn G f) 0 1 R C gn G.n (arcB gn G f):=⟨rfl,rfl,by decide,z0c _ _ _⟩
   have cc:=zHh hs h.ok h.N h.R h.C hgv hA 0 2
   simp only [netH,netB,arcB] at cc
   have hb:=zN4 (g:=gf) h.ok hf hc
   have hbd:=z4R (G:=G) (g:=gf) hs.f hg G.n (Nat.le_refl _)
   cases hcy:cycleS (G.ways f gf G.n) G.N with
   | nil=>
     rw [hcy] at cc
     simp only [cycV,if_true] at cc
     simp only [go_sem,simprocAttr,Try.f126,netH,netB,arcB]
     rw [exec_loop]
     simp only [go_sem,simprocAttr,cc,zJm]
     exact ⟨f,⟨hf,hc,hcy⟩,frP (by kernel_rfl)⟩
   | cons w l=>
     have hne:cycleS (G.ways f gf G.n) G.N ≠ []:=by rw [hcy];exact List.cons_ne_nil _ _
     obtain ⟨b1,b2,b3,b4⟩:=hb hne
     have hcs:=z9b (z6L h.ok f gf).1 hne
     have hN:=h.N
     have hR:=h.R
     have hC:=h.C
     rw [hcy] at cc b1 b2 b3 b4 hcs
     have ll:=(z3o (w :: l) (2 ^ 40)).1
     have hlen:=hcs.2.2.2.2
     have lc:=zBa (l:=w :: l) (cl:=true) (sz:=6) (.inr rfl) (by omega) 0 [netB R C 1 gn G.n,arcB gn G f] 2
     have pc:=zE2 hA (l:=w :: l) (cl:=true) (sz:=6) (.inr rfl) (d:=z26 (w :: l)) (by omega) ll (fun x hx=>(zAk (hcs.2.2.1 x hx)).1) (by omega) hs.f 2
     have hs':=z5a h b2 hg
     have hbd':=z4R (G:=G) (g:=gf) hs'.f hg G.n (Nat.le_refl _)
     have ih':=ih (push f (z26 (w :: l)) (w :: l))
     generalize push f (z26 (w :: l)) (w :: l)=f1 at pc b2 b3 b4 hbd' ih'
     have hv:z0P (w :: l)=resV w :: z0P l:=rfl
     simp only [cycV,List.cons_ne_nil,if_false,reduceCtorEq] at cc
     simp only [netH,netB,arcB,hv] at cc pc lc
     unfold brings at hm b4 ih'
     simp only [go_sem,simprocAttr,Try.f126,netH,netB,arcB] at ih' ⊢
     rw [exec_loop]
     simp only [go_sem,simprocAttr,cc,zSH,lc,pc]
     exact ih' _ _ _ _ _ _ _ _ _ _ _ _ _ _ _ _ _ _ _ _ _ _ _ _ _ _ _ _ _ _ _ _ _ _ _ _ _ _ (by omega) b2 b3
theorem zK5 {R C gn:Nat} {G:Net} {f gf:Nat→Int} (hs:NetS G f gf) {cl:Bool}:∀ (n i:Nat) (j0 j2 j3 j4 j5 j7 j8 j9 j10 j11 j12 j13 j14 j15 j16 j17 j18 j19 j20 j21 j25 j26 j27 j28 j29 j30 j31 j32 j33 j34 j35 j36 j37 j38 j39:AVal),i+n=G.n →
    Goes (execT env (Try.f126.at [1,1,1,0,1,0]) ⟨[j0,.lit cl 1 (intsV G.n gf),j2,j3,j4,j5,.int .i64 (sumN i fun j=>gf j * f j),j7,j8,j9,j10,j11,j12,j13,j14,j15,j16,j17,j18,j19,j20,j21,.ref 1 gn 0 G.n false,.int .i64 G.n,.int .i64 i,j25,j26,j27,j28,j29,j30,j31,j32,j33,j34,j35,j36,j37,j38,j39],netH R C gn G f,[],0,[]⟩) fun e s=>
     e=.exit 2∧FrP 40 [(6,.int .i64 (brings G gf f))] (netH R C gn G f) [] 0 [] s:=by
 have hn8:=hs.n
 intro n
 induction n with
 | zero=>
   intro i;intros;rename_i hi
   have hd:decide ((i:Int) < (G.n:Int))=false:=by simp;omega
   have:i=G.n:=by omega
   subst this
   simp only [go_sem,simprocAttr,Try.f126]
   rw [exec_loop]
   simp only [go_sem,simprocAttr,hd]
   exact frP (by kernel_rfl)
 | succ n ih=>
   intro i;intros;rename_i hi
   have hin:i < G.n:=by omega
   have hd:decide ((i:Int) < (G.n:Int))=true:=by simp;omega
   have h0:(0:Int)≤(i:Int):=by omega
   have ha:=z4O (f:=f) hin
   have hgi:=z0b (f:=gf) hin
   have hb:=z4R hs.f hs.g i (by omega)
   have h1:=hs.f i hin
   have h2:=hs.g i hin
   have h3:-(2 ^ 30)≤gf i * f i∧gf i * f i≤2 ^ 30:=by
    have:gf i=-1 ∨ gf i=0 ∨ gf i=1:=by omega
    rcases this with e | e | e <;> rw [e] <;> omega
   have w1:IntKind.i64.wrap (gf i * f i)=gf i * f i:=i64_in _ (by omega)
   have w2:IntKind.i64.wrap (sumN i (fun j=>gf j * f j)+gf i * f i)=sumN (i+1) fun j=>gf j * f j:=by rw [i64_in _ (by omega)];rfl
   have ih':=ih (i+1)
   simp only [go_sem,simprocAttr,Try.f126,netH,netB,arcB] at ih' ⊢
   rw [exec_loop]
   simp only [go_sem,simprocAttr,hd,h0,hin,decide_true,Int.toNat_natCast,ha,hgi,w1,w2,trunc,List.map_cons,List.map_nil,z00 (show i < 2 ^ 63 - 1 by omega)]
   exact ih' _ _ _ _ _ _ _ _ _ _ _ _ _ _ _ _ _ _ _ _ _ _ _ _ _ _ _ _ _ _ _ _ _ _ _ (by omega)
def Most (G:Net) (g f:Nat→Int):Prop:=G.In f∧G.Circ f∧∀ f',G.In f'→G.Circ f'→brings G g f'≤brings G g f
theorem zK4 {R C gn:Nat} {G:Net} (h:NetOk G R C) (hn:0 < G.n) {gf:Nat→Int} (hg:∀ j,j < G.n→-1≤gf j∧gf j≤1) {cl:Bool} {f:Nat→Int} (hf:G.In f) (hc:G.Circ f):
    ∃ f',Most G gf f'∧runT env 126 [.ptr 0 0 0 0,.lit cl 1 (intsV G.n gf)] [netB R C 1 gn G.n,arcB gn G f] 0=some (.ret (.int .i64 (brings G gf f')),[netB R C 1 gn G.n,arcB gn G f']):=by
 obtain ⟨e1,t1,hx1,hp1⟩:=zHz (gn:=gn) h hn hg (cl:=cl) _ f _ _ _ _ _ _ _ _ _ _ _ _ _ _ _ _ _ _ _ _ _ _ _ _ _ _ _ _ _ _ _ _ _ _ _ _ _ _ (Nat.lt_succ_self _) hf hc
 obtain ⟨rfl,f',⟨g1,g2,g3⟩,jp,rfl⟩:=hp1
 obtain ⟨e2,t2,hx2,hp2⟩:=zK5 (R:=R) (C:=C) (gn:=gn) (z5a h g1 hg) (cl:=cl) G.n 0 _ _ _ _ _ _ _ _ _ _ _ _ _ _ _ _ _ _ _ _ _ _ _ _ _ _ _ _ _ _ _ _ _ _ _ (by omega)
 obtain ⟨rfl,jq,rfl⟩:=hp2
 refine ⟨f',⟨g1,g2,fun f'' k1 k2=>zKr h.ok g2 g3 k1 k2⟩,?_⟩
 simp only [go_sem,simprocAttr,Try.f126,netH,netB,arcB] at hx1
 simp only [go_sem,simprocAttr,Try.f126,netH,netB,arcB,sumN,Int.natCast_zero,Int.ofNat_zero] at hx2
 rw [run_unfold fn126 rfl]
 simp only [go_sem,simprocAttr,Try.f126,netB,arcB]
 rw [hx1]
 simp only [go_sem,simprocAttr,netH,netB,arcB,z1V]
 rw [hx2]
 simp only [go_sem,simprocAttr,netH,netB,arcB,unwind,modeEx,resultsOf,one]
theorem z5W (g:Nat) (G:Net) (f:Nat→Int):litFree (arcB g G f)=true:=by
 have:∀ l:List Nat,z2S (l.map (z6W G f))=true:=by
  intro l
  induction l with
  | nil=>rfl
  | cons x l ih=>simp only [List.map_cons,z2S,ih,Bool.and_true];rfl
 exact this _
theorem z60 {R C gn:Nat} {G:Net} (h:NetOk G R C) (hn:0 < G.n) {gf:Nat→Int} (hg:∀ j,j < G.n→-1≤gf j∧gf j≤1) {f:Nat→Int} (hf:G.In f) (hc:G.Circ f):
    ∃ f',Most G gf f'∧∀ {H:Heap} {p a q gq:Nat},NetAt H p a R C gn G.n (arcB gn G f)→H[q]?=some (.cells gq 1 true (intsV G.n gf))→q ≠ p→q ≠ a→∀ nx,
     callT env 126 [.ptr p 0 0 0,.ref q gq 0 G.n false] 0 H nx=some (.ret (.int .i64 (brings G gf f')),.ups [(p,netB R C a gn G.n),(a,arcB gn G f')]):=by
 obtain ⟨f',hm,hr⟩:=zK4 (gn:=gn) (cl:=false) h hn hg hf hc
 refine ⟨f',hm,fun {H p a q gq} hA hq hqp hqa nx=>?_⟩
 have hl:lend H (env.hint 126).lits [.ptr p 0 0 0,.ref q gq 0 G.n false] 0=some ([.ptr p 0 0 0,.lit false 1 (intsV G.n gf)],[q]):=by
  have hlen:(intsV G.n gf).length=G.n:=z0F _ _
  have ht:(intsV G.n gf).take G.n=intsV G.n gf:=List.take_of_length_le (by omega)
  have hre:reach H fuel0 [q] []=some [q]:=z6C [q] [] 64 (fun id hid=>by simp at hid;subst hid;exact ⟨_,_,_,hq⟩) (by simp) (by simp) (by simp)
  simp [lend,hint126,noRef,AVal.under,toLit,hq,hlen,ht,AVal.refs,hre]
 exact z5J (X:=[]) (v:=.int .i64 (brings G gf f')) (lent:=[q]) rfl rfl rfl rfl hA hl rfl (by simp [Ne.symm hqp,Ne.symm hqa]) hr (fun _=>rfl) rfl rfl (.inr ⟨rfl,z5W _ _ _⟩)
set_option maxRecDepth 10000
set_option maxHeartbeats 2000000
def natsV (l:List Nat):List AVal:=l.map fun (j:Nat)=>.int .i64 (j:Int)
theorem zDw {l:List Nat} {i j:Nat} (h:l[i]?=some j):(natsV l)[i]?=some (.int .i64 j):=by simp [natsV,h]
@[go_sem] theorem z5Z (l:List Nat):(natsV l).length=l.length:=by simp [natsV]
def z0U (l:List Nat) (j:Nat):Int:=if j ∈ l then 1 else 0
def z9y (l:List Nat) (i j:Nat):Int:=if j ∈ l.take i then -1 else z0U l j
theorem zKe {l:List Nat} {i j:Nat} (h:l[i]?=some j) (k:Nat):z0U (l.take (i+1)) k=if k=j then 1 else z0U (l.take i) k:=by
 unfold z0U
 rw [List.take_add_one,h]
 by_cases e:k=j
 · simp [e]
 · simp [e]
theorem zKL {l:List Nat} {i j:Nat} (h:l[i]?=some j) (k:Nat):z9y l (i+1) k=if k=j then -1 else z9y l i k:=by
 unfold z9y
 rw [List.take_add_one,h]
 by_cases e:k=j
 · simp [e]
 · simp [e]
theorem zMe (l:List Nat):z9y l l.length=fun j=>-(z0U l j):=by
 funext j
 unfold z9y z0U
 rw [List.take_length]
 split <;> rfl
def z4W (R C gn:Nat) (G:Net) (f g:Nat→Int):Heap:=[netB R C 1 gn G.n,arcB gn G f,.cells 0 2 true [.agg [.int .i64 0,.int .i64 0]],.cells 0 1 true (intsV G.n g)]
theorem zBQ {R C gn:Nat} {G:Net} {f:Nat→Int} {cl:Bool} {sz:Nat} {l:List Nat} (hsz:l=[] ∨ sz=1) (hl:∀ j ∈ l,j < G.n) (hlen:l.length < 2 ^ 30):∀ (n i:Nat) (j2 j3 j6 j7 j8 j9 j10 j11 j12 j13 j14 j15 j16 j20 j21 j22 j23 j24 j25 j26 j27 j28 j29 j30 j31 j32 j33 j34 j35 j36 j37 j38 j39 j40 j41 j42 j43 j44 j45:AVal),i+n=l.length →
    Goes (execT env (Try.f82.at [1,1,0,1,0]) ⟨[.ptr 0 0 0 0,.lit cl sz (natsV l),j2,j3,.ptr 2 0 0 0,.ref 3 0 0 G.n false,j6,j7,j8,j9,j10,j11,j12,j13,j14,j15,j16,.lit cl sz (natsV l),.int .i64 l.length,.int .i64 i,j20,j21,j22,j23,j24,j25,j26,j27,j28,j29,j30,j31,j32,j33,j34,j35,j36,j37,j38,j39,j40,j41,j42,j43,j44,j45],z4W R C gn G f (z0U (l.take i)),[],0,[]⟩) fun e s=>
     e=.exit 0∧FrP 46 [(0,.ptr 0 0 0 0),(1,.lit cl sz (natsV l)),(4,.ptr 2 0 0 0),(5,.ref 3 0 0 G.n false)] (z4W R C gn G f (z0U l)) [] 0 [] s:=by
 intro n
 induction n with
 | zero=>
   intro i;intros;rename_i hi
   have hd:decide ((i:Int) < (l.length:Int))=false:=by simp;omega
   have ht:l.take i=l:=List.take_of_length_le (by omega)
   simp only [go_sem,simprocAttr,Try.f82]
   rw [exec_loop]
   simp only [go_sem,simprocAttr,hd,ht]
   exact frP (by kernel_rfl)
 | succ n ih=>
   intro i;intros;rename_i hi
   have hd:decide ((i:Int) < (l.length:Int))=true:=by simp;omega
   have h0:(0:Int)≤(i:Int):=by omega
   obtain ⟨j,hj,_⟩:=z0T (show i < l.length by omega)
   have hz:=z1b hsz hj
   have hj':=zDw hj
   have hjn:=hl j (List.mem_of_getElem? hj)
   have hjd:decide ((j:Int) < (G.n:Int))=true:=by simp;omega
   have j0:(0:Int)≤(j:Int):=by omega
   have gj:=z0b (f:=z0U (l.take i)) hjn
   have sj:=z2D (n:=G.n) (v:=1) fun k _=>zKe hj k
   have ih':=ih (i+1)
   simp only [go_sem,simprocAttr,Try.f82,hz,z4W,netB,arcB] at ih' ⊢
   rw [exec_loop]
   simp only [go_sem,simprocAttr,hd,h0,Int.toNat_natCast,hj',hjd,j0,gj,sj,z00 (show i < 2 ^ 63 - 1 by omega)]
   exact ih' _ _ _ _ _ _ _ _ _ _ _ _ _ _ _ _ _ _ _ _ _ _ _ _ _ _ _ _ _ _ _ _ _ _ _ _ _ _ _ (by omega)
theorem z9d {R C gn:Nat} {G:Net} {f:Nat→Int} {cl:Bool} {sz:Nat} {l:List Nat} (hsz:l=[] ∨ sz=1) (hl:∀ j ∈ l,j < G.n) (hlen:l.length < 2 ^ 30) (x:Int):∀ (n i:Nat) (j1 j2 j3 j6 j7 j9 j10 j11 j12 j13 j14 j15 j16 j17 j18 j19 j20 j21 j22 j23 j24 j25 j26 j27 j28 j29 j33 j34 j35 j36 j37 j38 j39 j40 j41 j42 j43 j44 j45:AVal),i+n=l.length →
    Goes (execT env (Try.f82.at [1,1,1,1,0,1,0]) ⟨[.ptr 0 0 0 0,j1,j2,j3,.ptr 2 0 0 0,.ref 3 0 0 G.n false,j6,j7,.int .i64 x,j9,j10,j11,j12,j13,j14,j15,j16,j17,j18,j19,j20,j21,j22,j23,j24,j25,j26,j27,j28,j29,.lit cl sz (natsV l),.int .i64 l.length,.int .i64 i,j33,j34,j35,j36,j37,j38,j39,j40,j41,j42,j43,j44,j45],z4W R C gn G f (z9y l i),[],0,[]⟩) fun e s=>
     e=.exit 2∧FrP 46 [(0,.ptr 0 0 0 0),(4,.ptr 2 0 0 0),(5,.ref 3 0 0 G.n false),(8,.int .i64 x)] (z4W R C gn G f fun j=>-(z0U l j)) [] 0 [] s:=by
 intro n
 induction n with
 | zero=>
   intro i;intros;rename_i hi
   have hd:decide ((i:Int) < (l.length:Int))=false:=by simp;omega
   have:i=l.length:=by omega
   subst this
   have ht:=zMe l
   simp only [go_sem,simprocAttr,Try.f82]
   rw [exec_loop]
   simp only [go_sem,simprocAttr,hd,ht]
   exact frP (by kernel_rfl)
 | succ n ih=>
   intro i;intros;rename_i hi
   have hd:decide ((i:Int) < (l.length:Int))=true:=by simp;omega
   have h0:(0:Int)≤(i:Int):=by omega
   obtain ⟨j,hj,_⟩:=z0T (show i < l.length by omega)
   have hz:=z1b hsz hj
   have hj':=zDw hj
   have hjn:=hl j (List.mem_of_getElem? hj)
   have hjd:decide ((j:Int) < (G.n:Int))=true:=by simp;omega
   have j0:(0:Int)≤(j:Int):=by omega
   have gj:=z0b (f:=z9y l i) hjn
   have sj:=z2D (n:=G.n) (v:=-1) fun k _=>zKL hj k
   have ih':=ih (i+1)
   simp only [go_sem,simprocAttr,Try.f82,hz,z4W,netB,arcB] at ih' ⊢
   rw [exec_loop]
   simp only [go_sem,simprocAttr,hd,h0,Int.toNat_natCast,hj',hjd,j0,gj,sj,z00 (show i < 2 ^ 63 - 1 by omega)]
   exact ih' _ _ _ _ _ _ _ _ _ _ _ _ _ _ _ _ _ _ _ _ _ _ _ _ _ _ _ _ _ _ _ _ _ _ _ _ _ _ _ (by omega)
def EndsOf (G:Net) (l:List Nat) (lo hi:Int):Prop:=(∃ f1,Most G (z0U l) f1∧hi=brings G (z0U l) f1)∧∃ f2,Most G (fun j=>-(z0U l j)) f2∧lo=-(brings G (fun j=>-(z0U l j)) f2)
theorem zMF {R C gn:Nat} {G:Net} (h:NetOk G R C) (hn:0 < G.n) {f:Nat→Int} (hf:G.In f) (hc:G.Circ f) {cl:Bool} {sz:Nat} {l:List Nat} (hsz:l=[] ∨ sz=1) (hl:∀ j ∈ l,j < G.n) (hlen:l.length < 2 ^ 30):
    ∃ lo hi,EndsOf G l lo hi∧∃ (f':Nat→Int) (X:Heap),runT env 82 [.ptr 0 0 0 0,.lit cl sz (natsV l)] [netB R C 1 gn G.n,arcB gn G f] 0=some (.ret (.agg [.int .i64 lo,.int .i64 hi]),netB R C 1 gn G.n :: arcB gn G f' :: X):=by
 have hn8:=h.n
 have N0:(0:Int)≤(G.n:Int):=by omega
 have m1:G.n * 9≤z04:=by unfold z04;omega
 have r1:List.replicate G.n (AVal.int .i64 0)=intsV G.n (z0U []):=by
  rw [z24]
  exact z1D fun i _=>by unfold z0U;simp
 have p1:∀ j,j < G.n→-1≤z0U l j∧z0U l j≤1:=fun j _=>by unfold z0U;split <;> omega
 have p2:∀ j,j < G.n→-1≤-(z0U l j)∧-(z0U l j)≤1:=fun j hj=>by have:=p1 j hj;omega
 obtain ⟨f1,hm1,gc1⟩:=z60 (gn:=gn) h hn p1 hf hc
 obtain ⟨f2,hm2,gc2⟩:=z60 (gn:=gn) h hn p2 hm1.1 hm1.2.1
 have g1:=gc1 (H:=z4W R C gn G f (z0U l)) (p:=0) (a:=1) (q:=3) (gq:=0) ⟨rfl,rfl,by decide,z0c _ _ _⟩ rfl (by decide) (by decide) 4
 have g2:=gc2 (H:=z4W R C gn G f1 fun j=>-(z0U l j)) (p:=0) (a:=1) (q:=3) (gq:=0) ⟨rfl,rfl,by decide,z0c _ _ _⟩ rfl (by decide) (by decide) 4
 have bd:-(G.n * 2 ^ 30:Int)≤brings G (fun j=>-(z0U l j)) f2∧brings G (fun j=>-(z0U l j)) f2≤G.n * 2 ^ 30:=z4R (g:=fun j=>-(z0U l j)) (z5a h hm2.1 p2).f p2 G.n (Nat.le_refl _)
 have w1:IntKind.i64.wrap (0 - brings G (fun j=>-(z0U l j)) f2)=-(brings G (fun j=>-(z0U l j)) f2):=by
  rw [i64_in _ (by omega)];omega
 refine ⟨-(brings G (fun j=>-(z0U l j)) f2),brings G (z0U l) f1,⟨⟨f1,hm1,rfl⟩,f2,hm2,rfl⟩,f2,?_⟩
 obtain ⟨e1,t1,hx1,hp1⟩:=zBQ (R:=R) (C:=C) (gn:=gn) (G:=G) (f:=f) (cl:=cl) hsz hl hlen l.length 0 _ _ _ _ _ _ _ _ _ _ _ _ _ _ _ _ _ _ _ _ _ _ _ _ _ _ _ _ _ _ _ _ _ _ _ _ _ _ _ (by omega)
 obtain ⟨rfl,jp,rfl⟩:=hp1
 obtain ⟨e2,t2,hx2,hp2⟩:=z9d (R:=R) (C:=C) (gn:=gn) (G:=G) (f:=f1) (cl:=cl) hsz hl hlen (brings G (z0U l) f1) l.length 0 _ _ _ _ _ _ _ _ _ _ _ _ _ _ _ _ _ _ _ _ _ _ _ _ _ _ _ _ _ _ _ _ _ _ _ _ _ _ _ (by omega)
 obtain ⟨rfl,jq,rfl⟩:=hp2
 have m0:z9y l 0=z0U l:=by funext j;unfold z9y;simp
 simp only [z4W,netB,arcB] at g1 g2
 simp only [go_sem,simprocAttr,Try.f82,z4W,netB,arcB,List.take_zero,Int.natCast_zero,Int.ofNat_zero] at hx1
 simp only [go_sem,simprocAttr,Try.f82,z4W,netB,arcB,m0,Int.natCast_zero,Int.ofNat_zero] at hx2
 rw [run_unfold fn82 rfl]
 simp only [go_sem,simprocAttr,Try.f82,netB,arcB,N0,m1,z1V,Int.toNat_natCast,r1]
 rw [hx1]
 simp only [go_sem,simprocAttr,z4W,netB,arcB,g1]
 rw [hx2]
 simp only [go_sem,simprocAttr,z4W,netB,arcB,g2,w1,unwind,modeEx,resultsOf,one]
 exact ⟨_,rfl⟩
theorem zBK (G:Net) (g f:Nat→Int):brings G (fun j=>-(g j)) f=-(brings G g f):=by
 unfold brings
 rw [← z7s]
 exact z02 fun j _=>by rw [Int.neg_mul]
structure IsEnds (G:Net) (l:List Nat) (lo hi:Int):Prop where
 at_lo:∃ f,G.In f∧G.Circ f∧brings G (z0U l) f=lo
 at_hi:∃ f,G.In f∧G.Circ f∧brings G (z0U l) f=hi
 all:∀ f,G.In f→G.Circ f→lo≤brings G (z0U l) f∧brings G (z0U l) f≤hi
theorem EndsOf.is {G:Net} {l:List Nat} {lo hi:Int} (h:EndsOf G l lo hi):IsEnds G l lo hi:=by
 obtain ⟨⟨f1,h1,rfl⟩,f2,h2,rfl⟩:=h
 refine ⟨⟨f2,h2.1,h2.2.1,by rw [zBK];omega⟩,⟨f1,h1.1,h1.2.1,rfl⟩,fun f k1 k2=>⟨?_,h1.2.2 f k1 k2⟩⟩
 have:=h2.2.2 f k1 k2
 rw [zBK] at this
 omega
theorem IsEnds.unique {G:Net} {l:List Nat} {lo hi lo' hi':Int} (h:IsEnds G l lo hi) (h':IsEnds G l lo' hi'):lo=lo'∧hi=hi':=by
 obtain ⟨f1,a1,b1,c1⟩:=h.at_lo
 obtain ⟨f2,a2,b2,c2⟩:=h.at_hi
 obtain ⟨f3,a3,b3,c3⟩:=h'.at_lo
 obtain ⟨f4,a4,b4,c4⟩:=h'.at_hi
 have e1:=h'.all f1 a1 b1
 have e2:=h'.all f2 a2 b2
 have e3:=h.all f3 a3 b3
 have e4:=h.all f4 a4 b4
 omega
theorem z5O {R C gn:Nat} {G:Net} (h:NetOk G R C) (hn:0 < G.n) {f:Nat→Int} (hf:G.In f) (hc:G.Circ f) {cl:Bool} {sz:Nat} {l:List Nat} (hsz:l=[] ∨ sz=1) (hl:∀ j ∈ l,j < G.n) (hlen:l.length < 2 ^ 30):
    ∃ lo hi,IsEnds G l lo hi∧∃ (f':Nat→Int),∀ {H:Heap} {p a:Nat} {v:AVal} {lent:List Nat},NetAt H p a R C gn G.n (arcB gn G f)→lend H [1] [.ptr p 0 0 0,v] 0=some ([.ptr p 0 0 0,.lit cl sz (natsV l)],lent)→p ∉ lent∧a ∉ lent→∀ nx,
     callT env 82 [.ptr p 0 0 0,v] 0 H nx=some (.ret (.agg [.int .i64 lo,.int .i64 hi]),.ups [(p,netB R C a gn G.n),(a,arcB gn G f')]):=by
 obtain ⟨lo,hi,he,f',X,hr⟩:=zMF (gn:=gn) (cl:=cl) h hn hf hc hsz hl hlen
 refine ⟨lo,hi,he.is,f',fun {H p a v lent} hA hle hne nx=>?_⟩
 have hu:underL 0 [AVal.lit cl sz (natsV l)]=true:=by
  have:∀ l:List Nat,underL 0 (natsV l)=true:=by
   intro l
   induction l with
   | nil=>rfl
   | cons x l ih=>show (AVal.under 0 _ && underL 0 (natsV l))=true;rw [ih];rfl
  simp [underL,AVal.under,this]
 exact z5J (X:=X) (v:=.agg [.int .i64 lo,.int .i64 hi]) (lent:=lent) rfl rfl rfl rfl hA hle hu hne hr (fun _=>rfl) rfl rfl (.inr ⟨rfl,z5W _ _ _⟩)
theorem z46 {H:Heap} {p a R C g n:Nat} {A:Blk} (h:NetAt H p a R C g n A) {i k:Nat} (hi:i < 8) (hC:C≤8) (hk:k < 8) (ro nx:Nat):callT env 83 [.ptr p 0 0 0,.int .i64 i,.int .i64 k] ro H nx=some (.ret (.int .i64 (i * C+k:Nat)),.ups []):=by
 have hm:i * C≤8 * 8:=Nat.mul_le_mul (by omega) hC
 have w1:IntKind.i64.wrap ((i:Int) * (C:Int))=((i * C:Nat):Int):=by rw [← Int.natCast_mul,i64_in _ (by omega)]
 have w2:IntKind.i64.wrap (((i * C:Nat):Int)+k)=((i * C+k:Nat):Int):=by rw [i64_in _ (by omega)];omega
 have:∃ H',runT env 83 [.ptr 0 0 0 0,.int .i64 i,.int .i64 k] [netB R C 1 g n,A] 2=some (.ret (.int .i64 (i * C+k:Nat)),H'):=by
  rw [run_unfold fn83 rfl]
  simp only [go_sem,simprocAttr,Try.f83,netB,w1,w2,unwind,modeEx,resultsOf,one]
  exact ⟨_,rfl⟩
 obtain ⟨H',hr⟩:=this
 exact z1g rfl rfl rfl rfl h (z1P rfl rfl) rfl hr rfl rfl
theorem z6s {H:Heap} {p a R C g n:Nat} {A:Blk} (h:NetAt H p a R C g n A) {i:Nat} (hi:i≤8) (hR:R≤8) (hC:C≤8) (ro nx:Nat):callT env 88 [.ptr p 0 0 0,.int .i64 i] ro H nx=some (.ret (.int .i64 (R * C+i:Nat)),.ups []):=by
 have hm:R * C≤8 * 8:=Nat.mul_le_mul hR hC
 have w1:IntKind.i64.wrap ((R:Int) * (C:Int))=((R * C:Nat):Int):=by rw [← Int.natCast_mul,i64_in _ (by omega)]
 have w2:IntKind.i64.wrap (((R * C:Nat):Int)+i)=((R * C+i:Nat):Int):=by rw [i64_in _ (by omega)];omega
 have:∃ H',runT env 88 [.ptr 0 0 0 0,.int .i64 i] [netB R C 1 g n,A] 2=some (.ret (.int .i64 (R * C+i:Nat)),H'):=by
  rw [run_unfold fn88 rfl]
  simp only [go_sem,simprocAttr,Try.f88,netB,w1,w2,unwind,modeEx,resultsOf,one]
  exact ⟨_,rfl⟩
 obtain ⟨H',hr⟩:=this
 exact z1g rfl rfl rfl rfl h (z1P rfl rfl) rfl hr rfl rfl
end Go.Proofs.Ytgfejpngfikjiaa.Tidy
namespace Go.Proofs.Ytgfejpngfikjiaa.Tidy
open Go
theorem zEw {G:Net} (f:Nat→Int):brings G (z0U []) f=0:=z0q fun j _=>by simp [z0U]
theorem z3l {G:Net} (f:Nat→Int):∀ {l:List Nat},l.Nodup→(∀ j ∈ l,j < G.n)→brings G (z0U l) f=(l.map f).sum
 | [],_,_=>zEw f
 | a :: l,hn,hl=>by
   have ih:=z3l (G:=G) f (List.nodup_cons.1 hn).2 fun j hj=>hl j (by simp [hj])
   have ha:a ∉ l:=(List.nodup_cons.1 hn).1
   have h1:brings G (z0U (a :: l)) f=sumN G.n (fun j=>(if j=a then f a else 0)+z0U l j * f j):=z02 fun j _=>by
    unfold z0U
    by_cases h:j=a
    · subst h;simp [ha]
    · simp [h]
   rw [h1,z4D,z31 (hl a (by simp)),List.map_cons,List.sum_cons,← ih]
   rfl
def Tab.brings (t:Tab) (l:List Nat) (x:Nat→Nat→Int):Int:=Tidy.brings t.net (z0U l) (t.flow x)
theorem zGh {t:Tab} {f:Nat→Int} (h:t.net.Circ f) {j:Nat} (hj:j < t.net.n):t.flow (t.mat f) j=f j:=by
 obtain ⟨h1,h2⟩:=zDU h
 have hj':j < t.R * t.C+t.R+t.C:=hj
 unfold Tab.flow
 by_cases a:j < t.R * t.C
 · rw [if_pos a]
   unfold Tab.mat
   rw [Nat.mul_comm,Nat.div_add_mod]
 · rw [if_neg a]
   by_cases b:j < t.R * t.C+t.R
   · rw [if_pos b,← h1 (j - t.R * t.C) (by omega)]
     congr 1;omega
   · rw [if_neg b,← h2 (j - t.R * t.C - t.R) (by omega)]
     congr 1;omega
theorem z5r {t:Tab} {l:List Nat} {f:Nat→Int} (h:t.net.Circ f):t.brings l (t.mat f)=Tidy.brings t.net (z0U l) f:=
 z02 fun j hj=>by rw [zGh h hj]
theorem z13 {t:Tab} {l:List Nat} {lo hi:Int}:IsEnds t.net l lo hi ↔ (∃ x,Fits t x∧t.brings l x=lo)∧(∃ x,Fits t x∧t.brings l x=hi)∧∀ x,Fits t x→lo≤t.brings l x∧t.brings l x≤hi:=by
 constructor
 · intro h
   obtain ⟨f1,a1,b1,c1⟩:=h.at_lo
   obtain ⟨f2,a2,b2,c2⟩:=h.at_hi
   refine ⟨⟨_,z1q a1 b1,by rw [z5r b1,c1]⟩,⟨_,z1q a2 b2,by rw [z5r b2,c2]⟩,fun x hx=>?_⟩
   obtain ⟨a,b⟩:=z2C hx
   exact h.all _ a b
 · rintro ⟨⟨x1,h1,e1⟩,⟨x2,h2,e2⟩,h⟩
   obtain ⟨a1,b1⟩:=z2C h1
   obtain ⟨a2,b2⟩:=z2C h2
   refine ⟨⟨_,a1,b1,e1⟩,⟨_,a2,b2,e2⟩,fun f a b=>?_⟩
   have:=h _ (z1q a b)
   rwa [z5r b] at this
theorem z0l (t:Tab) (x:Nat→Nat→Int) {i k:Nat} (hi:i < t.R) (hk:k < t.C):t.brings [i * t.C+k] x=x i k:=by
 have h1:=z3P hi hk
 unfold Tab.brings
 rw [z3l _ (by simp) (fun j hj=>by simp at hj;subst hj;show _ < t.R * t.C+t.R+t.C;omega)]
 simp [t.flow_cell x hi hk]
def exT:Tab:=⟨[⟨10,10⟩,⟨5,7⟩],[⟨8,9⟩,⟨6,9⟩],[[⟨0,6⟩,⟨0,6⟩],[⟨0,6⟩,⟨0,6⟩]]⟩
theorem zCQ {x:Nat→Nat→Int} (h:Fits exT x):(0≤x 0 0∧x 0 0≤6∧0≤x 0 1∧x 0 1≤6∧0≤x 1 0∧x 1 0≤6∧0≤x 1 1∧x 1 1≤6) ∧
    10≤x 0 0+x 0 1∧x 0 0+x 0 1≤10∧5≤x 1 0+x 1 1∧x 1 0+x 1 1≤7∧8≤x 0 0+x 1 0∧x 0 0+x 1 0≤9∧6≤x 0 1+x 1 1∧x 0 1+x 1 1≤9:=by
 have a1:0≤x 0 0∧x 0 0≤6:=h.cell 0 0 (by decide) (by decide)
 have a2:0≤x 0 1∧x 0 1≤6:=h.cell 0 1 (by decide) (by decide)
 have a3:0≤x 1 0∧x 1 0≤6:=h.cell 1 0 (by decide) (by decide)
 have a4:0≤x 1 1∧x 1 1≤6:=h.cell 1 1 (by decide) (by decide)
 have b1:10≤0+x 0 0+x 0 1∧0+x 0 0+x 0 1≤10:=h.row 0 (by decide)
 have b2:5≤0+x 1 0+x 1 1∧0+x 1 0+x 1 1≤7:=h.row 1 (by decide)
 have c1:8≤0+x 0 0+x 1 0∧0+x 0 0+x 1 0≤9:=h.col 0 (by decide)
 have c2:6≤0+x 0 1+x 1 1∧0+x 0 1+x 1 1≤9:=h.col 1 (by decide)
 omega
theorem zCR (m:List (List Int)) (h:z7F exT (z03 m)=true):Fits exT (z03 m):=z1W.1 h
theorem zJp:IsEnds exT.net [0] 4 6:=z13.2 ⟨⟨_,zCR [[4,6],[5,0]] (by decide),by decide⟩,⟨_,zCR [[6,4],[3,2]] (by decide),by decide⟩,fun x hx=>by
 have:=zCQ hx
 rw [show exT.brings [0] x=x 0 0 from z0l exT x (i:=0) (k:=0) (by decide) (by decide)];omega⟩
theorem zJq:IsEnds exT.net [2] 2 5:=z13.2 ⟨⟨_,zCR [[6,4],[2,3]] (by decide),by decide⟩,⟨_,zCR [[4,6],[5,0]] (by decide),by decide⟩,fun x hx=>by
 have:=zCQ hx
 rw [show exT.brings [2] x=x 1 0 from z0l exT x (i:=1) (k:=0) (by decide) (by decide)];omega⟩
theorem zJr:IsEnds exT.net [3] 0 5:=z13.2 ⟨⟨_,zCR [[4,6],[5,0]] (by decide),by decide⟩,⟨_,zCR [[6,4],[2,5]] (by decide),by decide⟩,fun x hx=>by
 have:=zCQ hx
 rw [show exT.brings [3] x=x 1 1 from z0l exT x (i:=1) (k:=1) (by decide) (by decide)];omega⟩
theorem zMG:IsEnds exT.net [4,5] 15 17:=z13.2 ⟨⟨_,zCR [[4,6],[5,0]] (by decide),by decide⟩,⟨_,zCR [[6,4],[2,5]] (by decide),by decide⟩,fun x hx=>by
 have:=zCQ hx
 have e:exT.brings [4,5] x=x 0 0+x 0 1+(x 1 0+x 1 1):=by
  unfold Tab.brings
  rw [z3l _ (by simp) (fun j hj=>by simp at hj;rcases hj with rfl | rfl <;> decide)]
  have e1:=exT.flow_row x (i:=0) (by decide)
  have e2:=exT.flow_row x (i:=1) (by decide)
  have e1:exT.flow x 4=0+x 0 0+x 0 1:=e1
  have e2:exT.flow x 5=0+x 1 0+x 1 1:=e2
  simp [e1,e2]
 rw [e];omega⟩
theorem zPT:exT.ok=true:=by decide
theorem zNz:exT.Can:=⟨_,zCR [[5,5],[4,2]] (by decide)⟩
def exG:Tab:=⟨[⟨13,13⟩,⟨5,7⟩],[⟨8,9⟩,⟨6,9⟩],[[⟨0,6⟩,⟨0,6⟩],[⟨0,6⟩,⟨0,6⟩]]⟩
theorem zJv:exG.ok=true:=by decide
theorem zPU:exG.gap (fun i=>[true,false].getD i false) (fun k=>[false,false].getD k false)=true:=by decide
theorem zGd:¬ exG.Can:=fun h=>by have:=z3C h (fun i=>[true,false].getD i false) (fun k=>[false,false].getD k false);rw [zPU] at this;cases this
end Go.Proofs.Ytgfejpngfikjiaa.Tidy
namespace Go.Proofs.Ytgfejpngfikjiaa.Tidy
open Go Go.IntWalk
set_option maxRecDepth 10000
set_option linter.unusedSimpArgs false
set_option maxHeartbeats 2000000
def outB (t:Tab) (i k:Int):Bool:=decide (i < 0) || (decide ((t.R:Int)≤i) || (decide (k < 0) || decide ((t.C:Int)≤k)))
noncomputable def askS (t:Tab) (i k:Int):Int:=if t.ok then (if canB t then (if outB t i k then 1 else 0) else 31) else 60
def askX (T:TabV) (nx g:Nat) (f:Nat→Int):Heap:=boxT T :: setX T (nx+1) g f
theorem zJ2 {T:TabV} (hT:T.Wf) (i k:Int):∃ (v:AVal) (H':Heap),runT env 81 [T.v,.int .i64 i,.int .i64 k] [] 0=some (.ret v,H') ∧
    ((askS T.tab i k ≠ 0∧v=.tuple [.nilptr,.int .i64 (askS T.tab i k)]) ∨
     (askS T.tab i k=0∧T.tab.Ok∧canB T.tab=true∧outB T.tab i k=false∧∃ f g,T.tab.net.In f∧T.tab.net.Circ f∧v=.tuple [.ptr 4 0 0 0,.int .i64 0]∧H'=askX T 0 g f)):=by
 rcases z2I hT 0 [boxT T] 1 with ⟨hok,us,hc,_⟩ | ⟨hO,hcan,us,hc,_⟩ | ⟨hO,hcan,f,g,_,hin,hci,hc⟩
 · have ha:askS T.tab i k=60:=by unfold askS;rw [hok];rfl
   rw [ha]
   have:∃ H',runT env 81 [T.v,.int .i64 i,.int .i64 k] [] 0=some (.ret (.tuple [.nilptr,.int .i64 60]),H'):=by
    simp only [boxT] at hc
    rw [run_unfold fn81 rfl]
    simp only [go_sem,simprocAttr,Try.f81,hc,unwind,modeEx,resultsOf,one]
    exact ⟨_,rfl⟩
   obtain ⟨H',h⟩:=this
   exact ⟨_,_,h,.inl ⟨by decide,rfl⟩⟩
 · have hok:=Tab.ok_iff.2 hO
   have ha:askS T.tab i k=31:=by unfold askS;rw [hok,hcan];rfl
   rw [ha]
   have:∃ H',runT env 81 [T.v,.int .i64 i,.int .i64 k] [] 0=some (.ret (.tuple [.nilptr,.int .i64 31]),H'):=by
    simp only [boxT] at hc
    rw [run_unfold fn81 rfl]
    simp only [go_sem,simprocAttr,Try.f81,hc,unwind,modeEx,resultsOf,one]
    exact ⟨_,rfl⟩
   obtain ⟨H',h⟩:=this
   exact ⟨_,_,h,.inl ⟨by decide,rfl⟩⟩
 · have hok:=Tab.ok_iff.2 hO
   have hrun:runT env 81 [T.v,.int .i64 i,.int .i64 k] [] 0=some (.ret (if outB T.tab i k then .tuple [.nilptr,.int .i64 1] else .tuple [.ptr 4 0 0 0,.int .i64 0]),askX T 0 g f):=by
    simp only [setX,boxT,netB,arcB,z0B] at hc
    rw [run_unfold fn81 rfl]
    simp only [go_sem,simprocAttr,Try.f81,hc,numbered,netB]
    unfold outB
    cases d1:decide (i < 0) <;> cases d2:decide ((T.tab.R:Int)≤i) <;> cases d3:decide (k < 0) <;> cases d4:decide ((T.tab.C:Int)≤k) <;>
     simp only [go_sem,simprocAttr,d1,d2,d3,d4,unwind,modeEx,resultsOf,one,askX,setX,boxT,netB,arcB,z0B,Bool.or_true,Bool.true_or,Bool.or_false,Bool.false_or,if_true,if_false,Bool.false_eq_true]
   cases ho:outB T.tab i k with
   | true=>
     rw [ho] at hrun
     have ha:askS T.tab i k=1:=by unfold askS;rw [hok,hcan,ho];rfl
     exact ⟨_,_,hrun,.inl ⟨by rw [ha];decide,by rw [ha];rfl⟩⟩
   | false=>
     rw [ho] at hrun
     have ha:askS T.tab i k=0:=by unfold askS;rw [hok,hcan,ho];rfl
     exact ⟨_,_,hrun,.inr ⟨ha,hO,hcan,rfl,f,g,hin,hci,rfl,rfl⟩⟩
theorem z5p {T:TabV} (hT:T.Wf) (i k:Int) (ro:Nat) (H:Heap) (nx:Nat):
    (askS T.tab i k ≠ 0∧∃ us,callT env 81 [T.v,.int .i64 i,.int .i64 k] ro H nx=some (.ret (.tuple [.nilptr,.int .i64 (askS T.tab i k)]),.ups us)∧∃ X,us=numbered nx X) ∨
    (askS T.tab i k=0∧T.tab.Ok∧canB T.tab=true∧outB T.tab i k=false∧∃ f g,T.tab.net.In f∧T.tab.net.Circ f∧callT env 81 [T.v,.int .i64 i,.int .i64 k] ro H nx=some (.ret (.tuple [.ptr (nx+4) 0 0 0,.int .i64 0]),.ups (numbered nx (askX T nx g f)))):=by
 obtain ⟨v,H',hr,hv⟩:=zJ2 hT i k
 rcases hv with ⟨hz,rfl⟩ | ⟨hz,hO,hcan,ho,f,g,hin,hci,rfl,rfl⟩
 · exact .inl ⟨hz,_,z1K rfl rfl rfl rfl hr (w:=.tuple [.nilptr,.int .i64 (askS T.tab i k)]) rfl ro H nx,_,rfl⟩
 · refine .inr ⟨hz,hO,hcan,ho,f,g,hin,hci,?_⟩
   rw [z1K rfl rfl rfl rfl hr (w:=.tuple [.ptr 4 0 0 0,.int .i64 0]) rfl ro H nx]
   have n3:nxF nx 6 3=some (nx+3):=rfl
   have n4:nxF nx 6 4=some (nx+4):=rfl
   have hcell:∀ (f:Nat→Option Nat) (a b:Nat),f a=some b→renB f (z0B a)=z0B b:=fun f a b h=>by simp [renB,z0B,renL,AVal.ren,h]
   have hA:∀ h:Nat→Option Nat,renB h (arcB g T.tab.net f)=arcB g T.tab.net f:=fun _=>rfl
   simp only [askX,setX,List.length_cons,List.length_nil,List.map_cons,List.map_nil,z3X,hA,Nat.zero_add,Nat.reduceAdd,z4z n3,hcell _ _ _ n4,AVal.ren,renL,n4,Nat.add_assoc]
theorem z0e:∀ (X H:Heap),putU H (numbered H.length X)=H++X
 | [],H=>by simp [numbered,putU]
 | x :: X,H=>by
   have:=z0e X (H++[x])
   rw [List.length_append,List.length_singleton] at this
   simp only [numbered,putU,Nat.lt_irrefl,if_false,this,List.append_assoc,List.singleton_append]
theorem z1v {t:Tab} {i k:Int} (h:outB t i k=false):∃ a b:Nat,i=a∧k=b∧a < t.R∧b < t.C:=by
 unfold outB at h
 simp only [Bool.or_eq_false_iff,decide_eq_false_iff_not] at h
 exact ⟨i.toNat,k.toNat,by omega,by omega,by omega,by omega⟩
def EndsAns (t:Tab) (code:Int) (l:List Nat) (v:AVal):Prop:=(code ≠ 0∧v=.tuple [.agg [.int .i64 0,.int .i64 0],.int .i64 code]) ∨ (code=0∧t.Ok∧∃ lo hi,IsEnds t.net l lo hi∧v=.tuple [.agg [.int .i64 lo,.int .i64 hi],.int .i64 0])
theorem EndsAns.pure {t:Tab} {code:Int} {l:List Nat} {v:AVal} (h:EndsAns t code l v):noRef v=true∧v.under 0=true:=by
 rcases h with ⟨_,rfl⟩ | ⟨_,_,lo,hi,_,rfl⟩ <;> exact ⟨rfl,rfl⟩
theorem zGN {T:TabV} (hT:T.Wf) (i k:Int):∃ (v:AVal) (H':Heap),runT env 26 [T.v,.int .i64 i,.int .i64 k] [] 0=some (.ret v,H')∧EndsAns T.tab (askS T.tab i k) [i.toNat * T.tab.C+k.toNat] v:=by
 rcases z5p hT i k 0 [boxT T,.cells 0 2 true [.agg [.int .i64 0,.int .i64 0]]] 2 with ⟨hz,us,hc,X,rfl⟩ | ⟨hz,hO,hcan,ho,f,g,hin,hci,hc⟩
 · have hz':decide (askS T.tab i k=0)=false:=decide_eq_false hz
   have:∃ H',runT env 26 [T.v,.int .i64 i,.int .i64 k] [] 0=some (.ret (.tuple [.agg [.int .i64 0,.int .i64 0],.int .i64 (askS T.tab i k)]),H'):=by
    have hp:=z0e X [boxT T,.cells 0 2 true [.agg [.int .i64 0,.int .i64 0]]]
    simp only [boxT,List.length_cons,List.length_nil,Nat.zero_add,Nat.reduceAdd,List.cons_append,List.nil_append] at hc hp
    rw [run_unfold fn26 rfl]
    simp only [go_sem,simprocAttr,Try.f26,hc,hz',hp,unwind,modeEx,resultsOf,one]
    exact ⟨_,rfl⟩
   obtain ⟨H',h⟩:=this
   exact ⟨_,_,h,.inl ⟨hz,rfl⟩⟩
 · obtain ⟨a,b,rfl,rfl,ha,hb⟩:=z1v ho
   have hN:=z1n hO
   have hR8:=hO.R8
   have hC8:=hO.C8
   have hlt:a * T.tab.C+b < T.tab.net.n:=by
    have:=z3P ha hb
    show _ < T.tab.R * T.tab.C+T.tab.R+T.tab.C
    omega
   obtain ⟨lo,hi,he,f',ec⟩:=z5O (gn:=g) (cl:=true) (sz:=1) (l:=[a * T.tab.C+b]) hN (z6o hO) hin hci (.inr rfl) (fun j hj=>by simp at hj;omega) (by simp)
   have hA:NetAt ([boxT T,.cells 0 2 true [.agg [.int .i64 0,.int .i64 0]]]++askX T 2 g f) 6 5 T.tab.R T.tab.C g T.tab.net.n (arcB g T.tab.net f):=⟨rfl,rfl,by decide,z0c _ _ _⟩
   have cc:=z46 hA (i:=a) (k:=b) (by omega) hC8 (by omega) 0 8
   have ec:=ec hA (v:=.lit true 1 [.int .i64 (a * T.tab.C+b:Nat)]) (lent:=[]) (z1P rfl rfl) (by simp) 8
   rw [hz]
   have:∃ H',runT env 26 [T.v,.int .i64 a,.int .i64 b] [] 0=some (.ret (.tuple [.agg [.int .i64 lo,.int .i64 hi],.int .i64 0]),H'):=by
    simp only [askX,setX,boxT,netB,arcB,z0B,List.cons_append,List.nil_append,Nat.reduceAdd] at hc cc ec
    rw [run_unfold fn26 rfl]
    simp only [go_sem,simprocAttr,Try.f26,hc,numbered,cc,ec,unwind,modeEx,resultsOf,one]
    exact ⟨_,rfl⟩
   obtain ⟨H',h⟩:=this
   exact ⟨_,_,h,.inr ⟨rfl,hO,lo,hi,by simpa using he,rfl⟩⟩
set_option maxRecDepth 10000
set_option maxHeartbeats 2000000
theorem z1h {T:TabV} (hT:T.Wf) (i k:Int):∃ v,EndsAns T.tab (askS T.tab i k) [i.toNat * T.tab.C+k.toNat] v∧∀ ro H nx,callT env 26 [T.v,.int .i64 i,.int .i64 k] ro H nx=some (.ret v,.ups []):=by
 obtain ⟨v,H',hr,hv⟩:=zGN hT i k
 exact ⟨v,hv,fun ro H nx=>call_pure rfl rfl rfl rfl hr hv.pure.2 ro H nx⟩
set_option maxRecDepth 10000
set_option maxHeartbeats 2000000
theorem zBC {H:Heap} {id g:Nat} {l:List Nat} {j:Nat} {cl:Bool} (hH:H[id]?=some (accB 1 g (natsV l))) (hb:l.length < 2 ^ 30) (nx:Nat) {ro:Nat} (hro:ro≤id):
    ∃ g',z0H env ro nx 51 (.ref id (accG g (natsV l)) 0 l.length false) (.lit cl 1 [.int .i64 j]) H=some (.ref id (accG g' (natsV (l++[j]))) 0 (l++[j]).length false,[(id,accB 1 g' (natsV (l++[j])))]):=by
 obtain ⟨g',h⟩:=z4M (v:=.int .i64 j) (cl:=cl) ti51 ti3 rfl ⟨by decide,rfl,rfl⟩ rfl hH rfl (by rw [z5Z];show (l.length+1) * 9≤2 ^ 45;omega) nx hro
 rw [z5Z] at h
 exact ⟨g',by rw [h];simp [natsV]⟩
theorem zGn {H:Heap} {p q g:Nat} {l:List Nat} (hq:H[q]?=some (accB 1 g (natsV l))):∃ sz,(l=[] ∨ sz=1)∧lend H [1] [.ptr p 0 0 0,.ref q (accG g (natsV l)) 0 l.length false] 0=some ([.ptr p 0 0 0,.lit false sz (natsV l)],[q]):=by
 have hlen:=z5Z l
 have ht:(natsV l).take l.length=natsV l:=List.take_of_length_le (by omega)
 by_cases h:l=[]
 · subst h
   have hq':H[q]?=some (.cells 0 0 false []):=hq
   have hre:reach H fuel0 [q] []=some [q]:=by unfold fuel0;simp [reach,hq',refsL]
   refine ⟨0,.inl rfl,?_⟩
   simp [lend,noRef,AVal.under,toLit,hq',AVal.refs,hre,natsV,accG,mapO]
 · have hne:natsV l ≠ []:=fun e=>h (by have:=congrArg List.length e;rw [hlen] at this;exact List.length_eq_zero_iff.1 this)
   have ea:accB 1 g (natsV l)=.cells g 1 true (natsV l):=if_neg hne
   have eg:accG g (natsV l)=g:=if_neg hne
   rw [ea] at hq
   have hre:reach H fuel0 [q] []=some [q]:=z6C [q] [] 64 (fun id hid=>by simp at hid;subst hid;exact ⟨_,_,_,hq⟩) (by simp) (by simp) (by simp)
   refine ⟨1,.inr rfl,?_⟩
   simp [lend,noRef,AVal.under,toLit,hq,hlen,ht,AVal.refs,hre,eg]
def z2N (t:Tab) (n:Nat):List Nat:=(List.range n).map (t.R * t.C+·)
theorem zIM (t:Tab) (n:Nat):z2N t (n+1)=z2N t n++[t.R * t.C+n]:=by simp [z2N,List.range_succ]
theorem z8p (t:Tab) (n:Nat):(z2N t n).length=n:=by simp [z2N]
def totH (T:TabV) (g:Nat) (f:Nat→Int) (gt:Nat) (l:List Nat):Heap:=[boxT T,.cells 0 2 true [.agg [.int .i64 0,.int .i64 0]],boxT T,boxT T,arcB g T.tab.net f,netB T.tab.R T.tab.C 4 g T.tab.net.n,z0B 5,accB 1 gt (natsV l)]
theorem zIb {T:TabV} (hO:T.tab.Ok) (g:Nat) (f:Nat→Int):∀ (n i gt:Nat) (j0 j1 j3 j5 j7 j8 j9 j10 j11 j12 j13 j14 j15 j16 j17 j18 j19 j22 j23 j24 j25 j26 j27 j28 j29 j30 j31 j32 j33:AVal),i+n=T.tab.R →
    Goes (execT env (Try.f34.at [1,1,1,1,0,1,0]) ⟨[j0,j1,.ptr 1 0 0 0,j3,.ptr 5 0 0 0,j5,.ref 7 (accG gt (natsV (z2N T.tab i))) 0 (z2N T.tab i).length false,j7,j8,j9,j10,j11,j12,j13,j14,j15,j16,j17,j18,j19,.int .i64 T.tab.R,.int .i64 i,j22,j23,j24,j25,j26,j27,j28,j29,j30,j31,j32,j33],totH T g f gt (z2N T.tab i),[],0,[6]⟩) fun e s=>
     e=.exit 0∧∃ (gt:Nat),FrP 34 [(2,.ptr 1 0 0 0),(4,.ptr 5 0 0 0),(6,.ref 7 (accG gt (natsV (z2N T.tab T.tab.R))) 0 (z2N T.tab T.tab.R).length false)] (totH T g f gt (z2N T.tab T.tab.R)) [] 0 [6] s:=by
 have hR8:=hO.R8
 have hC8:=hO.C8
 intro n
 induction n with
 | zero=>
   intro i gt;intros;rename_i hi
   have hd:decide ((i:Int) < (T.tab.R:Int))=false:=by simp;omega
   have:i=T.tab.R:=by omega
   subst this
   simp only [go_sem,simprocAttr,Try.f34]
   rw [exec_loop]
   simp only [go_sem,simprocAttr,hd]
   exact ⟨gt,frP (by kernel_rfl)⟩
 | succ n ih=>
   intro i gt;intros;rename_i hi
   have hd:decide ((i:Int) < (T.tab.R:Int))=true:=by simp;omega
   have hA:NetAt (totH T g f gt (z2N T.tab i)) 5 4 T.tab.R T.tab.C g T.tab.net.n (arcB g T.tab.net f):=⟨rfl,rfl,by decide,z0c _ _ _⟩
   have cc:=z6s hA (i:=i) (by omega) hR8 hC8 0 8
   obtain ⟨gt',ap⟩:=zBC (H:=totH T g f gt (z2N T.tab i)) (id:=7) (l:=z2N T.tab i) (j:=T.tab.R * T.tab.C+i) (cl:=true) rfl (by rw [z8p];omega) 8 (ro:=0) (Nat.zero_le _)
   rw [← zIM] at ap
   have ih':=ih (i+1) gt'
   simp only [totH,boxT,netB,arcB,z0B] at cc ap
   simp only [go_sem,simprocAttr,Try.f34,totH,boxT,netB,arcB,z0B] at ih' ⊢
   rw [exec_loop]
   simp only [go_sem,simprocAttr,hd,cc,ap,z00 (show i < 2 ^ 63 - 1 by omega)]
   exact ih' _ _ _ _ _ _ _ _ _ _ _ _ _ _ _ _ _ _ _ _ _ _ _ _ _ _ _ _ _ (by omega)
theorem zLH {T:TabV} (hT:T.Wf):∃ (v:AVal) (H':Heap),runT env 34 [T.v] [] 0=some (.ret v,H')∧EndsAns T.tab (askS T.tab 0 0) (z2N T.tab T.tab.R) v:=by
 rcases z2I hT 0 [boxT T,.cells 0 2 true [.agg [.int .i64 0,.int .i64 0]]] 2 with ⟨hok,us,hc,X,rfl⟩ | ⟨hO,hcan,us,hc,X,rfl⟩ | ⟨hO,hcan,f,g,_,hin,hci,hc⟩
 · have ha:askS T.tab 0 0=60:=by unfold askS;rw [hok];rfl
   rw [ha]
   have:∃ H',runT env 34 [T.v] [] 0=some (.ret (.tuple [.agg [.int .i64 0,.int .i64 0],.int .i64 60]),H'):=by
    have hp:=z0e X [boxT T,.cells 0 2 true [.agg [.int .i64 0,.int .i64 0]]]
    simp only [boxT,List.length_cons,List.length_nil,Nat.zero_add,Nat.reduceAdd,List.cons_append,List.nil_append] at hc hp
    rw [run_unfold fn34 rfl]
    simp only [go_sem,simprocAttr,Try.f34,hc,hp,unwind,modeEx,resultsOf,one]
    exact ⟨_,rfl⟩
   obtain ⟨H',h⟩:=this
   exact ⟨_,_,h,.inl ⟨by decide,rfl⟩⟩
 · have hok:=Tab.ok_iff.2 hO
   have ha:askS T.tab 0 0=31:=by unfold askS;rw [hok,hcan];rfl
   rw [ha]
   have:∃ H',runT env 34 [T.v] [] 0=some (.ret (.tuple [.agg [.int .i64 0,.int .i64 0],.int .i64 31]),H'):=by
    have hp:=z0e X [boxT T,.cells 0 2 true [.agg [.int .i64 0,.int .i64 0]]]
    simp only [boxT,List.length_cons,List.length_nil,Nat.zero_add,Nat.reduceAdd,List.cons_append,List.nil_append] at hc hp
    rw [run_unfold fn34 rfl]
    simp only [go_sem,simprocAttr,Try.f34,hc,hp,unwind,modeEx,resultsOf,one]
    exact ⟨_,rfl⟩
   obtain ⟨H',h⟩:=this
   exact ⟨_,_,h,.inl ⟨by decide,rfl⟩⟩
 · have hok:=Tab.ok_iff.2 hO
   have hR1:=hO.R1
   have hC1:=hO.C1
   have ho:outB T.tab 0 0=false:=by
    unfold outB
    rw [show decide ((0:Int) < 0)=false from rfl,decide_eq_false (p:=(T.tab.R:Int)≤0) (by omega),decide_eq_false (p:=(T.tab.C:Int)≤0) (by omega)]
    rfl
   have ha:askS T.tab 0 0=0:=by unfold askS;rw [hok,hcan,ho];rfl
   rw [ha]
   obtain ⟨e1,t1,hx1,hp1⟩:=zIb hO g f T.tab.R 0 0 _ _ _ _ _ _ _ _ _ _ _ _ _ _ _ _ _ _ _ _ _ _ _ _ _ _ _ _ _ (by omega)
   obtain ⟨rfl,gt,jp,rfl⟩:=hp1
   obtain ⟨sz,hsz,hle⟩:=zGn (H:=totH T g f gt (z2N T.tab T.tab.R)) (p:=5) (q:=7) (g:=gt) (l:=z2N T.tab T.tab.R) rfl
   obtain ⟨lo,hi,he,f',ec⟩:=z5O (gn:=g) (cl:=false) (sz:=sz) (l:=z2N T.tab T.tab.R) (z1n hO) (z6o hO) hin hci hsz (fun j hj=>by
    simp only [z2N,List.mem_map,List.mem_range] at hj
    obtain ⟨a,ha,rfl⟩:=hj
    show _ < T.tab.R * T.tab.C+T.tab.R+T.tab.C
    omega) (by rw [z8p];have:=hO.R8;omega)
   have hA:NetAt (totH T g f gt (z2N T.tab T.tab.R)) 5 4 T.tab.R T.tab.C g T.tab.net.n (arcB g T.tab.net f):=⟨rfl,rfl,by decide,z0c _ _ _⟩
   have ec:=ec hA hle (by simp) 8
   have e0:z2N T.tab 0=[]:=rfl
   have en:natsV []=[]:=rfl
   simp only [setX,totH,boxT,netB,arcB,z0B] at hc ec
   simp only [go_sem,simprocAttr,Try.f34,totH,boxT,netB,arcB,z0B,e0,en,z1c,z1d,List.length_nil,Int.natCast_zero,Int.ofNat_zero] at hx1
   have:∃ H',runT env 34 [T.v] [] 0=some (.ret (.tuple [.agg [.int .i64 lo,.int .i64 hi],.int .i64 0]),H'):=by
    rw [run_unfold fn34 rfl]
    simp only [go_sem,simprocAttr,Try.f34,hc,numbered]
    rw [hx1]
    simp only [go_sem,simprocAttr,totH,boxT,netB,arcB,z0B,ec,unwind,modeEx,resultsOf,one]
    exact ⟨_,rfl⟩
   obtain ⟨H',h⟩:=this
   exact ⟨_,_,h,.inr ⟨rfl,hO,lo,hi,he,rfl⟩⟩
theorem z4j {T:TabV} (hT:T.Wf):∃ v,EndsAns T.tab (askS T.tab 0 0) (z2N T.tab T.tab.R) v∧∀ ro H nx,callT env 34 [T.v] ro H nx=some (.ret v,.ups []):=by
 obtain ⟨v,H',hr,hv⟩:=zLH hT
 exact ⟨v,hv,fun ro H nx=>call_pure rfl rfl rfl rfl hr hv.pure.2 ro H nx⟩
set_option maxRecDepth 10000
set_option maxHeartbeats 2000000
theorem z32 {H:Heap} {id g:Nat} {l:List Bool} {b:Bool} {cl:Bool} (hH:H[id]?=some (accB 1 g (z0A l))) (hb:l.length < 2 ^ 30) (nx:Nat) {ro:Nat} (hro:ro≤id):
    ∃ g',z0H env ro nx 26 (.ref id (accG g (z0A l)) 0 l.length false) (.lit cl 1 [.bool b]) H=some (.ref id (accG g' (z0A (l++[b]))) 0 (l++[b]).length false,[(id,accB 1 g' (z0A (l++[b])))]):=by
 obtain ⟨g',h⟩:=z4M (v:=.bool b) (cl:=cl) ti26 ti4 rfl ⟨by decide,rfl,rfl⟩ rfl hH rfl (by rw [z0K];show (l.length+1) * 2≤2 ^ 45;omega) nx hro
 rw [z0K] at h
 exact ⟨g',by rw [h];simp [z0A]⟩
def z43 (met:List Bool) (off:Nat) (b:Bool) (n:Nat):List Bool:=(List.range n).map fun i=>met.getD (off+i) false == b
theorem zBx (met:List Bool) (off:Nat) (b:Bool) (n:Nat):z43 met off b (n+1)=z43 met off b n++[met.getD (off+n) false == b]:=by simp [z43,List.range_succ]
theorem z1r (met:List Bool) (off:Nat) (b:Bool) (n:Nat):(z43 met off b n).length=n:=by simp [z43]
def gapH (T:TabV) (g:Nat) (f:Nat→Int) (g1 g2:Nat) (l1 l2:List Bool):Heap:=[boxT T,.cells 0 2 false [.agg [.lit true 0 [],.lit true 0 []]],boxT T,arcB g T.tab.net f,netB T.tab.R T.tab.C 3 g T.tab.net.n,z0B 4,accB 1 g1 (z0A l1),accB 1 g2 (z0A l2),.cells 0 2 false [.agg [.ref 6 (accG g1 (z0A l1)) 0 l1.length false,.ref 7 (accG g2 (z0A l2)) 0 l2.length false]]]
theorem zMP {T:TabV} (hO:T.tab.Ok) (g:Nat) (f:Nat→Int) {met:List Bool} (hm:met.length=1+T.tab.R+T.tab.C) (b:Bool):∀ (n i g1:Nat) (j0 j1 j3 j6 j9 j10 j11 j12 j13 j14 j15 j16 j17 j18 j19 j20 j21 j22 j23 j24 j25 j26 j29 j30 j31 j32 j33 j34 j35 j36 j37 j38 j39 j40 j41 j42 j43 j44 j45 j46 j47 j48 j49 j50 j51 j52 j53 j54 j55 j56 j57 j58 j59 j60 j61 j62 j63 j64 j65 j66:AVal),i+n=T.tab.R →
    Goes (execT env (Try.f76.at [1,1,1,1,1,1,0,1,0]) ⟨[j0,j1,.ptr 1 0 0 0,j3,.ptr 4 0 0 0,.lit false 1 (z0A met),j6,.bool b,.ptr 8 0 0 0,j9,j10,j11,j12,j13,j14,j15,j16,j17,j18,j19,j20,j21,j22,j23,j24,j25,j26,.int .i64 T.tab.R,.int .i64 i,j29,j30,j31,j32,j33,j34,j35,j36,j37,j38,j39,j40,j41,j42,j43,j44,j45,j46,j47,j48,j49,j50,j51,j52,j53,j54,j55,j56,j57,j58,j59,j60,j61,j62,j63,j64,j65,j66],gapH T g f g1 0 (z43 met 1 b i) [],[],0,[8]⟩) fun e s=>
     e=.exit 0∧∃ (g1:Nat),FrP 67 [(2,.ptr 1 0 0 0),(4,.ptr 4 0 0 0),(5,.lit false 1 (z0A met)),(7,.bool b),(8,.ptr 8 0 0 0)] (gapH T g f g1 0 (z43 met 1 b T.tab.R) []) [] 0 [8] s:=by
 have hR8:=hO.R8
 have hC8:=hO.C8
 intro n
 induction n with
 | zero=>
   intro i g1;intros;rename_i hi
   have hd:decide ((i:Int) < (T.tab.R:Int))=false:=by simp;omega
   have:i=T.tab.R:=by omega
   subst this
   simp only [go_sem,simprocAttr,Try.f76]
   rw [exec_loop]
   simp only [go_sem,simprocAttr,hd]
   exact ⟨g1,frP (by kernel_rfl)⟩
 | succ n ih=>
   intro i g1;intros;rename_i hi
   have hd:decide ((i:Int) < (T.tab.R:Int))=true:=by simp;omega
   have hA:NetAt (gapH T g f g1 0 (z43 met 1 b i) []) 4 3 T.tab.R T.tab.C g T.tab.net.n (arcB g T.tab.net f):=⟨rfl,rfl,by decide,z0c _ _ _⟩
   have rc:=zCt hA (i:=i) (by omega) 0 9
   have l2:=hA.looks
   have gb:=z0f (l:=met) (i:=1+i) (by omega)
   have p0:(0:Int)≤((1+i:Nat):Int):=by omega
   obtain ⟨g1',ap⟩:=z32 (H:=gapH T g f g1 0 (z43 met 1 b i) []) (id:=6) (l:=z43 met 1 b i) (b:=met.getD (1+i) false == b) (cl:=true) rfl (by rw [z1r];omega) 9 (ro:=0) (Nat.zero_le _)
   rw [← zBx] at ap
   have ih':=ih (i+1) g1'
   simp only [gapH,boxT,netB,arcB,z0B,List.length_nil] at rc ap l2
   simp only [go_sem,simprocAttr,Try.f76,gapH,boxT,netB,arcB,z0B,List.length_nil] at ih' ⊢
   rw [exec_loop]
   simp only [go_sem,simprocAttr,hd,rc,l2,gb,p0,Int.toNat_natCast,ap,z00 (show i < 2 ^ 63 - 1 by omega)]
   rw [apart_ok]
   · simp only [go_sem,simprocAttr,gapH,z00 (show i < 2 ^ 63 - 1 by omega)]
     exact ih' _ _ _ _ _ _ _ _ _ _ _ _ _ _ _ _ _ _ _ _ _ _ _ _ _ _ _ _ _ _ _ _ _ _ _ _ _ _ _ _ _ _ _ _ _ _ _ _ _ _ _ _ _ _ _ _ _ _ _ _ (by omega)
   · kernel_rfl
theorem zMO {T:TabV} (hO:T.tab.Ok) (g:Nat) (f:Nat→Int) {met:List Bool} (hm:met.length=1+T.tab.R+T.tab.C) (b:Bool) (g1:Nat) (l1:List Bool):∀ (n i g2:Nat) (j0 j1 j3 j6 j9 j10 j11 j12 j13 j14 j15 j16 j17 j18 j19 j20 j21 j22 j23 j24 j25 j26 j27 j28 j29 j30 j31 j32 j33 j34 j35 j36 j37 j38 j39 j40 j41 j42 j43 j44 j45 j46 j47 j50 j51 j52 j53 j54 j55 j56 j57 j58 j59 j60 j61 j62 j63 j64 j65 j66:AVal),i+n=T.tab.C →
    Goes (execT env (Try.f76.at [1,1,1,1,1,1,1,0,1,0]) ⟨[j0,j1,.ptr 1 0 0 0,j3,.ptr 4 0 0 0,.lit false 1 (z0A met),j6,.bool b,.ptr 8 0 0 0,j9,j10,j11,j12,j13,j14,j15,j16,j17,j18,j19,j20,j21,j22,j23,j24,j25,j26,j27,j28,j29,j30,j31,j32,j33,j34,j35,j36,j37,j38,j39,j40,j41,j42,j43,j44,j45,j46,j47,.int .i64 T.tab.C,.int .i64 i,j50,j51,j52,j53,j54,j55,j56,j57,j58,j59,j60,j61,j62,j63,j64,j65,j66],gapH T g f g1 g2 l1 (z43 met (1+T.tab.R) b i),[],0,[8]⟩) fun e s=>
     e=.exit 2∧∃ (g2:Nat),FrP 67 [(2,.ptr 1 0 0 0),(4,.ptr 4 0 0 0),(8,.ptr 8 0 0 0)] (gapH T g f g1 g2 l1 (z43 met (1+T.tab.R) b T.tab.C)) [] 0 [8] s:=by
 have hR8:=hO.R8
 have hC8:=hO.C8
 intro n
 induction n with
 | zero=>
   intro i g2;intros;rename_i hi
   have hd:decide ((i:Int) < (T.tab.C:Int))=false:=by simp;omega
   have:i=T.tab.C:=by omega
   subst this
   simp only [go_sem,simprocAttr,Try.f76]
   rw [exec_loop]
   simp only [go_sem,simprocAttr,hd]
   exact ⟨g2,frP (by kernel_rfl)⟩
 | succ n ih=>
   intro i g2;intros;rename_i hi
   have hd:decide ((i:Int) < (T.tab.C:Int))=true:=by simp;omega
   have hA:NetAt (gapH T g f g1 g2 l1 (z43 met (1+T.tab.R) b i)) 4 3 T.tab.R T.tab.C g T.tab.net.n (arcB g T.tab.net f):=⟨rfl,rfl,by decide,z0c _ _ _⟩
   have rc:=zCG hA hR8 (i:=i) (by omega) 0 9
   have l2:=hA.looks
   have gb:=z0f (l:=met) (i:=1+T.tab.R+i) (by omega)
   have p0:(0:Int)≤((1+T.tab.R+i:Nat):Int):=by omega
   obtain ⟨g2',ap⟩:=z32 (H:=gapH T g f g1 g2 l1 (z43 met (1+T.tab.R) b i)) (id:=7) (l:=z43 met (1+T.tab.R) b i) (b:=met.getD (1+T.tab.R+i) false == b) (cl:=true) rfl (by rw [z1r];omega) 9 (ro:=0) (Nat.zero_le _)
   rw [← zBx] at ap
   have ih':=ih (i+1) g2'
   simp only [gapH,boxT,netB,arcB,z0B,List.length_nil] at rc ap l2
   simp only [go_sem,simprocAttr,Try.f76,gapH,boxT,netB,arcB,z0B,List.length_nil] at ih' ⊢
   rw [exec_loop]
   simp only [go_sem,simprocAttr,hd,rc,l2,gb,p0,Int.toNat_natCast,ap,z00 (show i < 2 ^ 63 - 1 by omega)]
   rw [apart_ok]
   · simp only [go_sem,simprocAttr,gapH,z00 (show i < 2 ^ 63 - 1 by omega)]
     exact ih' _ _ _ _ _ _ _ _ _ _ _ _ _ _ _ _ _ _ _ _ _ _ _ _ _ _ _ _ _ _ _ _ _ _ _ _ _ _ _ _ _ _ _ _ _ _ _ _ _ _ _ _ _ _ _ _ _ _ _ _ (by omega)
   · kernel_rfl
def cutV (l1 l2:List Bool):AVal:=.agg [z2U l1,z2U l2]
def z6i (t:Tab) (met:List Bool):List Bool:=z43 met 1 (!met.getD 0 false) t.R
def z7J (t:Tab) (met:List Bool):List Bool:=z43 met (1+t.R) (!met.getD 0 false) t.C
theorem zK3 {T:TabV} (hT:T.Wf) (hO:T.tab.Ok):∃ (v w:AVal) (H':Heap),runT env 76 [T.v] [] 0=some (.ret v,H')∧handBack H' 0 [] 4 v=some w ∧
    (((∃ f,z15 T.tab.net=.ok f)∧w=.tuple [.agg [.lit true 0 [],.lit true 0 []],.bool false]) ∨ (∃ met,z15 T.tab.net=.cut met∧w=.tuple [cutV (z6i T.tab met) (z7J T.tab met),.bool true])):=by
 obtain ⟨g,nc⟩:=zGv hT hO
 obtain ⟨f',hf,sc⟩:=zAU (gn:=g) (z1n hO) z2e
 have nc:=nc 0 [boxT T,.cells 0 2 false [.agg [.lit true 0 [],.lit true 0 []]]] 2
 have hA:NetAt ([boxT T,.cells 0 2 false [.agg [.lit true 0 [],.lit true 0 []]]]++nofX T 2 g) 4 3 T.tab.R T.tab.C g T.tab.net.n (arcB g T.tab.net z2e):=⟨rfl,rfl,by decide,z0c _ _ _⟩
 have sc:=sc hA 6
 simp only [nofX,boxT,z0B,netB,arcB,List.cons_append,List.nil_append,Nat.reduceAdd] at sc nc
 cases hs:z15 T.tab.net with
 | ok f=>
   rw [hs] at sc
   simp only [brV] at sc
   have:∃ H',runT env 76 [T.v] [] 0=some (.ret (.tuple [.agg [.lit true 0 [],.lit true 0 []],.bool false]),H'):=by
    rw [run_unfold fn76 rfl]
    simp only [go_sem,simprocAttr,Try.f76,nc,numbered,sc,unwind,modeEx,resultsOf,one]
    exact ⟨_,rfl⟩
   obtain ⟨H',h⟩:=this
   exact ⟨_,_,H',h,rfl,.inl ⟨⟨f,rfl⟩,rfl⟩⟩
 | cut met=>
   have hb:=(z2j (z1n hO)).2
   rw [hs] at hb
   obtain ⟨hml,hov⟩:=hb
   have hNN:T.tab.net.N=1+T.tab.R+T.tab.C:=rfl
   have hR1:=hO.R1
   have hC1:=hO.C1
   have g0:=z0f (l:=met) (i:=0) (by omega)
   rw [hs] at sc
   simp only [brV,z2U] at sc
   obtain ⟨e1,t1,hx1,hp1⟩:=zMP hO g f' (met:=met) (by omega) (!met.getD 0 false) T.tab.R 0 0 _ _ _ _ _ _ _ _ _ _ _ _ _ _ _ _ _ _ _ _ _ _ _ _ _ _ _ _ _ _ _ _ _ _ _ _ _ _ _ _ _ _ _ _ _ _ _ _ _ _ _ _ _ _ _ _ _ _ _ _ (by omega)
   obtain ⟨rfl,g1,jp,rfl⟩:=hp1
   obtain ⟨e2,t2,hx2,hp2⟩:=zMO hO g f' (met:=met) (by omega) (!met.getD 0 false) g1 (z6i T.tab met) T.tab.C 0 0 _ _ _ _ _ _ _ _ _ _ _ _ _ _ _ _ _ _ _ _ _ _ _ _ _ _ _ _ _ _ _ _ _ _ _ _ _ _ _ _ _ _ _ _ _ _ _ _ _ _ _ _ _ _ _ _ _ _ _ _ (by omega)
   obtain ⟨rfl,g2,jq,rfl⟩:=hp2
   have s0:∀ o,z43 met o (!met.getD 0 false) 0=[]:=fun _=>rfl
   have b0:z0A []=[]:=rfl
   have f1:z43 met 1 (!met.getD 0 false) T.tab.R=z6i T.tab met:=rfl
   have f2:z43 met (1+T.tab.R) (!met.getD 0 false) T.tab.C=z7J T.tab met:=rfl
   have n1:z0A (z6i T.tab met) ≠ []:=by
    intro h;have:=congrArg List.length h
    rw [z0K,z6i,z1r] at this;exact absurd this (by show T.tab.R ≠ 0;omega)
   have n2:z0A (z7J T.tab met) ≠ []:=by
    intro h;have:=congrArg List.length h
    rw [z0K,z7J,z1r] at this;exact absurd this (by show T.tab.C ≠ 0;omega)
   simp only [go_sem,simprocAttr,Try.f76,s0,b0,f1,z1c,z1d,gapH,boxT,netB,arcB,z0B,List.length_nil,Int.natCast_zero,Int.ofNat_zero] at hx1
   simp only [go_sem,simprocAttr,Try.f76,s0,b0,f2,z1c,z1d,gapH,boxT,netB,arcB,z0B,List.length_nil,Int.natCast_zero,Int.ofNat_zero] at hx2
   have:∃ H':Heap,H'[6]?=some (accB 1 g1 (z0A (z6i T.tab met)))∧H'[7]?=some (accB 1 g2 (z0A (z7J T.tab met)))∧runT env 76 [T.v] [] 0=some (.ret (.tuple [.agg [.ref 6 (accG g1 (z0A (z6i T.tab met))) 0 (z6i T.tab met).length false,.ref 7 (accG g2 (z0A (z7J T.tab met))) 0 (z7J T.tab met).length false],.bool true]),H'):=by
    refine ⟨?_,?_,?_,?_⟩
    case refine_4=>
     rw [run_unfold fn76 rfl]
     simp only [go_sem,simprocAttr,Try.f76,nc,numbered,sc,g0,z0I]
     rw [hx1]
     simp only [go_sem,simprocAttr,gapH,boxT,netB,arcB,z0B,b0,z1c,z1d]
     rw [hx2]
     simp only [go_sem,simprocAttr,gapH,boxT,netB,arcB,z0B,f2,unwind,modeEx,resultsOf,one]
     rfl
    · rfl
    · rfl
   obtain ⟨H',h6,h7,h⟩:=this
   refine ⟨_,_,H',h,?_,.inr ⟨met,rfl,rfl⟩⟩
   have t1:(z0A (z6i T.tab met)).take (z6i T.tab met).length=z0A (z6i T.tab met):=List.take_of_length_le (by rw [z0K];exact Nat.le_refl _)
   have t2:(z0A (z7J T.tab met)).take (z7J T.tab met).length=z0A (z7J T.tab met):=List.take_of_length_le (by rw [z0K];exact Nat.le_refl _)
   have a1:accB 1 g1 (z0A (z6i T.tab met))=.cells g1 1 true (z0A (z6i T.tab met)):=if_neg n1
   have a2:accB 1 g2 (z0A (z7J T.tab met))=.cells g2 1 true (z0A (z7J T.tab met)):=if_neg n2
   have c1:accG g1 (z0A (z6i T.tab met))=g1:=if_neg n1
   have c2:accG g2 (z0A (z7J T.tab met))=g2:=if_neg n2
   rw [a1] at h6
   rw [a2] at h7
   rw [c1,c2]
   simp [handBack,toLit,noRef,AVal.under,mapO,h6,h7,t1,t2,cutV,z2U,z0K]
set_option maxRecDepth 10000
set_option maxHeartbeats 2000000
theorem z1U {a a' b b':Int} (h1:a=a') (h2:b=b'):a+b=a'+b':=by rw [h1,h2]
theorem z9o {t:Tab} {r r' c c':Nat→Bool} (hr:∀ i,i < t.R→r i=r' i) (hc:∀ k,k < t.C→c k=c' k):t.gap r c=t.gap r' c':=by
 have e1:t.asked r c=t.asked r' c':=z1U (z02 fun i hi=>z02 fun k hk=>by rw [hr i hi,hc k hk]) (z02 fun k hk=>by rw [hc k hk])
 have e2:t.comes r c=t.comes r' c':=z1U (z02 fun i hi=>by rw [hr i hi]) (z02 fun i hi=>z02 fun k hk=>by rw [hr i hi,hc k hk])
 have e3:t.given r c=t.given r' c':=z1U (z02 fun i hi=>by rw [hr i hi]) (z02 fun i hi=>z02 fun k hk=>by rw [hr i hi,hc k hk])
 have e4:t.taken r c=t.taken r' c':=z1U (z02 fun i hi=>z02 fun k hk=>by rw [hr i hi,hc k hk]) (z02 fun k hk=>by rw [hc k hk])
 unfold Tab.gap
 rw [e1,e2,e3,e4]
theorem zBw (met:List Bool) (off:Nat) (b:Bool) {n i:Nat} (h:i < n):(z43 met off b n).getD i false=(met.getD (off+i) false == b):=by
 unfold z43
 rw [List.getD_eq_getElem?_getD,List.getElem?_map,List.getElem?_range h];rfl
theorem zO1 {t:Tab} {met:List Bool} (h:0 < t.net.over fun v=>met.getD v false):t.gap (fun i=>(z6i t met).getD i false) (fun k=>(z7J t met).getD k false)=true:=by
 rw [← zK2 (S:=fun v=>met.getD v false) h]
 exact z9o (fun i hi=>zBw _ _ _ hi) fun k hk=>zBw _ _ _ hk
def GapAns (t:Tab) (w:AVal):Prop:=(t.ok=false∧w=.tuple [.agg [.lit true 0 [],.lit true 0 []],.bool false,.int .i64 60]) ∨
 (t.Ok∧canB t=true∧w=.tuple [.agg [.lit true 0 [],.lit true 0 []],.bool false,.int .i64 0]) ∨
 (t.Ok∧canB t=false∧∃ l1 l2:List Bool,l1.length=t.R∧l2.length=t.C∧t.gap (fun i=>l1.getD i false) (fun k=>l2.getD k false)=true∧w=.tuple [cutV l1 l2,.bool true,.int .i64 0])
theorem zMM {T:TabV} (hT:T.Wf) (hO:T.tab.Ok):∃ w,((canB T.tab=true∧w=.tuple [.agg [.lit true 0 [],.lit true 0 []],.bool false]) ∨
    (canB T.tab=false∧∃ l1 l2:List Bool,l1.length=T.tab.R∧l2.length=T.tab.C∧T.tab.gap (fun i=>l1.getD i false) (fun k=>l2.getD k false)=true∧w=.tuple [cutV l1 l2,.bool true]))∧∀ ro H nx,callT env 76 [T.v] ro H nx=some (.ret w,.ups []):=by
 obtain ⟨v,w,H',hr,hb,hw⟩:=zK3 hT hO
 rcases hw with ⟨hf,rfl⟩ | ⟨met,hs,rfl⟩
 · exact ⟨_,.inl ⟨z0S.2 ((z4h hO).2 hf),rfl⟩,fun ro H nx=>z0o rfl rfl rfl z0d hr hb rfl ro H nx⟩
 · have hov:=(z2j (z1n hO)).2
   rw [hs] at hov
   exact ⟨_,.inr ⟨z5s.2 ((z4h hO).1 ⟨met,hs⟩),_,_,z1r _ _ _ _,z1r _ _ _ _,zO1 hov.2,rfl⟩,fun ro H nx=>z0o rfl rfl rfl z0d hr hb (by
    have:∀ l,noRef (z2U l)=true:=fun l=>by
     have h:∀ l:List Bool,underL 0 (z0A l)=true:=by
      intro l
      induction l with
      | nil=>rfl
      | cons x l ih=>show (AVal.under 0 _ && underL 0 (z0A l))=true;rw [ih];rfl
     simp [noRef,z2U,AVal.under,h]
    simp only [noRef] at this
    simp [noRef,cutV,AVal.under,underL,this]) ro H nx⟩
theorem zOf {T:TabV} (hT:T.Wf):∃ (w:AVal) (H':Heap),runT env 23 [T.v] [] 0=some (.ret w,H')∧GapAns T.tab w:=by
 have hc:=z0z T hT
 cases hok:T.tab.ok with
 | false=>
   have:∃ H',runT env 23 [T.v] [] 0=some (.ret (.tuple [.agg [.lit true 0 [],.lit true 0 []],.bool false,.int .i64 60]),H'):=by
    rw [run_unfold fn23 rfl]
    simp only [go_sem,simprocAttr,Try.f23,hc,z29 hok,unwind,modeEx,resultsOf,one]
    exact ⟨_,rfl⟩
   obtain ⟨H',h⟩:=this
   exact ⟨_,_,h,.inl ⟨hok,rfl⟩⟩
 | true=>
   have hO:=Tab.ok_iff.1 hok
   obtain ⟨w,hw,gc⟩:=zMM hT hO
   rcases hw with ⟨hcan,rfl⟩ | ⟨hcan,l1,l2,k1,k2,k3,rfl⟩
   · have:∃ H',runT env 23 [T.v] [] 0=some (.ret (.tuple [.agg [.lit true 0 [],.lit true 0 []],.bool false,.int .i64 0]),H'):=by
       rw [run_unfold fn23 rfl]
       simp only [go_sem,simprocAttr,Try.f23,hc,z0R hok,gc,unwind,modeEx,resultsOf,one]
       exact ⟨_,rfl⟩
     obtain ⟨H',h⟩:=this
     exact ⟨_,_,h,.inr (.inl ⟨hO,hcan,rfl⟩)⟩
   · have:∃ H',runT env 23 [T.v] [] 0=some (.ret (.tuple [cutV l1 l2,.bool true,.int .i64 0]),H'):=by
       simp only [cutV,z2U] at gc ⊢
       rw [run_unfold fn23 rfl]
       simp only [go_sem,simprocAttr,Try.f23,hc,z0R hok,gc,unwind,modeEx,resultsOf,one]
       exact ⟨_,rfl⟩
     obtain ⟨H',h⟩:=this
     exact ⟨_,_,h,.inr (.inr ⟨hO,hcan,l1,l2,k1,k2,k3,rfl⟩)⟩
set_option maxRecDepth 10000
set_option maxHeartbeats 2000000
structure CutA where
 c1:Bool
 s1:Nat
 l1:List Bool
 c2:Bool
 s2:Nat
 l2:List Bool
def CutA.v (c:CutA):AVal:=.agg [.lit c.c1 c.s1 (z0A c.l1),.lit c.c2 c.s2 (z0A c.l2)]
structure CutA.Wf (c:CutA):Prop where
 s1:c.l1=[] ∨ c.s1=1
 s2:c.l2=[] ∨ c.s2=1
 b1:c.l1.length < 2 ^ 63
 b2:c.l2.length < 2 ^ 63
@[go_sem] theorem CutA.cells_eq (c:CutA):c.v.cellsOf=[.lit c.c1 c.s1 (z0A c.l1),.lit c.c2 c.s2 (z0A c.l2)]:=rfl
@[go_sem] theorem CutA.tup (c:CutA):c.v.isTuple=false:=rfl
@[go_sem] theorem CutA.under (c:CutA) (m:Nat):c.v.under m=true:=by
 have h:∀ l:List Bool,underL m (z0A l)=true:=by
  intro l
  induction l with
  | nil=>rfl
  | cons x l ih=>show (AVal.under m _ && underL m (z0A l))=true;rw [ih];rfl
 simp [CutA.v,AVal.under,underL,h]
def z0L (x y:Spn):Spn:=⟨x.lo+y.lo,x.hi+y.hi⟩
def z0h (n:Nat) (p:Nat→Bool) (f:Nat→Spn):Spn:=⟨sumN n fun i=>if p i then (f i).lo else 0,sumN n fun i=>if p i then (f i).hi else 0⟩
theorem z4i (n:Nat) (p:Nat→Bool) (f:Nat→Spn):z0h (n+1) p f=if p n then z0L (z0h n p f) (f n) else z0h n p f:=by
 unfold z0h z0L
 simp only [sumN]
 split <;> simp
set_option maxRecDepth 10000
set_option maxHeartbeats 2000000
theorem z4b (d:Spn) (n:Nat) (p:Nat→Bool) (f:Nat→Spn):z0L d (z0h (n+1) p f)=if p n then z0L (z0L d (z0h n p f)) (f n) else z0L d (z0h n p f):=by
 rw [z4i]
 split
 · simp only [z0L,Int.add_assoc]
 · rfl
set_option maxRecDepth 10000
set_option maxHeartbeats 2000000
set_option maxRecDepth 10000
set_option maxHeartbeats 2000000
@[go_sem] theorem CutA.fold (c:CutA):AVal.agg [.lit c.c1 c.s1 (z0A c.l1),.lit c.c2 c.s2 (z0A c.l2)]=c.v:=rfl
theorem z3T (T:TabV) (c:CutA):underL 0 [T.v,c.v]=true:=by simp only [underL,TabV.under,CutA.under,Bool.and_self]
def fitC (t:Tab) (c:CutA):Bool:=decide (c.l1.length=t.R) && decide (c.l2.length=t.C)
theorem z3W {t:Tab} {c:CutA}:fitC t c=true ↔ c.l1.length=t.R∧c.l2.length=t.C:=by simp [fitC]
theorem z7G (T:TabV) (c:CutA) (ro:Nat) (H:Heap) (nx:Nat):callT env 77 [T.v,c.v] ro H nx=some (.ret (.bool (fitC T.tab c)),.ups []):=by
 have:∃ H',runT env 77 [T.v,c.v] [] 0=some (.ret (.bool (fitC T.tab c)),H'):=by
  have lr:T.rows.l.length=T.tab.R:=rfl
  have lc:T.cols.l.length=T.tab.C:=rfl
  have e1:decide ((c.l1.length:Int)=(T.tab.R:Int))=decide (c.l1.length=T.tab.R):=decide_eq_decide.2 (by omega)
  have e2:decide ((c.l2.length:Int)=(T.tab.C:Int))=decide (c.l2.length=T.tab.C):=decide_eq_decide.2 (by omega)
  rw [run_unfold fn77 rfl]
  unfold fitC
  cases qa:decide (c.l1.length=T.tab.R) <;> cases qb:decide (c.l2.length=T.tab.C) <;>
   simp only [go_sem,simprocAttr,Try.f77,z0K,List.length_map,lr,lc,e1,e2,qa,qb,unwind,modeEx,resultsOf,one,Bool.and_true,Bool.and_false,Bool.true_and,Bool.false_and] <;>
   exact ⟨_,rfl⟩
 obtain ⟨H',h⟩:=this
 exact call_pure rfl rfl rfl (z3T T c) h rfl ro H nx
def cutA (l1 l2:List Bool):CutA:=⟨false,1,l1,false,1,l2⟩
theorem zGR (l1 l2:List Bool):(cutA l1 l2).v=cutV l1 l2:=rfl
theorem GapAns.pure {t:Tab} {w:AVal} (h:GapAns t w):noRef w=true:=by
 rcases h with ⟨_,rfl⟩ | ⟨_,_,rfl⟩ | ⟨_,_,l1,l2,_,_,_,rfl⟩
 · rfl
 · rfl
 · have:=(cutA l1 l2).under 0
   rw [zGR] at this
   simp only [noRef,AVal.under,underL,this,Bool.and_self]
theorem zC4 {T:TabV} (hT:T.Wf):∃ w,GapAns T.tab w∧∀ ro H nx,callT env 23 [T.v] ro H nx=some (.ret w,.ups []):=by
 obtain ⟨w,H',hr,hw⟩:=zOf hT
 exact ⟨w,hw,fun ro H nx=>call_pure rfl rfl rfl z0d hr hw.pure ro H nx⟩
set_option maxRecDepth 10000
set_option maxHeartbeats 2000000
def ex6:SlV:=⟨true,2,[⟨0,6⟩,⟨0,6⟩]⟩
def exV:TabV:=⟨⟨true,2,[⟨10,10⟩,⟨5,7⟩]⟩,⟨true,2,[⟨8,9⟩,⟨6,9⟩]⟩,true,1,[ex6,ex6]⟩
def exGV:TabV:=⟨⟨true,2,[⟨13,13⟩,⟨5,7⟩]⟩,⟨true,2,[⟨8,9⟩,⟨6,9⟩]⟩,true,1,[ex6,ex6]⟩
theorem zGa:∀ s ∈ [ex6,ex6],(s.l=[] ∨ s.sz=2)∧s.l.length < 2 ^ 63:=by
 intro s hs
 simp only [List.mem_cons,List.not_mem_nil,or_false,or_self] at hs
 subst hs
 exact ⟨.inr rfl,by decide⟩
theorem zDb:exV.Wf:=⟨.inr rfl,.inr rfl,.inr rfl,fun s hs=>(zGa s hs).1,by decide,by decide,by decide,fun s hs=>(zGa s hs).2⟩
theorem zJo:exGV.Wf:=⟨.inr rfl,.inr rfl,.inr rfl,fun s hs=>(zGa s hs).1,by decide,by decide,by decide,fun s hs=>(zGa s hs).2⟩
theorem zPR:exV.tab=exT:=rfl
theorem zGb:exGV.tab=exG:=rfl
theorem zHq:(runN env 100 74 [] [] 0).map (fun x=>x.1)=some (.ret exV.v):=by kernel_rfl
theorem zPS (ro:Nat) (H:Heap) (nx:Nat):callT env 74 [] ro H nx=some (.ret exV.v,.ups []):=by
 have h:=zHq
 cases hr:runN env 100 74 [] [] 0 with
 | none=>rw [hr] at h;cases h
 | some x=>
   rw [hr] at h
   obtain ⟨r,H'⟩:=x
   simp only [Option.map_some,Option.some.injEq] at h
   subst h
   exact call_pure rfl rfl rfl rfl (runT_some.2 ⟨100,hr⟩) rfl ro H nx
def okM:Option (CRes × Heap)→Bool
 | some (.ret v,H')=>match handBack H' 0 [] 4 v with
   | some (.tuple [.agg [.lit _ sz [.agg [.int .i64 p,.int .i64 q]],a,b],.int .i64 e])=>decide (sz=2) && decide (p=15) && decide (q=17) && decide (e=0) && noRef a && noRef b && decide (a.cellsOf.length=1) && decide (b.cellsOf.length=1) && !a.isTuple && !b.isTuple
   | _=>false
 | _=>false
theorem zAv:okM (runN env 300 37 [exV.v,.int .i64 0,.int .i64 1] [] 0)=true:=by kernel_rfl
theorem zKS:∃ cl a b,noRef a=true∧noRef b=true∧a.cellsOf.length=1∧b.cellsOf.length=1∧a.isTuple=false∧b.isTuple=false∧∀ ro H nx,callT env 37 [exV.v,.int .i64 0,.int .i64 1] ro H nx=some (.ret (.tuple [.agg [.lit cl 2 [.agg [.int .i64 15,.int .i64 17]],a,b],.int .i64 0]),.ups []):=by
 have h:=zAv
 unfold okM at h
 split at h
 · rename_i v H' hr
   split at h
   · rename_i cl sz p q a b e hb
     simp only [Bool.and_eq_true,decide_eq_true_eq,Bool.not_eq_true'] at h
     obtain ⟨⟨⟨⟨⟨⟨⟨⟨⟨rfl,rfl⟩,rfl⟩,rfl⟩,ha⟩,hb'⟩,la⟩,lb⟩,ta⟩,tb⟩:=h
     refine ⟨cl,a,b,ha,hb',la,lb,ta,tb,fun ro H nx=>z0o rfl rfl rfl rfl (runT_some.2 ⟨300,hr⟩) hb ?_ ro H nx⟩
     simp only [noRef,AVal.under,underL,Bool.true_and,Bool.and_true] at ha hb' ⊢
     rw [ha,hb'];rfl
   · cases h
 · cases h
theorem zCM {t:Tab} {code:Int} {l:List Nat} {v:AVal} {lo hi:Int} (h:EndsAns t code l v) (hc:code=0) (he:IsEnds t.net l lo hi):v=.tuple [.agg [.int .i64 lo,.int .i64 hi],.int .i64 0]:=by
 rcases h with ⟨h1,_⟩ | ⟨_,_,lo',hi',h2,rfl⟩
 · exact absurd hc h1
 · obtain ⟨rfl,rfl⟩:=h2.unique he
   rfl
end Go.Proofs.Ytgfejpngfikjiaa.Tidy
