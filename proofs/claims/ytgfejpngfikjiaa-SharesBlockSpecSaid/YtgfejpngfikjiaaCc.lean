/-
 What the functions that the statements of this seat share compute.
-/
import Derived.Test.YtgfejpngfikjiaaCb
set_option linter.all false
namespace Go.Proofs.Ytgfejpngfikjiaa.Tidy
open Go Go.IntWalk
set_option maxRecDepth 10000
set_option linter.unusedSimpArgs false
theorem z4N {H:Heap} {id g:Nat} {es:List AVal} {v:AVal} {cl:Bool} (hH:H[id]?=some (accB 6 g es)) (hv:noRef v=true) (hb:es.length < 2 ^ 30) (nx:Nat) {ro:Nat} (hro:ro≤id):
    ∃ g',z0H env ro nx 140 (.ref id (accG g es) 0 es.length false) (.lit cl 6 [v]) H=some (.ref id (accG g' (es++[v])) 0 (es++[v]).length false,[(id,accB 6 g' (es++[v]))]):=by
 obtain ⟨g',h⟩:=z4M (v:=v) (cl:=cl) ti140 ti157 rfl ⟨by decide,rfl,rfl⟩ rfl hH hv (by show (es.length+1) * 49≤2 ^ 45;omega) nx hro
 exact ⟨g',by rw [h];simp⟩
def GainV (v:AVal) (n:Nat) (gf:Nat→Int):Prop:=(v=.lit true 0 []∧gf=z2e) ∨ (∃ cl x xs,v=.lit cl 1 (x :: xs)∧intsV n gf=x :: xs)
theorem GainV.lit {cl:Bool} {n:Nat} (hn:0 < n) (gf:Nat→Int):GainV (.lit cl 1 (intsV n gf)) n gf:=by
 right
 obtain ⟨x,xs,h⟩:∃ x xs,intsV n gf=x :: xs:=by
  cases h:intsV n gf with
  | nil=>have:=z0F n gf;rw [h] at this;simp at this;omega
  | cons x xs=>exact ⟨x,xs,rfl⟩
 exact ⟨cl,x,xs,by rw [h],h⟩
theorem zPx {tn e n m:Nat} {z x:AVal} {cl:Bool} {sz:Nat} {xs:List AVal}:binOp env .neq tn ⟨.slice e,n,m,z⟩ (.lit cl sz (x :: xs)) (.lit true 0 [])=some (.bool true):=by cases cl <;> cases sz <;> rfl
theorem zSH {tn e n m:Nat} {z x:AVal} {cl:Bool} {sz:Nat} {xs:List AVal}:binOp env .eql tn ⟨.slice e,n,m,z⟩ (.lit cl sz (x :: xs)) (.lit true 0 [])=some (.bool false):=by cases cl <;> cases sz <;> rfl
theorem zJm {tn e n m:Nat} {z:AVal}:binOp env .eql tn ⟨.slice e,n,m,z⟩ (.lit true 0 []) (.lit true 0 [])=some (.bool true):=rfl
theorem zEk (G:Net) (f g:Nat→Int) (n:Nat):G.ways f g (n+1)=G.ways f g n++((if f n < G.hi n then [G.fwd f g n] else [])++(if G.lo n < f n then [G.bwd f g n] else [])):=by
 unfold Net.ways
 rw [List.range_succ,List.flatMap_append];simp
theorem z5B (G:Net) (f g:Nat→Int):∀ n,(G.ways f g n).length≤2 * n
 | 0=>by simp [Net.ways]
 | n+1=>by
   have:=z5B G f g n
   rw [zEk,List.length_append,List.length_append]
   split <;> split <;> simp <;> omega
structure NetS (G:Net) (f g:Nat→Int):Prop where
 n:G.n≤80
 f:∀ j,j < G.n→0≤f j∧f j≤2 ^ 30
 lo:∀ j,j < G.n→0≤G.lo j∧G.lo j≤2 ^ 30
 hi:∀ j,j < G.n→0≤G.hi j∧G.hi j≤2 ^ 30
 g:∀ j,j < G.n→-1≤g j∧g j≤1
theorem zLO {R C gn:Nat} {G:Net} {f gf:Nat→Int} (hs:NetS G f gf) {gv:AVal} (hg:GainV gv G.n gf):∀ (n i ga:Nat) (j0 j2 j3 j4 j6 j7 j8 j9 j10 j11 j15 j16 j17 j18 j19 j20 j21 j22 j23 j24 j25 j26 j27 j28 j29 j30 j31 j32 j33 j34 j35 j36 j37 j38 j39 j40 j41 j42 j43 j44 j45 j46 j47 j48 j49 j50 j51 j52 j53 j54 j55 j56 j57 j58 j59 j60 j61 j62 j63 j64 j65 j66 j67:AVal),i+n=G.n →
    Goes (execT env (Try.f145.at [1,1,0,1,0]) ⟨[j0,gv,j2,j3,j4,.ref 2 (accG ga (z0P (G.ways f gf i))) 0 (z0P (G.ways f gf i)).length false,j6,j7,j8,j9,j10,j11,.ref 1 gn 0 G.n false,.int .i64 G.n,.int .i64 i,j15,j16,j17,j18,j19,j20,j21,j22,j23,j24,j25,j26,j27,j28,j29,j30,j31,j32,j33,j34,j35,j36,j37,j38,j39,j40,j41,j42,j43,j44,j45,j46,j47,j48,j49,j50,j51,j52,j53,j54,j55,j56,j57,j58,j59,j60,j61,j62,j63,j64,j65,j66,j67],netH R C gn G f++[accB 6 ga (z0P (G.ways f gf i))],[],2,[5]⟩) fun e s=>
     e=.exit 0∧∃ (g':Nat),FrP 68 [(5,.ref 2 (accG g' (z0P (G.ways f gf G.n))) 0 (z0P (G.ways f gf G.n)).length false)] (netH R C gn G f++[accB 6 g' (z0P (G.ways f gf G.n))]) [] 2 [5] s:=by
 have hn8:=hs.n
 intro n
 induction n with
 | zero=>
   intro i ga;intros;rename_i hi
   have hd:decide ((i:Int) < (G.n:Int))=false:=by simp;omega
   have:i=G.n:=by omega
   subst this
   simp only [go_sem,simprocAttr,Try.f145]
   rw [exec_loop]
   simp only [go_sem,simprocAttr,hd]
   exact ⟨ga,frP (by kernel_rfl)⟩
 | succ n ih=>
   intro i ga;intros;rename_i hi
   have hin:i < G.n:=by omega
   have hd:decide ((i:Int) < (G.n:Int))=true:=by simp;omega
   have h0:(0:Int)≤(i:Int):=by omega
   have ha:=z4O (f:=f) hin
   obtain ⟨fb1,fb2⟩:=hs.f i hin
   obtain ⟨lb1,lb2⟩:=hs.lo i hin
   obtain ⟨hb1,hb2⟩:=hs.hi i hin
   obtain ⟨gb1,gb2⟩:=hs.g i hin
   have w1:IntKind.i64.wrap (G.hi i - f i)=G.hi i - f i:=i64_in _ (by omega)
   have w2:IntKind.i64.wrap (f i - G.lo i)=f i - G.lo i:=i64_in _ (by omega)
   have w3:IntKind.i64.wrap (0 - gf i)=- gf i:=by rw [i64_in _ (by omega)];omega
   have hwl:=z5B G f gf i
   have hlen:(z0P (G.ways f gf i)).length < 2 ^ 29:=by unfold z0P;rw [List.length_map];omega
   have r1:AVal.agg [.int .i64 i,.bool false,.int .i64 (G.to i),.int .i64 (G.hi i - f i),.int .i64 (gf i),.int .i64 (G.fr i)]=resV (G.fwd f gf i):=rfl
   have r2:AVal.agg [.int .i64 i,.bool true,.int .i64 (G.fr i),.int .i64 (f i - G.lo i),.int .i64 (-gf i),.int .i64 (G.to i)]=resV (G.bwd f gf i):=rfl
   -- the gain
   have hgain:∃ b,(∀ e n m z,binOp env .neq 51 ⟨.slice e,n,m,z⟩ gv (.lit true 0 [])=some (.bool b))∧((b=false∧gf i=0) ∨ (b=true∧∃ cl,gv=.lit cl 1 (intsV G.n gf))):=by
    rcases hg with ⟨rfl,rfl⟩ | ⟨cl,x,xs,rfl,hx⟩
    · exact ⟨false,fun _ _ _ _=>rfl,.inl ⟨rfl,rfl⟩⟩
    · exact ⟨true,fun _ _ _ _=>zPx,.inr ⟨rfl,cl,by rw [hx]⟩⟩
   obtain ⟨b,hb,hbc⟩:=hgain
   have hsc:∀ m,scrub m gv=gv:=by
    rcases hg with ⟨rfl,_⟩ | ⟨cl,x,xs,rfl,_⟩ <;> intro m <;> rfl
   have ih':=ih (i+1)
   rw [zEk] at ih'
   simp only [go_sem,simprocAttr,Try.f145,netH,netB,arcB] at ih' ⊢
   rw [exec_loop]
   by_cases c1:f i < G.hi i
   · obtain ⟨g1,a1⟩:=z4N (H:=[netB R C 1 gn G.n,arcB gn G f,accB 6 ga (z0P (G.ways f gf i)),.cells 0 5 true [arcV (G.fr i) (G.to i) (G.lo i) (G.hi i) (f i)]]) (id:=2) (cl:=true) (v:=resV (G.fwd f gf i)) rfl rfl (by omega) 4 (ro:=2) (by decide)
     simp only [netB,arcB] at a1
     have d1:decide (f i < G.hi i)=true:=decide_eq_true c1
     by_cases c2:G.lo i < f i
     · obtain ⟨g2,a2⟩:=z4N (H:=[netB R C 1 gn G.n,arcB gn G f,accB 6 g1 (z0P (G.ways f gf i)++[resV (G.fwd f gf i)]),.cells 0 5 true [arcV (G.fr i) (G.to i) (G.lo i) (G.hi i) (f i)]]) (id:=2) (cl:=true) (v:=resV (G.bwd f gf i)) rfl rfl (by simp;omega) 4 (ro:=2) (by decide)
       simp only [netB,arcB] at a2
       have d2:decide (G.lo i < f i)=true:=decide_eq_true c2
       have e1:z0P (G.ways f gf i++([G.fwd f gf i]++[G.bwd f gf i]))=z0P (G.ways f gf i)++[resV (G.fwd f gf i)]++[resV (G.bwd f gf i)]:=by simp [z0P]
       rw [if_pos c1,if_pos c2,e1] at ih'
       rcases hbc with ⟨rfl,hz⟩ | ⟨rfl,cl,rfl⟩
       · have r1:AVal.agg [.int .i64 i,.bool false,.int .i64 (G.to i),.int .i64 (G.hi i - f i),.int .i64 0,.int .i64 (G.fr i)]=resV (G.fwd f gf i):=by rw [resV,Net.fwd,hz]
         have r2:AVal.agg [.int .i64 i,.bool true,.int .i64 (G.fr i),.int .i64 (f i - G.lo i),.int .i64 0,.int .i64 (G.to i)]=resV (G.bwd f gf i):=by rw [resV,Net.bwd,hz];rfl
         have w3:IntKind.i64.wrap 0=0:=by decide
         simp only [go_sem,simprocAttr,hd,h0,Int.toNat_natCast,ha,hb,d1,d2,w1,w2,w3,r1,r2,a1,a2,hin,decide_true,trunc,hsc,List.map_cons,List.map_nil,z00 (show i < 2 ^ 63 - 1 by omega)]
         exact ih' g2 _ _ _ _ _ _ _ _ _ _ _ _ _ _ _ _ _ _ _ _ _ _ _ _ _ _ _ _ _ _ _ _ _ _ _ _ _ _ _ _ _ _ _ _ _ _ _ _ _ _ _ _ _ _ _ _ _ _ _ _ _ _ _ (by omega)
       · have hgi:=z0b (f:=gf) hin
         simp only [go_sem,simprocAttr,hd,h0,Int.toNat_natCast,ha,hb,hgi,d1,d2,w1,w2,w3,r1,r2,a1,a2,hin,decide_true,trunc,hsc,List.map_cons,List.map_nil,z00 (show i < 2 ^ 63 - 1 by omega)]
         exact ih' g2 _ _ _ _ _ _ _ _ _ _ _ _ _ _ _ _ _ _ _ _ _ _ _ _ _ _ _ _ _ _ _ _ _ _ _ _ _ _ _ _ _ _ _ _ _ _ _ _ _ _ _ _ _ _ _ _ _ _ _ _ _ _ _ (by omega)
     · have d2:decide (G.lo i < f i)=false:=decide_eq_false c2
       have e1:z0P (G.ways f gf i++([G.fwd f gf i]++[]))=z0P (G.ways f gf i)++[resV (G.fwd f gf i)]:=by simp [z0P]
       rw [if_pos c1,if_neg c2,e1] at ih'
       rcases hbc with ⟨rfl,hz⟩ | ⟨rfl,cl,rfl⟩
       · have r1:AVal.agg [.int .i64 i,.bool false,.int .i64 (G.to i),.int .i64 (G.hi i - f i),.int .i64 0,.int .i64 (G.fr i)]=resV (G.fwd f gf i):=by rw [resV,Net.fwd,hz]
         have r2:AVal.agg [.int .i64 i,.bool true,.int .i64 (G.fr i),.int .i64 (f i - G.lo i),.int .i64 0,.int .i64 (G.to i)]=resV (G.bwd f gf i):=by rw [resV,Net.bwd,hz];rfl
         have w3:IntKind.i64.wrap 0=0:=by decide
         simp only [go_sem,simprocAttr,hd,h0,Int.toNat_natCast,ha,hb,d1,d2,w1,w2,w3,r1,r2,a1,hin,decide_true,trunc,hsc,List.map_cons,List.map_nil,z00 (show i < 2 ^ 63 - 1 by omega)]
         exact ih' g1 _ _ _ _ _ _ _ _ _ _ _ _ _ _ _ _ _ _ _ _ _ _ _ _ _ _ _ _ _ _ _ _ _ _ _ _ _ _ _ _ _ _ _ _ _ _ _ _ _ _ _ _ _ _ _ _ _ _ _ _ _ _ _ (by omega)
       · have hgi:=z0b (f:=gf) hin
         simp only [go_sem,simprocAttr,hd,h0,Int.toNat_natCast,ha,hb,hgi,d1,d2,w1,w2,w3,r1,r2,a1,hin,decide_true,trunc,hsc,List.map_cons,List.map_nil,z00 (show i < 2 ^ 63 - 1 by omega)]
         exact ih' g1 _ _ _ _ _ _ _ _ _ _ _ _ _ _ _ _ _ _ _ _ _ _ _ _ _ _ _ _ _ _ _ _ _ _ _ _ _ _ _ _ _ _ _ _ _ _ _ _ _ _ _ _ _ _ _ _ _ _ _ _ _ _ _ (by omega)
   · have d1:decide (f i < G.hi i)=false:=decide_eq_false c1
     by_cases c2:G.lo i < f i
     · obtain ⟨g2,a2⟩:=z4N (H:=[netB R C 1 gn G.n,arcB gn G f,accB 6 ga (z0P (G.ways f gf i)),.cells 0 5 true [arcV (G.fr i) (G.to i) (G.lo i) (G.hi i) (f i)]]) (id:=2) (cl:=true) (v:=resV (G.bwd f gf i)) rfl rfl (by omega) 4 (ro:=2) (by decide)
       simp only [netB,arcB] at a2
       have d2:decide (G.lo i < f i)=true:=decide_eq_true c2
       have e1:z0P (G.ways f gf i++([]++[G.bwd f gf i]))=z0P (G.ways f gf i)++[resV (G.bwd f gf i)]:=by simp [z0P]
       rw [if_neg c1,if_pos c2,e1] at ih'
       rcases hbc with ⟨rfl,hz⟩ | ⟨rfl,cl,rfl⟩
       · have r1:AVal.agg [.int .i64 i,.bool false,.int .i64 (G.to i),.int .i64 (G.hi i - f i),.int .i64 0,.int .i64 (G.fr i)]=resV (G.fwd f gf i):=by rw [resV,Net.fwd,hz]
         have r2:AVal.agg [.int .i64 i,.bool true,.int .i64 (G.fr i),.int .i64 (f i - G.lo i),.int .i64 0,.int .i64 (G.to i)]=resV (G.bwd f gf i):=by rw [resV,Net.bwd,hz];rfl
         have w3:IntKind.i64.wrap 0=0:=by decide
         simp only [go_sem,simprocAttr,hd,h0,Int.toNat_natCast,ha,hb,d1,d2,w1,w2,w3,r1,r2,a2,hin,decide_true,trunc,hsc,List.map_cons,List.map_nil,z00 (show i < 2 ^ 63 - 1 by omega)]
         exact ih' g2 _ _ _ _ _ _ _ _ _ _ _ _ _ _ _ _ _ _ _ _ _ _ _ _ _ _ _ _ _ _ _ _ _ _ _ _ _ _ _ _ _ _ _ _ _ _ _ _ _ _ _ _ _ _ _ _ _ _ _ _ _ _ _ (by omega)
       · have hgi:=z0b (f:=gf) hin
         simp only [go_sem,simprocAttr,hd,h0,Int.toNat_natCast,ha,hb,hgi,d1,d2,w1,w2,w3,r1,r2,a2,hin,decide_true,trunc,hsc,List.map_cons,List.map_nil,z00 (show i < 2 ^ 63 - 1 by omega)]
         exact ih' g2 _ _ _ _ _ _ _ _ _ _ _ _ _ _ _ _ _ _ _ _ _ _ _ _ _ _ _ _ _ _ _ _ _ _ _ _ _ _ _ _ _ _ _ _ _ _ _ _ _ _ _ _ _ _ _ _ _ _ _ _ _ _ _ (by omega)
     · have d2:decide (G.lo i < f i)=false:=decide_eq_false c2
       have e1:z0P (G.ways f gf i++([]++[]))=z0P (G.ways f gf i):=by simp [z0P]
       rw [if_neg c1,if_neg c2,e1] at ih'
       rcases hbc with ⟨rfl,hz⟩ | ⟨rfl,cl,rfl⟩
       · have r1:AVal.agg [.int .i64 i,.bool false,.int .i64 (G.to i),.int .i64 (G.hi i - f i),.int .i64 0,.int .i64 (G.fr i)]=resV (G.fwd f gf i):=by rw [resV,Net.fwd,hz]
         have r2:AVal.agg [.int .i64 i,.bool true,.int .i64 (G.fr i),.int .i64 (f i - G.lo i),.int .i64 0,.int .i64 (G.to i)]=resV (G.bwd f gf i):=by rw [resV,Net.bwd,hz];rfl
         have w3:IntKind.i64.wrap 0=0:=by decide
         simp only [go_sem,simprocAttr,hd,h0,Int.toNat_natCast,ha,hb,d1,d2,w1,w2,w3,hin,decide_true,trunc,hsc,List.map_cons,List.map_nil,z00 (show i < 2 ^ 63 - 1 by omega)]
         exact ih' ga _ _ _ _ _ _ _ _ _ _ _ _ _ _ _ _ _ _ _ _ _ _ _ _ _ _ _ _ _ _ _ _ _ _ _ _ _ _ _ _ _ _ _ _ _ _ _ _ _ _ _ _ _ _ _ _ _ _ _ _ _ _ _ (by omega)
       · have hgi:=z0b (f:=gf) hin
         simp only [go_sem,simprocAttr,hd,h0,Int.toNat_natCast,ha,hb,hgi,d1,d2,w1,w2,w3,hin,decide_true,trunc,hsc,List.map_cons,List.map_nil,z00 (show i < 2 ^ 63 - 1 by omega)]
         exact ih' ga _ _ _ _ _ _ _ _ _ _ _ _ _ _ _ _ _ _ _ _ _ _ _ _ _ _ _ _ _ _ _ _ _ _ _ _ _ _ _ _ _ _ _ _ _ _ _ _ _ _ _ _ _ _ _ _ _ _ _ _ _ _ _ (by omega)
set_option maxRecDepth 10000
structure NetAt (H:Heap) (p a R C g n:Nat) (A:Blk):Prop where
 net:H[p]?=some (netB R C a g n)
 arcs:H[a]?=some A
 ne:p ≠ a
 flat:∃ g' sz fl es,A=.cells g' sz fl es∧(fl=true ∨ es=[])
theorem NetAt.ren {H:Heap} {p a R C g n:Nat} {A:Blk} (h:NetAt H p a R C g n A) (f:Nat→Option Nat):renB f A=A:=by
 obtain ⟨g',sz,fl,es,rfl,hf⟩:=h.flat
 rcases hf with rfl | rfl
 · rfl
 · cases fl <;> rfl
theorem NetAt.reach {H:Heap} {p a R C g n:Nat} {A:Blk} (h:NetAt H p a R C g n A):reach H fuel0 [p] []=some [p,a]:=by
 obtain ⟨g',sz,fl,es,rfl,hf⟩:=h.flat
 have h3:=h.ne
 unfold fuel0
 rcases hf with rfl | rfl
 · simp [Tidy.reach,h.net,netB,refsL,AVal.refs,h.arcs,Ne.symm h3]
 · cases fl <;> simp [Tidy.reach,h.net,netB,refsL,AVal.refs,h.arcs,Ne.symm h3]
theorem NetAt.looks {H:Heap} {p a R C g n:Nat} {A:Blk} (h:NetAt H p a R C g n A):looks H fuel0 [p] []=some [p,a]:=by
 obtain ⟨g',sz,fl,es,rfl,hf⟩:=h.flat
 have h3:=h.ne
 unfold fuel0
 rcases hf with rfl | rfl
 · simp [Tidy.looks,h.net,netB,refsL,AVal.refs,h.arcs,Ne.symm h3]
 · cases fl <;> simp [Tidy.looks,h.net,netB,refsL,AVal.refs,h.arcs,Ne.symm h3]
theorem NetAt.idx {H:Heap} {p a R C g n:Nat} {A:Blk} (h:NetAt H p a R C g n A):idx [p,a] p=some 0∧Tidy.idx [p,a] a=some 1:=by
 have h3:=h.ne
 constructor
 · simp [Tidy.idx,List.findIdx?_cons]
 · simp [Tidy.idx,List.findIdx?_cons,h3]
theorem z4z {R C a g n a':Nat} {f:Nat→Option Nat} (h:f a=some a'):renB f (netB R C a g n)=netB R C a' g n:=by
 simp only [netB,renB,Bool.false_eq_true,if_false,renL,AVal.ren,h]
theorem NetAt.bs {H:Heap} {p a R C g n:Nat} {A:Blk} (h:NetAt H p a R C g n A):([netB R C a g n,A].map (renB (Tidy.idx [p,a])))=[netB R C 1 g n,A]:=by
 simp only [List.map_cons,List.map_nil,h.ren,z4z h.idx.2]
theorem z1g {f:Nat} {args:List AVal} {v w:AVal} {H H':Heap} {p a R C g n:Nat} {A:Blk} {ro nx:Nat} (hw:(env.hint f).whole=false) (hka:(env.hint f).keepAll=false) (hk:(env.hint f).keep=[]) (hro:(env.hint f).ro=true)
    (h:NetAt H p a R C g n A) (hl:lend H (env.hint f).lits (.ptr p 0 0 0 :: args) 0=some (.ptr p 0 0 0 :: args,[])) (ha:underL 0 args=true)
    (hr:runT env f (.ptr 0 0 0 0 :: args) [netB R C 1 g n,A] 2=some (.ret v,H')) (hb:handBack H' 2 [] 4 v=some w) (hn:noRef w=true):
    callT env f (.ptr p 0 0 0 :: args) ro H nx=some (.ret w,.ups []):=by
 have hh:=z3O (f:=f) (args:=.ptr p 0 0 0 :: args) (qs:=.ptr p 0 0 0 :: args) (lent:=[]) (fp:=[p,a]) (bs:=[netB R C a g n,A]) (H:=H) (H':=H') (v:=v) (w:=w) (ro:=ro) (nx:=nx) hw hka hk hl
  (by simp only [refsL,AVal.refs,refs_noRef.2 args ha,List.append_nil];exact h.reach) (by simp only [getAll,h.net,h.arcs]) (by rw [hro];simp)
  (by rw [h.bs,hro];simp only [renL,AVal.ren,h.idx.1,(ren_noRef _).2 args ha,if_true,List.length_cons,List.length_nil];exact hr) hb hn (.inl rfl)
 rw [hh,hro];rfl
theorem z5J {f:Nat} {args qs:List AVal} {lent:List Nat} {v w:AVal} {H X:Heap} {p a R C g n g' n':Nat} {A A':Blk} {nx:Nat} (hw:(env.hint f).whole=false) (hka:(env.hint f).keepAll=false) (hk:(env.hint f).keep=[]) (hro:(env.hint f).ro=false)
    (h:NetAt H p a R C g n A) (hl:lend H (env.hint f).lits (.ptr p 0 0 0 :: args) 0=some (.ptr p 0 0 0 :: qs,lent)) (ha:underL 0 qs=true) (hne:p ∉ lent∧a ∉ lent)
    (hr:runT env f (.ptr 0 0 0 0 :: qs) [netB R C 1 g n,A] 0=some (.ret v,netB R C 1 g' n' :: A' :: X)) (hA:∀ f,renB f A'=A') (hb:handBack (netB R C 1 g' n' :: A' :: X) 2 [] 4 v=some w) (hn:noRef w=true) (hll:lent=[] ∨ (w.noLit=true∧litFree A'=true)):
    callT env f (.ptr p 0 0 0 :: args) 0 H nx=some (.ret w,.ups [(p,netB R C a g' n'),(a,A')]):=by
 have hh:=z3O (f:=f) (args:=.ptr p 0 0 0 :: args) (qs:=.ptr p 0 0 0 :: qs) (lent:=lent) (fp:=[p,a]) (bs:=[netB R C a g n,A]) (H:=H) (H':=netB R C 1 g' n' :: A' :: X) (v:=v) (w:=w) (ro:=0) (nx:=nx) hw hka hk hl
  (by simp only [refsL,AVal.refs,refs_noRef.2 qs ha,List.append_nil];exact h.reach) (by simp only [getAll,h.net,h.arcs])
  (by
    have:(lent.all fun id=>![p,a].contains id)=true:=List.all_eq_true.2 fun id hid=>by
     have h1:id ≠ p:=fun e=>hne.1 (e ▸ hid)
     have h2:id ≠ a:=fun e=>hne.2 (e ▸ hid)
     simp [h1,h2]
    rw [this];simp)
  (by rw [h.bs,hro];simp only [renL,AVal.ren,h.idx.1,(ren_noRef _).2 qs ha,Bool.false_eq_true,if_false];exact hr) hb hn
  (by
    rcases hll with rfl | ⟨h1,h2⟩
    · exact .inl rfl
    · refine .inr ⟨h1,.inr ?_⟩
      have h3:litFree (netB R C 1 g' n')=true:=rfl
      simp [h3,h2])
 rw [hh,hro]
 have hbk:backF nx [p,a] [] 1=some a:=by simp [backF]
 simp only [Bool.false_eq_true,if_false,List.length_cons,List.length_nil,List.take_succ_cons,List.take_zero,List.map_cons,List.map_nil,hA,List.zip_cons_cons,List.zip_nil_right,z4z hbk]
def z40 (l:List Res):AVal:=.lit false (if l=[] then 0 else 6) (z0P l)
@[go_sem] theorem zQd (l:List Res) (m:Nat):(z40 l).under m=true:=rfl
theorem zJ4 {C:Heap} {k:Nat} (hk:C.length=k) (g:Nat) (l:List Res) (n:Nat) (hn:0 < n):handBack (C++[accB 6 g (z0P l)]) k [] n (.ref k (accG g (z0P l)) 0 (z0P l).length false)=some (z40 l):=by
 subst hk
 obtain ⟨n,rfl⟩:∃ m,n=m+1:=⟨n - 1,by omega⟩
 by_cases h:l=[]
 · subst h
   simp [handBack,accB,accG,z0P,z40,toLit,noRef,AVal.under,mapO]
 · have h2:z0P l ≠ []:=by unfold z0P;simpa using h
   have ht:List.take (z0P l).length (z0P l)=z0P l:=List.take_of_length_le (Nat.le_refl _)
   simp [handBack,accB,accG,h2,z40,h,toLit,noRef,AVal.under,ht]
theorem z0c (g:Nat) (G:Net) (f:Nat→Int):∃ g' sz fl es,arcB g G f=.cells g' sz fl es∧(fl=true ∨ es=[]):=⟨_,_,_,_,rfl,.inl rfl⟩
theorem z1P {H:Heap} {p:Nat} {lits:List Nat} {args:List AVal} (h0:lits.contains 0=false) (ha:underL 0 args=true):lend H lits (.ptr p 0 0 0 :: args) 0=some (.ptr p 0 0 0 :: args,[]):=by
 simp only [lend,lend_noRef H lits args 1 ha,h0,Bool.false_and,Bool.false_eq_true,if_false]
theorem zEj {H:Heap} {p a R C gn:Nat} {G:Net} {f gf:Nat→Int} (h:NetAt H p a R C gn G.n (arcB gn G f)) (hs:NetS G f gf) {gv:AVal} (hg:GainV gv G.n gf) (ro nx:Nat):
    callT env 145 [.ptr p 0 0 0,gv] ro H nx=some (.ret (z40 (G.ways f gf G.n)),.ups []):=by
 have hu:underL 0 [gv]=true:=by rcases hg with ⟨rfl,_⟩ | ⟨cl,x,xs,rfl,_⟩ <;> rfl
 obtain ⟨e,s,hx,rfl,g',jj,rfl⟩:=zLO (R:=R) (C:=C) (gn:=gn) hs hg G.n 0 0 _ _ _ _ _ _ _ _ _ _ _ _ _ _ _ _ _ _ _ _ _ _ _ _ _ _ _ _ _ _ _ _ _ _ _ _ _ _ _ _ _ _ _ _ _ _ _ _ _ _ _ _ _ _ _ _ _ _ _ _ _ _ _ (by omega)
 refine z1g (H':=netH R C gn G f++[accB 6 g' (z0P (G.ways f gf G.n))]) rfl rfl rfl rfl h (z1P rfl hu) hu ?_ (zJ4 rfl g' _ 4 (by decide)) rfl
 rw [run_unfold fn145 rfl]
 simp only [go_sem,simprocAttr,Try.f145,Int.ofNat_zero,Int.natCast_zero,netH,netB,arcB,show z0P (G.ways f gf 0)=[] from rfl,z1c,z1d] at hx
 simp only [go_sem,simprocAttr,Try.f145,netB,arcB,z1V]
 rw [hx]
 simp only [go_sem,simprocAttr,unwind,modeEx,resultsOf,one,netH,netB,arcB]
theorem z8Q {H:Heap} {p a R C g n:Nat} {A:Blk} (h:NetAt H p a R C g n A) (hR:R≤8) (hC:C≤8) (ro nx:Nat):callT env 135 [.ptr p 0 0 0] ro H nx=some (.ret (.int .i64 (1+R+C:Nat)),.ups []):=by
 have w1:IntKind.i64.wrap (1+(R:Int))=1+(R:Int):=i64_in _ (by omega)
 have w2:IntKind.i64.wrap (1+(R:Int)+C)=((1+R+C:Nat):Int):=by rw [i64_in _ (by omega)];omega
 have:∃ H',runT env 135 [.ptr 0 0 0 0] [netB R C 1 g n,A] 2=some (.ret (.int .i64 (1+R+C:Nat)),H'):=by
  rw [run_unfold fn135 rfl]
  simp only [go_sem,simprocAttr,Try.f135,netB,w1,w2,unwind,modeEx,resultsOf,one]
  exact ⟨_,rfl⟩
 obtain ⟨H',hr⟩:=this
 exact z1g rfl rfl rfl rfl h (z1P rfl rfl) rfl hr rfl rfl
theorem zCt {H:Heap} {p a R C g n:Nat} {A:Blk} (h:NetAt H p a R C g n A) {i:Nat} (hi:i≤8) (ro nx:Nat):callT env 123 [.ptr p 0 0 0,.int .i64 i] ro H nx=some (.ret (.int .i64 (1+i:Nat)),.ups []):=by
 have w1:IntKind.i64.wrap (1+(i:Int))=((1+i:Nat):Int):=by rw [i64_in _ (by omega)];omega
 have:∃ H',runT env 123 [.ptr 0 0 0 0,.int .i64 i] [netB R C 1 g n,A] 2=some (.ret (.int .i64 (1+i:Nat)),H'):=by
  rw [run_unfold fn123 rfl]
  simp only [go_sem,simprocAttr,Try.f123,netB,w1,unwind,modeEx,resultsOf,one]
  exact ⟨_,rfl⟩
 obtain ⟨H',hr⟩:=this
 exact z1g rfl rfl rfl rfl h (z1P rfl rfl) rfl hr rfl rfl
theorem zCG {H:Heap} {p a R C g n:Nat} {A:Blk} (h:NetAt H p a R C g n A) (hR:R≤8) {i:Nat} (hi:i≤8) (ro nx:Nat):callT env 124 [.ptr p 0 0 0,.int .i64 i] ro H nx=some (.ret (.int .i64 (1+R+i:Nat)),.ups []):=by
 have w1:IntKind.i64.wrap (1+(R:Int))=1+(R:Int):=i64_in _ (by omega)
 have w2:IntKind.i64.wrap (1+(R:Int)+i)=((1+R+i:Nat):Int):=by rw [i64_in _ (by omega)];omega
 have:∃ H',runT env 124 [.ptr 0 0 0 0,.int .i64 i] [netB R C 1 g n,A] 2=some (.ret (.int .i64 (1+R+i:Nat)),H'):=by
  rw [run_unfold fn124 rfl]
  simp only [go_sem,simprocAttr,Try.f124,netB,w1,w2,unwind,modeEx,resultsOf,one]
  exact ⟨_,rfl⟩
 obtain ⟨H',hr⟩:=this
 exact z1g rfl rfl rfl rfl h (z1P rfl rfl) rfl hr rfl rfl
set_option maxRecDepth 10000
theorem z7w {l:List Res} {i:Nat} {w:Res} (h:l[i]?=some w):(z0P l)[i]?=some (resV w):=by simp [z0P,h]
theorem z0w (l:List Res):(z0P l).length=l.length:=by simp [z0P]
theorem zKh {R C gn:Nat} {G:Net} {l:List Res} {cl:Bool} {sz:Nat} (hsz:l=[] ∨ sz=6) {d D:Int} (hd0:0≤d) (hdD:d≤D) (hl:∀ w ∈ l,w.arc < G.n) (hlen:l.length < 2 ^ 30):∀ (n i:Nat) (f:Nat→Int) (B:Int) (j1 j3 j4 j5 j6 j7 j11 j12 j13 j14 j15 j16 j17 j18 j19 j20 j21 j22 j23 j24 j25 j26 j27 j28 j29 j30 j31 j32 j33 j34 j35 j36 j37 j38 j39 j40 j41 j42:AVal),i+n=l.length→(∀ j,j < G.n→-B≤f j∧f j≤B)→B+n * D < 2 ^ 62 →
    Goes (execT env (Try.f138.at [1,0]) ⟨[.ptr 0 0 0 0,j1,.int .i64 d,j3,j4,j5,j6,j7,.lit cl sz (z0P l),.int .i64 l.length,.int .i64 i,j11,j12,j13,j14,j15,j16,j17,j18,j19,j20,j21,j22,j23,j24,j25,j26,j27,j28,j29,j30,j31,j32,j33,j34,j35,j36,j37,j38,j39,j40,j41,j42],netH R C gn G f,[],0,[]⟩) fun e s=>
     e=.exit 0∧FrP 43 [] (netH R C gn G (push f d (l.drop i))) [] 0 [] s:=by
 intro n
 induction n with
 | zero=>
   intro i f B;intros;rename_i hi _ _
   have hd:decide ((i:Int) < (l.length:Int))=false:=by simp;omega
   have hdr:l.drop i=[]:=List.drop_eq_nil_of_le (by omega)
   simp only [go_sem,simprocAttr,Try.f138]
   rw [exec_loop]
   simp only [go_sem,simprocAttr,hd,hdr,push]
   exact frP (by kernel_rfl)
 | succ n ih=>
   intro i f B;intros;rename_i hi hB hBD
   have hd:decide ((i:Int) < (l.length:Int))=true:=by simp;omega
   have h0:(0:Int)≤(i:Int):=by omega
   obtain ⟨w,hw,hdr⟩:=z0T (show i < l.length by omega)
   have hz:=z1b hsz hw
   have hw':=z7w hw
   have hwn:=hl w (List.mem_of_getElem? hw)
   have hwd:decide ((w.arc:Int) < (G.n:Int))=true:=by simp;omega
   have hw0:(0:Int)≤(w.arc:Int):=by omega
   have ha:=z4O (f:=f) hwn
   have hBw:=hB w.arc hwn
   have hn1:((n+1:Nat):Int) * D=n * D+D:=by rw [show ((n+1:Nat):Int)=(n:Int)+1 by omega,Int.add_mul];omega
   have hnD:0≤(n:Int) * D:=Int.mul_nonneg (by omega) (by omega)
   rw [hn1] at hBD
   rw [hdr]
   cases hb:w.back with
   | true=>
     have w1:IntKind.i64.wrap (f w.arc - d)=f w.arc - d:=i64_in _ (by omega)
     have hs1:=z9N (G:=G) (f:=f) (j:=w.arc) (v:=f w.arc - d)
     have ih':=ih (i+1) (updF f w.arc (f w.arc - d)) (B+D)
     have e1:push f d (w :: l.drop (i+1))=push (updF f w.arc (f w.arc - d)) d (l.drop (i+1)):=by simp only [push,hb,if_true]
     rw [e1]
     simp only [go_sem,simprocAttr,Try.f138,hz,netH,netB,arcB] at ih' ⊢
     rw [exec_loop]
     simp only [go_sem,simprocAttr,hd,h0,Int.toNat_natCast,hw',hz,hb,hwd,hw0,ha,w1,hs1,z1V]
     rw [apart_ok]
     · simp only [go_sem,simprocAttr,trunc,List.map_cons,List.map_nil,z00 (show i < 2 ^ 63 - 1 by omega)]
       refine ih' _ _ _ _ _ _ _ _ _ _ _ _ _ _ _ _ _ _ _ _ _ _ _ _ _ _ _ _ _ _ _ _ _ _ _ _ _ _ (by omega) (fun j hj=>?_) (by omega)
       have:=hB j hj
       unfold updF
       split <;> omega
     · kernel_rfl
   | false=>
     have w1:IntKind.i64.wrap (f w.arc+d)=f w.arc+d:=i64_in _ (by omega)
     have hs1:=z9N (G:=G) (f:=f) (j:=w.arc) (v:=f w.arc+d)
     have ih':=ih (i+1) (updF f w.arc (f w.arc+d)) (B+D)
     have e1:push f d (w :: l.drop (i+1))=push (updF f w.arc (f w.arc+d)) d (l.drop (i+1)):=by simp only [push,hb,Bool.false_eq_true,if_false]
     rw [e1]
     simp only [go_sem,simprocAttr,Try.f138,hz,netH,netB,arcB] at ih' ⊢
     rw [exec_loop]
     simp only [go_sem,simprocAttr,hd,h0,Int.toNat_natCast,hw',hz,hb,hwd,hw0,ha,w1,hs1,z1V]
     rw [apart_ok]
     · simp only [go_sem,simprocAttr,trunc,List.map_cons,List.map_nil,z00 (show i < 2 ^ 63 - 1 by omega)]
       refine ih' _ _ _ _ _ _ _ _ _ _ _ _ _ _ _ _ _ _ _ _ _ _ _ _ _ _ _ _ _ _ _ _ _ _ _ _ _ _ (by omega) (fun j hj=>?_) (by omega)
       have:=hB j hj
       unfold updF
       split <;> omega
     · kernel_rfl
theorem zI4 {l:List Res} {cl:Bool} {sz:Nat} (hsz:l=[] ∨ sz=6) (hlen:l.length < 2 ^ 30):∀ (n i:Nat) (b:Int) (j0 j1 j2 j4 j5 j9 j10 j11 j12 j13 j14 j15 j16 j17:AVal),i+n=l.length →
    Goes (execT env (Try.f139.at [1,1,0,1,0]) ⟨[j0,j1,j2,.int .i64 b,j4,j5,.lit cl sz (z0P l),.int .i64 l.length,.int .i64 i,j9,j10,j11,j12,j13,j14,j15,j16,j17],[],[],0,[]⟩) fun e s=>
     e=.exit 0∧FrP 18 [(3,.int .i64 ((l.drop i).foldl (fun b w=>min b w.room) b))] [] [] 0 [] s:=by
 intro n
 induction n with
 | zero=>
   intro i b;intros;rename_i hi
   have hd:decide ((i:Int) < (l.length:Int))=false:=by simp;omega
   have hdr:l.drop i=[]:=List.drop_eq_nil_of_le (by omega)
   simp only [go_sem,simprocAttr,Try.f139]
   rw [exec_loop]
   simp only [go_sem,simprocAttr,hd,hdr,List.foldl_nil]
   exact frP (by kernel_rfl)
 | succ n ih=>
   intro i b;intros;rename_i hi
   have hd:decide ((i:Int) < (l.length:Int))=true:=by simp;omega
   have h0:(0:Int)≤(i:Int):=by omega
   obtain ⟨w,hw,hdr⟩:=z0T (show i < l.length by omega)
   have hz:=z1b hsz hw
   have hw':=z7w hw
   have hm:(if w.room < b then w.room else b)=min b w.room:=by rw [Int.min_def];split <;> split <;> omega
   have ih':=ih (i+1) (min b w.room)
   rw [hdr,List.foldl_cons]
   simp only [go_sem,simprocAttr,Try.f139,hz] at ih' ⊢
   rw [exec_loop]
   simp only [go_sem,simprocAttr,hd,h0,Int.toNat_natCast,hw',hz,minL,hm,trunc,List.map_cons,List.map_nil,z00 (show i < 2 ^ 63 - 1 by omega)]
   exact ih' _ _ _ _ _ _ _ _ _ _ _ _ _ _ (by omega)
theorem zBa {l:List Res} {cl:Bool} {sz:Nat} (hsz:l=[] ∨ sz=6) (hlen:l.length < 2 ^ 30) (ro:Nat) (H:Heap) (nx:Nat):callT env 139 [.lit cl sz (z0P l)] ro H nx=some (.ret (.int .i64 (z26 l)),.ups []):=by
 obtain ⟨e,s,hx,rfl,jj,rfl⟩:=zI4 hsz hlen (cl:=cl) l.length 0 (2 ^ 40) _ _ _ _ _ _ _ _ _ _ _ _ _ _ (by omega)
 refine call_pure (H':=[]) rfl rfl rfl (by simp [underL,AVal.under]) ?_ rfl ro H nx
 rw [run_unfold fn139 rfl]
 simp only [go_sem,simprocAttr,Try.f139,Int.ofNat_zero,Int.natCast_zero,List.drop_zero] at hx
 simp only [go_sem,simprocAttr,Try.f139,z0w]
 rw [hx]
 simp only [go_sem,simprocAttr,unwind,modeEx,resultsOf,one,z26]
theorem zE2 {H:Heap} {p a R C gn:Nat} {G:Net} {f:Nat→Int} (h:NetAt H p a R C gn G.n (arcB gn G f)) {l:List Res} {cl:Bool} {sz:Nat} (hsz:l=[] ∨ sz=6) {d:Int} (hd0:0≤d) (hdD:d≤2 ^ 40) (hl:∀ w ∈ l,w.arc < G.n) (hlen:l.length≤1000) (hf:∀ j,j < G.n→0≤f j∧f j≤2 ^ 30) (nx:Nat):
    callT env 138 [.ptr p 0 0 0,.lit cl sz (z0P l),.int .i64 d] 0 H nx=some (.ret (.tuple []),.ups [(p,netB R C a gn G.n),(a,arcB gn G (push f d l))]):=by
 obtain ⟨e,s,hx,rfl,jj,rfl⟩:=zKh (R:=R) (C:=C) (gn:=gn) (cl:=cl) hsz hd0 hdD hl (by omega) l.length 0 f (2 ^ 30) _ _ _ _ _ _ _ _ _ _ _ _ _ _ _ _ _ _ _ _ _ _ _ _ _ _ _ _ _ _ _ _ _ _ _ _ _ _ (by omega) (fun j hj=>by have:=hf j hj;omega) (by omega)
 refine z5J (X:=[]) (v:=.tuple []) (lent:=[]) rfl rfl rfl rfl h (z1P rfl rfl) rfl (by simp) ?_ (fun _=>rfl) rfl rfl (.inl rfl)
 rw [run_unfold fn138 rfl]
 simp only [go_sem,simprocAttr,Try.f138,Int.ofNat_zero,Int.natCast_zero,List.drop_zero,netH,netB,arcB] at hx
 simp only [go_sem,simprocAttr,Try.f138,z0w,netB,arcB]
 rw [hx]
 simp only [go_sem,simprocAttr,unwind,modeEx,resultsOf,one,netH,netB,arcB]
set_option maxRecDepth 10000
set_option maxHeartbeats 1000000
@[go_sem] theorem zTS (x w:Res):z0J (resV x) 0 (resV w)=some (resV w):=rfl
@[go_sem] theorem zTT (x y:Spn):z0J (spV x) 0 (spV y)=some (spV y):=rfl
@[go_sem] theorem zUW (x:Spn) (n:Int):z0J (spV x) 0 (.int .i64 n)=some (spV ⟨n,x.hi⟩):=rfl
@[go_sem] theorem zUV (x:Spn) (n:Int):z0J (spV x) 1 (.int .i64 n)=some (spV ⟨x.lo,n⟩):=rfl
def z0A (l:List Bool):List AVal:=l.map AVal.bool
theorem z0f {l:List Bool} {i:Nat} (h:i < l.length):(z0A l)[i]?=some (.bool (l.getD i false)):=by simp [z0A,h]
theorem zBJ (l:List Bool) (i:Nat) (b:Bool):(z0A l).set i (.bool b)=z0A (l.set i b):=by simp [z0A,List.map_set]
theorem z0K (l:List Bool):(z0A l).length=l.length:=by simp [z0A]
theorem z8Z {l:List Res} {i:Nat} (h:i < l.length):(z0P l)[i]?=some (resV (l.getD i default)):=by simp [z0P,h]
theorem zLN (l:List Res) (i:Nat) (w:Res):(z0P l).set i (resV w)=z0P (l.set i w):=by simp [z0P,List.map_set]
def z2U (l:List Bool):AVal:=.lit false 1 (z0A l)
@[go_sem] theorem zNr (l:List Bool) (m:Nat):(z2U l).under m=true:=rfl
def z8m (l:List Nat):List AVal:=l.map fun (v:Nat)=>.int .i64 (v:Int)
structure QRep (bs:List AVal) (off:Nat) (q:List Nat):Prop where
 drop:bs.drop off=z8m q
 len:bs.length=off+q.length
 flat:bs.all noRef=true
 ne:bs ≠ []
def z3R (R C gn:Nat) (G:Net) (f:Nat→Int) (s:Bf) (g:Nat) (bs:List AVal):Heap:=[netB R C 1 gn G.n,arcB gn G f,.cells 0 1 true (z0A s.met),.cells 0 6 true (z0P s.last),.cells g 1 true bs]
theorem zLk {H:Heap} {g off:Nat} {bs:List AVal} {q:List Nat} (hH:H[4]?=some (.cells g 1 true bs)) (hq:QRep bs off q) (hlen:q.length < 2 ^ 30) {cl:Bool} (v nx:Nat):
    z0H env 2 nx 51 (.ref 4 g off q.length false) (.lit cl 1 [.int .i64 v]) H=some (.ref 4 (g+1) 0 (q.length+1) false,[(4,.cells (g+1) 1 true (z8m (q++[v])))])∧QRep (z8m (q++[v])) 0 (q++[v]):=by
 have h1:¬ (off+q.length+1≤bs.length):=by rw [hq.len];omega
 have h2:off+q.length≤bs.length:=by rw [hq.len];omega
 have h3:bs.isEmpty=false:=by cases bs with
  | nil=>exact absurd rfl hq.ne
  | cons _ _=>rfl
 have h4:(q.length+1) * 9≤z04:=by unfold z04;omega
 constructor
 · simp only [z0H,ti51,ti3,z16,hH,List.length_singleton,hq.drop]
   simp [hq.len,h3,h4,noRef,AVal.under,AVal.cellsOf,AVal.isTuple,z8m]
 · refine ⟨rfl,by simp [z8m],?_,by simp [z8m]⟩
   simp [z8m,noRef,AVal.under]
theorem zI9 {R C gn:Nat} {G:Net} {f:Nat→Int} {ws:List Res} (hws:∀ w ∈ ws,w.to < G.N) (hwl:ws.length < 2 ^ 29) {a:Nat} {v0 v1 v2:AVal} (hv:v0.under 5=true∧v1.under 5=true∧v2.under 5=true):∀ (n i:Nat) (s:Bf) (g off:Nat) (bs:List AVal) (j3 j4 j5 j6 j7 j13 j14 j15 j16 j17 j18 j19 j20 j21 j22 j23 j24 j25 j26 j27 j28 j29 j30 j31 j32 j33 j34 j35 j36 j37 j41 j42 j43 j44 j45 j46 j47 j48 j49 j50 j51 j52 j53 j54 j55 j56 j57 j58 j59 j60 j61 j62 j63 j64 j65 j66 j67 j68 j69 j70 j71 j72 j73 j74 j75 j76 j77 j78 j79 j80 j81 j82 j83 j84 j85 j86 j87 j88 j89 j90 j91 j92 j93 j94:AVal),i+n=ws.length→QRep bs off s.q→s.met.length=G.N→s.last.length=G.N→s.q.length+n < 2 ^ 30 →
    Goes (execT env (Try.f144.at [1,1,1,1,1,1,0,0,0,1,0,1,1,1,0]) ⟨[v0,v1,v2,j3,j4,j5,j6,j7,z40 ws,.ref 2 0 0 G.N false,.ref 3 0 0 G.N false,.ref 4 g off s.q.length false,.int .i64 a,j13,j14,j15,j16,j17,j18,j19,j20,j21,j22,j23,j24,j25,j26,j27,j28,j29,j30,j31,j32,j33,j34,j35,j36,j37,z40 ws,.int .i64 ws.length,.int .i64 i,j41,j42,j43,j44,j45,j46,j47,j48,j49,j50,j51,j52,j53,j54,j55,j56,j57,j58,j59,j60,j61,j62,j63,j64,j65,j66,j67,j68,j69,j70,j71,j72,j73,j74,j75,j76,j77,j78,j79,j80,j81,j82,j83,j84,j85,j86,j87,j88,j89,j90,j91,j92,j93,j94],z3R R C gn G f s g bs,[],2,[15,29]⟩) fun e s'=>
     e=.exit 2∧∃ (g' off':Nat) (bs':List AVal),QRep bs' off' ((ws.drop i).foldl (z1e a) s).q∧FrP 95 [(0,v0),(1,v1),(2,v2),(8,z40 ws),(9,.ref 2 0 0 G.N false),(10,.ref 3 0 0 G.N false),(11,.ref 4 g' off' ((ws.drop i).foldl (z1e a) s).q.length false)] (z3R R C gn G f ((ws.drop i).foldl (z1e a) s) g' bs') [] 2 [15,29] s':=by
 intro n
 induction n with
 | zero=>
   intro i s g off bs;intros;rename_i hi hq _ _ _
   have hd:decide ((i:Int) < (ws.length:Int))=false:=by simp;omega
   have hdr:ws.drop i=[]:=List.drop_eq_nil_of_le (by omega)
   simp only [go_sem,simprocAttr,Try.f144]
   rw [exec_loop,hdr]
   simp only [go_sem,simprocAttr,hd,List.foldl_nil]
   exact ⟨g,off,bs,hq,frP (by kernel_rfl)⟩
 | succ n ih=>
   intro i s g off bs;intros;rename_i hi hq hm hl hqn
   have hd:decide ((i:Int) < (ws.length:Int))=true:=by simp;omega
   have h0:(0:Int)≤(i:Int):=by omega
   obtain ⟨w,hw,hdr⟩:=z0T (show i < ws.length by omega)
   have hw':=z7w hw
   have hwN:=hws w (List.mem_of_getElem? hw)
   have hne:ws ≠ []:=by rintro rfl;simp at hw
   have hsz:(if ws=[] then 0 else 6)=6:=if_neg hne
   have hto:decide ((w.to:Int) < (G.N:Int))=true:=by simp;omega
   have ht0:(0:Int)≤(w.to:Int):=by omega
   have hmg:=z0f (l:=s.met) (i:=w.to) (by omega)
   have est:decide ((w.start:Int)=(a:Int))=decide (w.start=a):=by simp only [decide_eq_decide];omega
   obtain ⟨hv0,hv1,hv2⟩:=hv
   have s0:scrub 5 v0=v0:=by unfold scrub;rw [if_pos hv0]
   have s1:scrub 5 v1=v1:=by unfold scrub;rw [if_pos hv1]
   have s2:scrub 5 v2=v2:=by unfold scrub;rw [if_pos hv2]
   rw [hdr,List.foldl_cons]
   by_cases hst:w.start=a
   · have d1:decide (w.start=a)=true:=decide_eq_true hst
     cases hmm:s.met.getD w.to false with
     | true=>
       have e1:z1e a s w=s:=by unfold z1e;rw [if_neg (by rw [hmm];simp)]
       rw [e1]
       have ih':=ih (i+1) s g off bs
       simp only [go_sem,simprocAttr,Try.f144,z40,z3R,netB,arcB,hsz] at ih' ⊢
       rw [exec_loop]
       simp only [go_sem,simprocAttr,hd,h0,Int.toNat_natCast,hw',est,d1,hto,ht0,hmg,hmm,trunc,List.map_cons,List.map_nil,s0,s1,s2,z00 (show i < 2 ^ 63 - 1 by omega)]
       exact ih' _ _ _ _ _ _ _ _ _ _ _ _ _ _ _ _ _ _ _ _ _ _ _ _ _ _ _ _ _ _ _ _ _ _ _ _ _ _ _ _ _ _ _ _ _ _ _ _ _ _ _ _ _ _ _ _ _ _ _ _ _ _ _ _ _ _ _ _ _ _ _ _ _ _ _ _ _ _ _ _ _ _ _ _ (by omega) hq hm hl (by omega)
     | false=>
       have e1:z1e a s w=⟨s.met.set w.to true,s.last.set w.to w,s.q++[w.to]⟩:=by unfold z1e;rw [if_pos ⟨hst,hmm⟩]
       rw [e1]
       obtain ⟨a1,a2⟩:=zLk (H:=[netB R C 1 gn G.n,arcB gn G f,.cells 0 1 true (z0A (s.met.set w.to true)),.cells 0 6 true (z0P (s.last.set w.to w)),.cells g 1 true bs,.cells 0 6 true [resV w]]) (cl:=true) rfl hq (by omega) w.to 6
       have b1:=zBJ s.met w.to true
       have b2:=zLN s.last w.to w
       have l1:w.to < (z0P s.last).length:=by rw [z0w];omega
       have g2:=z8Z (l:=s.last) (i:=w.to) (by omega)
       have ih':=ih (i+1) ⟨s.met.set w.to true,s.last.set w.to w,s.q++[w.to]⟩ (g+1) 0 (z8m (s.q++[w.to]))
       simp only [List.length_append,List.length_singleton] at ih'
       simp only [go_sem,simprocAttr,Try.f144,z40,z3R,netB,arcB,hsz] at a1 ih' ⊢
       rw [exec_loop]
       simp only [go_sem,simprocAttr,hd,h0,Int.toNat_natCast,hw',est,d1,hto,ht0,hmg,hmm,b1,b2,g2,a1,trunc,List.map_cons,List.map_nil,s0,s1,s2,z00 (show i < 2 ^ 63 - 1 by omega)]
       exact ih' _ _ _ _ _ _ _ _ _ _ _ _ _ _ _ _ _ _ _ _ _ _ _ _ _ _ _ _ _ _ _ _ _ _ _ _ _ _ _ _ _ _ _ _ _ _ _ _ _ _ _ _ _ _ _ _ _ _ _ _ _ _ _ _ _ _ _ _ _ _ _ _ _ _ _ _ _ _ _ _ _ _ _ _ (by omega) a2 (by simpa using hm) (by simpa using hl) (by omega)
   · have d1:decide (w.start=a)=false:=decide_eq_false hst
     have e1:z1e a s w=s:=by unfold z1e;rw [if_neg (fun h=>hst h.1)]
     rw [e1]
     have ih':=ih (i+1) s g off bs
     simp only [go_sem,simprocAttr,Try.f144,z40,z3R,netB,arcB,hsz] at ih' ⊢
     rw [exec_loop]
     simp only [go_sem,simprocAttr,hd,h0,Int.toNat_natCast,hw',est,d1,hto,ht0,trunc,List.map_cons,List.map_nil,s0,s1,s2,z00 (show i < 2 ^ 63 - 1 by omega)]
     exact ih' _ _ _ _ _ _ _ _ _ _ _ _ _ _ _ _ _ _ _ _ _ _ _ _ _ _ _ _ _ _ _ _ _ _ _ _ _ _ _ _ _ _ _ _ _ _ _ _ _ _ _ _ _ _ _ _ _ _ _ _ _ _ _ _ _ _ _ _ _ _ _ _ _ _ _ _ _ _ _ _ _ _ _ _ (by omega) hq hm hl (by omega)
set_option maxRecDepth 10000
set_option maxHeartbeats 1000000
theorem zJz (a:Nat):∀ (us:List Res) (s:Bf),(us.foldl (z1e a) s).met.length=s.met.length∧(us.foldl (z1e a) s).last.length=s.last.length∧(us.foldl (z1e a) s).q.length≤s.q.length+us.length
 | [],s=>⟨rfl,rfl,by simp⟩
 | w :: us,s=>by
   obtain ⟨h1,h2,h3⟩:=zJz a us (z1e a s w)
   have h4:(z1e a s w).met.length=s.met.length∧(z1e a s w).last.length=s.last.length∧(z1e a s w).q.length≤s.q.length+1:=by
    unfold z1e;split <;> simp
   simp only [List.foldl_cons,List.length_cons]
   exact ⟨by rw [h1,h4.1],by rw [h2,h4.2.1],by have:=h4.2.2;omega⟩
theorem zQT {H:Heap} {g off len:Nat} {bs:List AVal} (hH:H[4]?=some (.cells g 1 true bs)) (hl:bs.length=off+(len+1)):z0g env H 51 (.ref 4 g off (len+1) false) (some (.int .i64 1)) none none=some (.ref 4 g (off+1) len false):=by
 simp [z0g,ti51,ti3,hH,z0Y]
theorem zIA {R C gn:Nat} {G:Net} {f:Nat→Int} {ws:List Res} (hws:∀ w ∈ ws,w.to < G.N) (hwl:ws.length < 2 ^ 20) {v0 v1 v2:AVal} (hv:v0.under 5=true∧v1.under 5=true∧v2.under 5=true):∀ (n:Nat) (s s':Bf) (g off:Nat) (bs:List AVal) (j3 j4 j5 j6 j7 j12 j13 j14 j15 j16 j17 j18 j19 j20 j21 j22 j23 j24 j25 j26 j27 j28 j29 j30 j31 j32 j33 j34 j35 j36 j37 j38 j39 j40 j41 j42 j43 j44 j45 j46 j47 j48 j49 j50 j51 j52 j53 j54 j55 j56 j57 j58 j59 j60 j61 j62 j63 j64 j65 j66 j67 j68 j69 j70 j71 j72 j73 j74 j75 j76 j77 j78 j79 j80 j81 j82 j83 j84 j85 j86 j87 j88 j89 j90 j91 j92 j93 j94:AVal),bfs ws n s=some s'→QRep bs off s.q→s.met.length=G.N→s.last.length=G.N→s.q.length+n * ws.length < 2 ^ 30 →
    Goes (execT env (Try.f144.at [1,1,1,1,1,1,0,0]) ⟨[v0,v1,v2,j3,j4,j5,j6,j7,z40 ws,.ref 2 0 0 G.N false,.ref 3 0 0 G.N false,.ref 4 g off s.q.length false,j12,j13,j14,j15,j16,j17,j18,j19,j20,j21,j22,j23,j24,j25,j26,j27,j28,j29,j30,j31,j32,j33,j34,j35,j36,j37,j38,j39,j40,j41,j42,j43,j44,j45,j46,j47,j48,j49,j50,j51,j52,j53,j54,j55,j56,j57,j58,j59,j60,j61,j62,j63,j64,j65,j66,j67,j68,j69,j70,j71,j72,j73,j74,j75,j76,j77,j78,j79,j80,j81,j82,j83,j84,j85,j86,j87,j88,j89,j90,j91,j92,j93,j94],z3R R C gn G f s g bs,[],2,[15,29]⟩) fun e t=>
     e=.exit 0∧s'.met.length=G.N∧s'.last.length=G.N∧∃ (g':Nat) (bs':List AVal),FrP 95 [(0,v0),(1,v1),(2,v2),(9,.ref 2 0 0 G.N false),(10,.ref 3 0 0 G.N false)] (z3R R C gn G f s' g' bs') [] 2 [15,29] t:=by
 intro n
 induction n with
 | zero=>intro s s' g off bs j3 j4 j5 j6 j7 j12 j13 j14 j15 j16 j17 j18 j19 j20 j21 j22 j23 j24 j25 j26 j27 j28 j29 j30 j31 j32 j33 j34 j35 j36 j37 j38 j39 j40 j41 j42 j43 j44 j45 j46 j47 j48 j49 j50 j51 j52 j53 j54 j55 j56 j57 j58 j59 j60 j61 j62 j63 j64 j65 j66 j67 j68 j69 j70 j71 j72 j73 j74 j75 j76 j77 j78 j79 j80 j81 j82 j83 j84 j85 j86 j87 j88 j89 j90 j91 j92 j93 j94 h;simp [bfs] at h
 | succ n ih=>
   intro s s' g off bs;intros;rename_i hb hq hm hl hqn
   unfold bfs at hb
   cases hsq:s.q with
   | nil=>
     rw [hsq] at hb
     cases hb
     have d0:decide ((0:Int) < ((0:Nat):Int))=false:=rfl
     simp only [go_sem,simprocAttr,Try.f144]
     rw [exec_loop]
     simp only [go_sem,simprocAttr,Int.natCast_zero,Int.ofNat_zero,Int.lt_irrefl,decide_false]
     exact ⟨hm,hl,g,bs,frP (by kernel_rfl)⟩
   | cons a q=>
     rw [hsq] at hb hq hqn
     simp only at hb
     have hn1:(n+1) * ws.length=n * ws.length+ws.length:=by rw [Nat.succ_mul]
     rw [hn1] at hqn
     simp only [List.length_cons] at hqn
     have hbl:bs.length=off+(q.length+1):=by rw [hq.len,List.length_cons]
     have hbo:bs[off]?=some (.int .i64 a):=by
      have:=congrArg (fun l=>l[0]?) hq.drop
      simp only [List.getElem?_drop,Nat.add_zero] at this
      rw [this];rfl
     have hq':QRep bs (off+1) q:=⟨by
      have:=congrArg (List.drop 1) hq.drop
      rw [List.drop_drop] at this
      rw [this];rfl,by omega,hq.flat,hq.ne⟩
     have dp:decide ((0:Int) < ((q.length+1:Nat):Int))=true:=by simp
     have hsl:=zQT (H:=[netB R C 1 gn G.n,arcB gn G f,.cells 0 1 true (z0A s.met),.cells 0 6 true (z0P s.last),.cells g 1 true bs]) rfl hbl
     obtain ⟨k1,k2,k3⟩:=zJz a ws { s with q:=q }
     obtain ⟨e,t,hx,rfl,g1,off1,bs1,hq1,jp,rfl⟩:=zI9 (R:=R) (C:=C) (gn:=gn) (f:=f) hws (by omega) (a:=a) hv ws.length 0 { s with q:=q } g (off+1) bs _ _ _ _ _ _ _ _ _ _ _ _ _ _ _ _ _ _ _ _ _ _ _ _ _ _ _ _ _ _ _ _ _ _ _ _ _ _ _ _ _ _ _ _ _ _ _ _ _ _ _ _ _ _ _ _ _ _ _ _ _ _ _ _ _ _ _ _ _ _ _ _ _ _ _ _ _ _ _ _ _ _ _ _ (by omega) hq' hm hl (by show q.length+ws.length < 2 ^ 30;omega)
     rw [List.drop_zero] at hq1 hx
     have ih':=ih (ws.foldl (z1e a) { s with q:=q }) s' g1 off1 bs1
     simp only [go_sem,simprocAttr,Try.f144,z40,z3R,netB,arcB,Int.ofNat_zero,Int.natCast_zero] at hsl hx ih' ⊢
     rw [exec_loop]
     simp only [go_sem,simprocAttr,dp,hbo,hsl,z0w]
     rw [hx]
     simp only [go_sem,simprocAttr]
     exact ih' _ _ _ _ _ _ _ _ _ _ _ _ _ _ _ _ _ _ _ _ _ _ _ _ _ _ _ _ _ _ _ _ _ _ _ _ _ _ _ _ _ _ _ _ _ _ _ _ _ _ _ _ _ _ _ _ _ _ _ _ _ _ _ _ _ _ _ _ _ _ _ _ _ _ _ _ _ _ _ _ _ _ _ _ _ _ _ _ hb hq1 (by rw [k1];exact hm) (by rw [k2];exact hl) (by have:=k3;simp only at this;omega)
theorem zKd {R C gn:Nat} {G:Net} {f:Nat→Int} {s:Bf} {g:Nat} {bs:List AVal} {from':Nat} (hl:s.last.length=G.N) (hst:∀ v,v < G.N→(s.last.getD v default).start < G.N):∀ (n a:Nat) (out l:List Res) (ga:Nat) (j0 j2 j3 j4 j5 j6 j7 j8 j11 j12 j13 j14 j17 j18 j19 j20 j21 j22 j23 j24 j25 j26 j27 j28 j29 j30 j31 j32 j33 j34 j35 j36 j37 j38 j39 j40 j41 j42 j43 j44 j45 j46 j47 j48 j49 j50 j51 j52 j53 j54 j55 j56 j57 j58 j59 j60 j61 j62 j63 j64 j65 j66 j67 j68 j69 j70 j71 j72 j73 j74 j75 j76 j77 j78 j79 j80 j81 j82 j83 j84 j85 j86 j87 j88 j89 j90 j91 j92 j93 j94:AVal),z3B s.last from' n a out=some l→a < G.N→out.length+n < 2 ^ 20 →
    Goes (execT env (Try.f144.at [1,1,1,1,1,1,1,1,1,0,1,0]) ⟨[j0,.int .i64 from',j2,j3,j4,j5,j6,j7,j8,.ref 2 0 0 G.N false,.ref 3 0 0 G.N false,j11,j12,j13,j14,.ref 5 (accG ga (z0P out)) 0 (z0P out).length false,.int .i64 a,j17,j18,j19,j20,j21,j22,j23,j24,j25,j26,j27,j28,j29,j30,j31,j32,j33,j34,j35,j36,j37,j38,j39,j40,j41,j42,j43,j44,j45,j46,j47,j48,j49,j50,j51,j52,j53,j54,j55,j56,j57,j58,j59,j60,j61,j62,j63,j64,j65,j66,j67,j68,j69,j70,j71,j72,j73,j74,j75,j76,j77,j78,j79,j80,j81,j82,j83,j84,j85,j86,j87,j88,j89,j90,j91,j92,j93,j94],z3R R C gn G f s g bs++[accB 6 ga (z0P out)],[],2,[15,29]⟩) fun e t=>
     e=.exit 4∧∃ (ga':Nat),FrP 95 [(9,.ref 2 0 0 G.N false),(15,.ref 5 (accG ga' (z0P l)) 0 (z0P l).length false)] (z3R R C gn G f s g bs++[accB 6 ga' (z0P l)]) [] 2 [15,29] t:=by
 intro n
 induction n with
 | zero=>intro a out l ga j0 j2 j3 j4 j5 j6 j7 j8 j11 j12 j13 j14 j17 j18 j19 j20 j21 j22 j23 j24 j25 j26 j27 j28 j29 j30 j31 j32 j33 j34 j35 j36 j37 j38 j39 j40 j41 j42 j43 j44 j45 j46 j47 j48 j49 j50 j51 j52 j53 j54 j55 j56 j57 j58 j59 j60 j61 j62 j63 j64 j65 j66 j67 j68 j69 j70 j71 j72 j73 j74 j75 j76 j77 j78 j79 j80 j81 j82 j83 j84 j85 j86 j87 j88 j89 j90 j91 j92 j93 j94 h;simp [z3B] at h
 | succ n ih=>
   intro a out l ga;intros;rename_i hb ha hlen
   unfold z3B at hb
   by_cases he:a=from'
   · rw [if_pos he] at hb
     cases hb
     have d0:decide ((a:Int)=(from':Int))=true:=decide_eq_true (by omega)
     simp only [go_sem,simprocAttr,Try.f144,z3R]
     rw [exec_loop]
     simp only [go_sem,simprocAttr,d0]
     exact ⟨ga,frP (by kernel_rfl)⟩
   · rw [if_neg he] at hb
     have d0:decide ((a:Int)=(from':Int))=false:=by simp;omega
     have ha0:(0:Int)≤(a:Int):=by omega
     have hto:decide ((a:Int) < (G.N:Int))=true:=by simp;omega
     have g2:=z8Z (l:=s.last) (i:=a) (by omega)
     obtain ⟨g1,a1⟩:=z4N (H:=[netB R C 1 gn G.n,arcB gn G f,.cells 0 1 true (z0A s.met),.cells 0 6 true (z0P s.last),.cells g 1 true bs,accB 6 ga (z0P out)]) (id:=5) (cl:=true) (v:=resV (s.last.getD a default)) rfl rfl (by rw [z0w];omega) 6 (ro:=2) (by decide)
     have e1:z0P (out++[s.last.getD a default])=z0P out++[resV (s.last.getD a default)]:=by simp [z0P]
     have ih':=ih (s.last.getD a default).start (out++[s.last.getD a default]) l g1
     rw [e1] at ih'
     simp only [go_sem,simprocAttr,Try.f144,z3R,netB,arcB] at a1 ih' ⊢
     rw [exec_loop]
     simp only [go_sem,simprocAttr,d0,ha0,Int.toNat_natCast,hto,g2,a1]
     exact ih' _ _ _ _ _ _ _ _ _ _ _ _ _ _ _ _ _ _ _ _ _ _ _ _ _ _ _ _ _ _ _ _ _ _ _ _ _ _ _ _ _ _ _ _ _ _ _ _ _ _ _ _ _ _ _ _ _ _ _ _ _ _ _ _ _ _ _ _ _ _ _ _ _ _ _ _ _ _ _ _ _ _ _ _ _ _ _ _ _ _ hb (hst a ha) (by simp;omega)
def zUY (ws:List Res) (N from' to:Nat) (v:AVal):Prop:=∃ b,bfs ws (N+1) (bf0 N from')=some b∧((b.met.getD to false=false∧v=.tuple [.lit true 0 [],z2U b.met]) ∨ (b.met.getD to false=true∧∃ l,z3B b.last from' (N+1) to []=some l∧v=.tuple [z40 l,z2U b.met]))
theorem zBZ {ws:List Res} {N:Nat} (hN:0 < N) (hst:∀ w ∈ ws,w.start < N) (a:Nat):∀ (us:List Res),(∀ w ∈ us,w ∈ ws)→∀ (s:Bf),(∀ v,(s.last.getD v default).start < N)→∀ v,((us.foldl (z1e a) s).last.getD v default).start < N
 | [],_,s,h,v=>h v
 | w :: us,hu,s,h,v=>by
   simp only [List.foldl_cons]
   refine zBZ hN hst a us (fun x hx=>hu x (by simp [hx])) _ (fun v=>?_) v
   unfold z1e
   split
   · simp only
     by_cases e:w.to=v
     · subst e
       by_cases hl:w.to < s.last.length
       · rw [z17 hl];exact hst w (hu w (by simp))
       · rw [List.set_eq_of_length_le (by omega)];exact h _
     · rw [getD_set_ne e];exact h v
   · exact h v
theorem zDN {ws:List Res} {N:Nat} (hN:0 < N) (hst:∀ w ∈ ws,w.start < N):∀ (n:Nat) (s s':Bf),bfs ws n s=some s'→(∀ v,(s.last.getD v default).start < N)→∀ v,(s'.last.getD v default).start < N
 | 0,s,s',h,_=>by simp [bfs] at h
 | n+1,s,s',h,hs=>by
   unfold bfs at h
   split at h
   · cases h;exact hs
   · exact zDN hN hst n _ s' h (zBZ hN hst _ ws (fun _ h=>h) _ hs)
theorem zFb:resV default=.agg [.int .i64 0,.bool false,.int .i64 0,.int .i64 0,.int .i64 0,.int .i64 0]:=rfl
theorem zE0 {H:Heap} {p a R C gn:Nat} {G:Net} {f:Nat→Int} (h:NetAt H p a R C gn G.n (arcB gn G f)) (hs:NetS G f z2e) (hG:G.Ok) (hN:G.N=1+R+C) (hR:R≤8) (hC:C≤8) {from' to:Nat} (hf:from' < G.N) (ht:to < G.N) {v:AVal} (hv:zUY (G.ways f z2e G.n) G.N from' to v) (ro nx:Nat):
    callT env 144 [.ptr p 0 0 0,.int .i64 from',.int .i64 to] ro H nx=some (.ret v,.ups []):=by
 obtain ⟨b,hb,hv⟩:=hv
 have hn8:=hs.n
 have hwl:=z5B G f z2e G.n
 have hwt:∀ w ∈ G.ways f z2e G.n,w.to < G.N:=fun w hw=>(G.ways_to hG hw).1
 have hws:∀ w ∈ G.ways f z2e G.n,w.start < G.N:=fun w hw=>(G.ways_to hG hw).2.1
 have hb0:(bf0 G.N from').met.length=G.N∧(bf0 G.N from').last.length=G.N∧(bf0 G.N from').q=[from']:=⟨by simp [bf0],by simp [bf0],rfl⟩
 have hst:=zDN (by omega) hws _ _ _ hb (fun v=>by
  simp only [bf0]
  rw [List.getD_eq_getElem?_getD,List.getElem?_replicate]
  split
  · show (0:Nat) < _;omega
  · show (0:Nat) < _;omega)
 have can:NetAt [netB R C 1 gn G.n,arcB gn G f] 0 1 R C gn G.n (arcB gn G f):=⟨rfl,rfl,by decide,z0c _ _ _⟩
 have wc:=zEj can hs (gv:=.lit true 0 []) (.inl ⟨rfl,rfl⟩) 2
 have nc:=fun H (hc:NetAt H 0 1 R C gn G.n (arcB gn G f))=>z8Q hc hR hC 2
 rw [← hN] at nc
 have hq0:QRep [.int .i64 from'] 0 (bf0 G.N from').q:=⟨rfl,rfl,rfl,by simp⟩
 have hqb:(bf0 G.N from').q.length+(G.N+1) * (G.ways f z2e G.n).length < 2 ^ 30:=by
  rw [hb0.2.2]
  have:(G.N+1) * (G.ways f z2e G.n).length≤18 * 160:=Nat.mul_le_mul (by omega) (by omega)
  simp only [List.length_singleton];omega
 obtain ⟨e,t,hx,hp⟩:=zIA (R:=R) (C:=C) (gn:=gn) hwt (by omega) (v0:=.ptr 0 0 0 0) (v1:=.int .i64 from') (v2:=.int .i64 to) ⟨rfl,rfl,rfl⟩ (G.N+1) (bf0 G.N from') b 0 0 [.int .i64 from'] _ _ _ _ _ _ _ _ _ _ _ _ _ _ _ _ _ _ _ _ _ _ _ _ _ _ _ _ _ _ _ _ _ _ _ _ _ _ _ _ _ _ _ _ _ _ _ _ _ _ _ _ _ _ _ _ _ _ _ _ _ _ _ _ _ _ _ _ _ _ _ _ _ _ _ _ _ _ _ _ _ _ _ _ _ _ _ _ hb hq0 hb0.1 hb0.2.1 hqb
 obtain ⟨rfl,hm',hl',g1,bs1,jp,rfl⟩:=hp
 have d1:decide ((from':Int) < (G.N:Int))=true:=by simp;omega
 have d2:decide ((to:Int) < (G.N:Int))=true:=by simp;omega
 have f0:(0:Int)≤(from':Int):=by omega
 have t0:(0:Int)≤(to:Int):=by omega
 have N0:(0:Int)≤(G.N:Int):=by omega
 have m1:G.N * 2≤z04:=by unfold z04;omega
 have m2:G.N * 49≤z04:=by unfold z04;omega
 have r1:List.replicate G.N (AVal.bool false)=z0A (List.replicate G.N false):=by simp [z0A]
 have r2:List.replicate G.N (AVal.agg [.int .i64 0,.bool false,.int .i64 0,.int .i64 0,.int .i64 0,.int .i64 0])=z0P (List.replicate G.N default):=by rw [← zFb];simp [z0P]
 have b0:=z0f (l:=List.replicate G.N false) (i:=from') (by simpa using hf)
 have b1:=zBJ (List.replicate G.N false) from' true
 have b2:=z0f (l:=b.met) (i:=to) (by omega)
 have c1:NetAt [netB R C 1 gn G.n,arcB gn G f,.cells 0 1 true (z0A (List.replicate G.N false))] 0 1 R C gn G.n (arcB gn G f):=⟨rfl,rfl,by decide,z0c _ _ _⟩
 have n1:=nc _ can
 have n2:=nc _ c1
 simp only [go_sem,simprocAttr,Try.f144,z40,z3R,netB,arcB,Int.ofNat_zero,Int.natCast_zero,bf0,List.length_singleton,Int.natCast_one] at hx
 simp only [netB,arcB] at n1 n2
 simp only [z40,netB,arcB] at wc
 rcases hv with ⟨hmt,rfl⟩ | ⟨hmt,l,hl,rfl⟩
 · refine z1g (H':=z3R R C gn G f b g1 bs1) (v:=.tuple [.lit true 0 [],.ref 2 0 0 G.N false]) rfl rfl rfl rfl h (z1P rfl rfl) rfl ?_ ?_ rfl
   · rw [run_unfold fn144 rfl]
     simp only [go_sem,simprocAttr,Try.f144,netB,arcB,wc,n1,n2,N0,Int.toNat_natCast,m1,m2,r1,r2,d1,f0,b0,b1]
     rw [hx]
     simp only [go_sem,simprocAttr,d2,t0,Int.toNat_natCast,b2,hmt,unwind,modeEx,resultsOf,one,z3R,netB,arcB]
   · have ht:(z0A b.met).take G.N=z0A b.met:=List.take_of_length_le (by rw [z0K];omega)
     have hlen:(z0A b.met).length=G.N:=by rw [z0K,hm']
     simp [handBack,mapO,z3R,toLit,noRef,AVal.under,z2U,ht,hlen]
 · obtain ⟨e2,t2,hx2,hp2⟩:=zKd (R:=R) (C:=C) (gn:=gn) (f:=f) (g:=g1) (bs:=bs1) (from':=from') hl' (fun v _=>hst v) (G.N+1) to [] l 0 _ _ _ _ _ _ _ _ _ _ _ _ _ _ _ _ _ _ _ _ _ _ _ _ _ _ _ _ _ _ _ _ _ _ _ _ _ _ _ _ _ _ _ _ _ _ _ _ _ _ _ _ _ _ _ _ _ _ _ _ _ _ _ _ _ _ _ _ _ _ _ _ _ _ _ _ _ _ _ _ _ _ _ _ _ _ _ _ _ _ hl ht (by simp;omega)
   obtain ⟨rfl,ga,jq,rfl⟩:=hp2
   simp only [go_sem,simprocAttr,Try.f144,z3R,netB,arcB,show z0P []=[] from rfl,z1c,z1d,Int.natCast_zero,Int.ofNat_zero] at hx2
   refine z1g (H':=z3R R C gn G f b g1 bs1++[accB 6 ga (z0P l)]) (v:=.tuple [.ref 5 (accG ga (z0P l)) 0 (z0P l).length false,.ref 2 0 0 G.N false]) rfl rfl rfl rfl h (z1P rfl rfl) rfl ?_ ?_ rfl
   · rw [run_unfold fn144 rfl]
     simp only [go_sem,simprocAttr,Try.f144,netB,arcB,wc,n1,n2,N0,Int.toNat_natCast,m1,m2,r1,r2,d1,f0,b0,b1]
     rw [hx]
     simp only [go_sem,simprocAttr,d2,t0,Int.toNat_natCast,b2,hmt,z3R,netB,arcB]
     rw [hx2]
     simp only [go_sem,simprocAttr,unwind,modeEx,resultsOf,one,z3R,netB,arcB]
   · have ht:(z0A b.met).take G.N=z0A b.met:=List.take_of_length_le (by rw [z0K];omega)
     have hlen:(z0A b.met).length=G.N:=by rw [z0K,hm']
     have hw:handBack (z3R R C gn G f b g1 bs1++[accB 6 ga (z0P l)]) 2 [] 3 (.ref 5 (accG ga (z0P l)) 0 (z0P l).length false)=some (z40 l):=by
      by_cases hl0:l=[]
      · subst hl0
        simp [handBack,accB,accG,z0P,z40,toLit,noRef,AVal.under,mapO,z3R]
      · have h2:z0P l ≠ []:=by unfold z0P;simpa using hl0
        have ht:List.take (z0P l).length (z0P l)=z0P l:=List.take_of_length_le (Nat.le_refl _)
        simp [handBack,accB,accG,h2,z40,hl0,toLit,noRef,AVal.under,ht,z3R]
     have hm2:handBack (z3R R C gn G f b g1 bs1++[accB 6 ga (z0P l)]) 2 [] 3 (.ref 2 0 0 G.N false)=some (z2U b.met):=by
      simp [handBack,z3R,toLit,noRef,AVal.under,z2U,ht,hlen]
     rw [handBack_tuple]
     simp only [mapO,hw,hm2,Option.map_some]
set_option maxRecDepth 10000
set_option maxHeartbeats 1000000
def z5U (l:List Int):List AVal:=l.map (AVal.int .i64)
theorem z3r {l:List Int} {i:Nat} (h:i < l.length):(z5U l)[i]?=some (.int .i64 (l.getD i 0)):=by simp [z5U,h]
theorem z7L (l:List Int) (i:Nat) (x:Int):(z5U l).set i (.int .i64 x)=z5U (l.set i x):=by simp [z5U,List.map_set]
def z1f (R C gn:Nat) (G:Net) (f:Nat→Int) (s:List Int):Heap:=[netB R C 2 gn G.n,.cells 0 1 true (z5U s),arcB gn G f]
theorem zEv {R C gn:Nat} {G:Net} {f:Nat→Int} {s:List Int} (hs:s.length=G.N) (hN:G.N < 2 ^ 30):∀ (n i:Nat) (a:Int) (j2 j3 j4 j5 j7 j8 j9 j10 j11 j12 j13 j14 j15 j16 j20 j21 j22 j23 j24 j25 j26 j27 j28 j29 j30 j31 j32 j33 j34 j35 j36 j37 j38 j39 j40 j41 j42 j43 j44 j45 j46 j47 j48 j49 j50 j51 j52 j53 j54 j55 j56 j57 j58 j59 j60 j61 j62 j63 j64 j65 j66 j67 j68 j69 j70 j71 j72 j73 j74 j75 j76 j77 j78 j79 j80 j81 j82 j83 j84 j85 j86 j87 j88 j89 j90 j91 j92 j93:AVal),i+n=s.length →
    Goes (execT env (Try.f136.at [1,0,0,0,1,0,1,0]) ⟨[.ptr 0 0 0 0,.ref 1 0 0 G.N false,j2,j3,j4,j5,.int .i64 a,j7,j8,j9,j10,j11,j12,j13,j14,j15,j16,.ref 1 0 0 G.N false,.int .i64 G.N,.int .i64 i,j20,j21,j22,j23,j24,j25,j26,j27,j28,j29,j30,j31,j32,j33,j34,j35,j36,j37,j38,j39,j40,j41,j42,j43,j44,j45,j46,j47,j48,j49,j50,j51,j52,j53,j54,j55,j56,j57,j58,j59,j60,j61,j62,j63,j64,j65,j66,j67,j68,j69,j70,j71,j72,j73,j74,j75,j76,j77,j78,j79,j80,j81,j82,j83,j84,j85,j86,j87,j88,j89,j90,j91,j92,j93],z1f R C gn G f s,[],0,[]⟩) fun e t=>
     e=.exit 2∧FrP 94 [(0,.ptr 0 0 0 0),(1,.ref 1 0 0 G.N false),(6,.int .i64 (z6k (fun _ x=>decide (0 < x)) i (s.drop i) a))] (z1f R C gn G f s) [] 0 [] t:=by
 intro n
 induction n with
 | zero=>
   intro i a;intros;rename_i hi
   have hd:decide ((i:Int) < (G.N:Int))=false:=by simp;omega
   have hdr:s.drop i=[]:=List.drop_eq_nil_of_le (by omega)
   simp only [go_sem,simprocAttr,Try.f136,z1f]
   rw [exec_loop]
   simp only [go_sem,simprocAttr,hd,hdr,z6k]
   exact frP (by kernel_rfl)
 | succ n ih=>
   intro i a;intros;rename_i hi
   have hd:decide ((i:Int) < (G.N:Int))=true:=by simp;omega
   have h0:(0:Int)≤(i:Int):=by omega
   have hg:=z3r (l:=s) (i:=i) (by omega)
   obtain ⟨x,hx,hdr⟩:=z0T (show i < s.length by omega)
   have hxx:s.getD i 0=x:=getD_some hx
   rw [hxx] at hg
   rw [hdr]
   cases hp:decide (0 < x) with
   | true=>
     have ih':=ih (i+1) i
     simp only [go_sem,simprocAttr,Try.f136,z1f,netB,arcB] at ih' ⊢
     rw [exec_loop]
     simp only [go_sem,simprocAttr,hd,h0,Int.toNat_natCast,hg,hp,z6k,z00 (show i < 2 ^ 63 - 1 by omega)]
     exact ih' _ _ _ _ _ _ _ _ _ _ _ _ _ _ _ _ _ _ _ _ _ _ _ _ _ _ _ _ _ _ _ _ _ _ _ _ _ _ _ _ _ _ _ _ _ _ _ _ _ _ _ _ _ _ _ _ _ _ _ _ _ _ _ _ _ _ _ _ _ _ _ _ _ _ _ _ _ _ _ _ _ _ _ _ _ _ _ _ (by omega)
   | false=>
     have ih':=ih (i+1) a
     simp only [go_sem,simprocAttr,Try.f136,z1f,netB,arcB] at ih' ⊢
     rw [exec_loop]
     simp only [go_sem,simprocAttr,hd,h0,Int.toNat_natCast,hg,hp,z6k,z00 (show i < 2 ^ 63 - 1 by omega)]
     exact ih' _ _ _ _ _ _ _ _ _ _ _ _ _ _ _ _ _ _ _ _ _ _ _ _ _ _ _ _ _ _ _ _ _ _ _ _ _ _ _ _ _ _ _ _ _ _ _ _ _ _ _ _ _ _ _ _ _ _ _ _ _ _ _ _ _ _ _ _ _ _ _ _ _ _ _ _ _ _ _ _ _ _ _ _ _ _ _ _ (by omega)
theorem zDP {R C gn:Nat} {G:Net} {f:Nat→Int} {s:List Int} {met:List Bool} (hs:s.length=G.N) (hm:met.length=G.N) (hN:G.N < 2 ^ 30) {a:Int}:∀ (n i:Nat) (c:Int) (j2 j3 j4 j5 j7 j8 j9 j12 j13 j14 j15 j16 j17 j18 j19 j20 j21 j22 j23 j24 j25 j26 j27 j28 j29 j30 j31 j32 j33 j34 j35 j36 j40 j41 j42 j43 j44 j45 j46 j47 j48 j49 j50 j51 j52 j53 j54 j55 j56 j57 j58 j59 j60 j61 j62 j63 j64 j65 j66 j67 j68 j69 j70 j71 j72 j73 j74 j75 j76 j77 j78 j79 j80 j81 j82 j83 j84 j85 j86 j87 j88 j89 j90 j91 j92 j93:AVal),i+n=s.length →
    Goes (execT env (Try.f136.at [1,0,0,0,1,1,1,1,1,0,1,0]) ⟨[.ptr 0 0 0 0,.ref 1 0 0 G.N false,j2,j3,j4,j5,.int .i64 a,j7,j8,j9,z2U met,.int .i64 c,j12,j13,j14,j15,j16,j17,j18,j19,j20,j21,j22,j23,j24,j25,j26,j27,j28,j29,j30,j31,j32,j33,j34,j35,j36,.ref 1 0 0 G.N false,.int .i64 G.N,.int .i64 i,j40,j41,j42,j43,j44,j45,j46,j47,j48,j49,j50,j51,j52,j53,j54,j55,j56,j57,j58,j59,j60,j61,j62,j63,j64,j65,j66,j67,j68,j69,j70,j71,j72,j73,j74,j75,j76,j77,j78,j79,j80,j81,j82,j83,j84,j85,j86,j87,j88,j89,j90,j91,j92,j93],z1f R C gn G f s,[],0,[]⟩) fun e t=>
     e=.exit 4∧FrP 94 [(0,.ptr 0 0 0 0),(1,.ref 1 0 0 G.N false),(6,.int .i64 a),(10,z2U met),(11,.int .i64 (z6k (fun i x=>decide (x < 0) && met.getD i false) i (s.drop i) c))] (z1f R C gn G f s) [] 0 [] t:=by
 intro n
 induction n with
 | zero=>
   intro i c;intros;rename_i hi
   have hd:decide ((i:Int) < (G.N:Int))=false:=by simp;omega
   have hdr:s.drop i=[]:=List.drop_eq_nil_of_le (by omega)
   simp only [go_sem,simprocAttr,Try.f136,z1f]
   rw [exec_loop]
   simp only [go_sem,simprocAttr,hd,hdr,z6k]
   exact frP (by kernel_rfl)
 | succ n ih=>
   intro i c;intros;rename_i hi
   have hd:decide ((i:Int) < (G.N:Int))=true:=by simp;omega
   have h0:(0:Int)≤(i:Int):=by omega
   have hg:=z3r (l:=s) (i:=i) (by omega)
   have hb:=z0f (l:=met) (i:=i) (by omega)
   obtain ⟨x,hx,hdr⟩:=z0T (show i < s.length by omega)
   have hxx:s.getD i 0=x:=getD_some hx
   rw [hxx] at hg
   rw [hdr]
   cases hp:decide (x < 0) with
   | true=>
     cases hmi:met.getD i false with
     | true=>
       have ih':=ih (i+1) i
       simp only [go_sem,simprocAttr,Try.f136,z1f,netB,arcB,z2U] at ih' ⊢
       rw [exec_loop]
       simp only [go_sem,simprocAttr,hd,h0,Int.toNat_natCast,hg,hp,hb,hmi,z6k,z00 (show i < 2 ^ 63 - 1 by omega)]
       exact ih' _ _ _ _ _ _ _ _ _ _ _ _ _ _ _ _ _ _ _ _ _ _ _ _ _ _ _ _ _ _ _ _ _ _ _ _ _ _ _ _ _ _ _ _ _ _ _ _ _ _ _ _ _ _ _ _ _ _ _ _ _ _ _ _ _ _ _ _ _ _ _ _ _ _ _ _ _ _ _ _ _ _ _ _ _ _ (by omega)
     | false=>
       have ih':=ih (i+1) c
       simp only [go_sem,simprocAttr,Try.f136,z1f,netB,arcB,z2U] at ih' ⊢
       rw [exec_loop]
       simp only [go_sem,simprocAttr,hd,h0,Int.toNat_natCast,hg,hp,hb,hmi,z6k,z00 (show i < 2 ^ 63 - 1 by omega)]
       exact ih' _ _ _ _ _ _ _ _ _ _ _ _ _ _ _ _ _ _ _ _ _ _ _ _ _ _ _ _ _ _ _ _ _ _ _ _ _ _ _ _ _ _ _ _ _ _ _ _ _ _ _ _ _ _ _ _ _ _ _ _ _ _ _ _ _ _ _ _ _ _ _ _ _ _ _ _ _ _ _ _ _ _ _ _ _ _ (by omega)
   | false=>
     have ih':=ih (i+1) c
     simp only [go_sem,simprocAttr,Try.f136,z1f,netB,arcB,z2U] at ih' ⊢
     rw [exec_loop]
     simp only [go_sem,simprocAttr,hd,h0,Int.toNat_natCast,hg,hp,z6k,z00 (show i < 2 ^ 63 - 1 by omega)]
     exact ih' _ _ _ _ _ _ _ _ _ _ _ _ _ _ _ _ _ _ _ _ _ _ _ _ _ _ _ _ _ _ _ _ _ _ _ _ _ _ _ _ _ _ _ _ _ _ _ _ _ _ _ _ _ _ _ _ _ _ _ _ _ _ _ _ _ _ _ _ _ _ _ _ _ _ _ _ _ _ _ _ _ _ _ _ _ _ (by omega)
def brV:Brought→AVal × Bool
 | .ok _=>(.lit true 0 [],true)
 | .cut met=>(z2U met,false)
theorem zPy {G:Net} {f:Nat→Int} (hn:G.n≤80) (hl:∀ j,j < G.n→0≤G.lo j∧G.lo j≤G.hi j∧G.hi j≤2 ^ 30) (hf:G.In f):NetS G f z2e:=
 ⟨hn,fun j hj=>by have:=hl j hj;have:=hf j hj;omega,fun j hj=>by have:=hl j hj;omega,fun j hj=>by have:=hl j hj;omega,fun j _=>by unfold z2e;omega⟩
theorem z6S (last:List Res) (from':Nat):∀ (n a:Nat) (out l:List Res),z3B last from' n a out=some l→l.length≤out.length+n
 | 0,a,out,l,h=>by simp [z3B] at h
 | n+1,a,out,l,h=>by
   unfold z3B at h
   split at h
   · cases h;omega
   · have:=z6S last from' n _ _ l h
     simp at this;omega
theorem zHW {R C gn:Nat} {G:Net} (hG:G.Ok) (hn:G.n≤80) (hl:∀ j,j < G.n→0≤G.lo j∧G.lo j≤G.hi j∧G.hi j≤2 ^ 30) (hN:G.N=1+R+C) (hR:R≤8) (hC:C≤8):∀ (n:Nat) (f:Nat→Int) (s:List Int) (r:Brought) (j2 j3 j4 j5 j6 j7 j8 j9 j10 j11 j12 j13 j14 j15 j16 j17 j18 j19 j20 j21 j22 j23 j24 j25 j26 j27 j28 j29 j30 j31 j32 j33 j34 j35 j36 j37 j38 j39 j40 j41 j42 j43 j44 j45 j46 j47 j48 j49 j50 j51 j52 j53 j54 j55 j56 j57 j58 j59 j60 j61 j62 j63 j64 j65 j66 j67 j68 j69 j70 j71 j72 j73 j74 j75 j76 j77 j78 j79 j80 j81 j82 j83 j84 j85 j86 j87 j88 j89 j90 j91 j92 j93:AVal),bring G n f s=some r→BInv G (2 ^ 45) f s →
    Goes (execT env (Try.f136.at [1,0]) ⟨[.ptr 0 0 0 0,.ref 1 0 0 G.N false,j2,j3,j4,j5,j6,j7,j8,j9,j10,j11,j12,j13,j14,j15,j16,j17,j18,j19,j20,j21,j22,j23,j24,j25,j26,j27,j28,j29,j30,j31,j32,j33,j34,j35,j36,j37,j38,j39,j40,j41,j42,j43,j44,j45,j46,j47,j48,j49,j50,j51,j52,j53,j54,j55,j56,j57,j58,j59,j60,j61,j62,j63,j64,j65,j66,j67,j68,j69,j70,j71,j72,j73,j74,j75,j76,j77,j78,j79,j80,j81,j82,j83,j84,j85,j86,j87,j88,j89,j90,j91,j92,j93],z1f R C gn G f s,[],0,[]⟩) fun e t=>
     e=.ret∧∃ (f':Nat→Int) (s':List Int),(∀ f0,r=.ok f0→f'=f0)∧FrP 94 [(4,(brV r).1),(5,.bool (brV r).2)] (z1f R C gn G f' s') [] 0 [] t:=by
 intro n
 induction n with
 | zero=>intro f s r j2 j3 j4 j5 j6 j7 j8 j9 j10 j11 j12 j13 j14 j15 j16 j17 j18 j19 j20 j21 j22 j23 j24 j25 j26 j27 j28 j29 j30 j31 j32 j33 j34 j35 j36 j37 j38 j39 j40 j41 j42 j43 j44 j45 j46 j47 j48 j49 j50 j51 j52 j53 j54 j55 j56 j57 j58 j59 j60 j61 j62 j63 j64 j65 j66 j67 j68 j69 j70 j71 j72 j73 j74 j75 j76 j77 j78 j79 j80 j81 j82 j83 j84 j85 j86 j87 j88 j89 j90 j91 j92 j93 h;simp [bring] at h
 | succ n ih=>
   intro f s r;intros;rename_i hb hI
   have hlen:=hI.len
   obtain ⟨e1,t1,hx1,hp1⟩:=zEv (R:=R) (C:=C) (gn:=gn) (G:=G) (f:=f) hlen (by omega) s.length 0 (-1) _ _ _ _ _ _ _ _ _ _ _ _ _ _ _ _ _ _ _ _ _ _ _ _ _ _ _ _ _ _ _ _ _ _ _ _ _ _ _ _ _ _ _ _ _ _ _ _ _ _ _ _ _ _ _ _ _ _ _ _ _ _ _ _ _ _ _ _ _ _ _ _ _ _ _ _ _ _ _ _ _ _ _ _ _ _ _ _ (by omega)
   rw [List.drop_zero] at hp1
   unfold bring at hb
   simp only at hb
   simp only [go_sem,simprocAttr,Try.f136,z1f,netB,arcB,Int.ofNat_zero,Int.natCast_zero] at hx1 ⊢
   rw [exec_loop]
   simp only [go_sem,simprocAttr]
   rw [hx1]
   rcases z3s (fun _ x=>decide (0 < x)) s 0 (-1) with ⟨h1,_⟩ | ⟨a,ha1,h1,ha3⟩
   · rw [h1] at hb hp1
     simp only [Int.reduceNeg,Int.reduceLT,if_true,Option.some.injEq] at hb
     subst hb
     obtain ⟨rfl,jp,rfl⟩:=hp1
     have dm:decide ((-1:Int) < 0)=true:=by decide
     simp only [go_sem,simprocAttr,dm]
     exact ⟨f,s,fun f0 h=>(by cases h;rfl),by simp only [brV,z1f,netB,arcB];exact frP (by kernel_rfl)⟩
   · rw [h1] at hb hp1
     simp only [Nat.zero_add] at hb hp1 ha3 h1
     rw [if_neg (by omega)] at hb
     obtain ⟨rfl,jp,rfl⟩:=hp1
     have dm:decide ((a:Int) < 0)=false:=decide_eq_false (by omega)
     have haN:a < G.N:=by omega
     obtain ⟨Q,b,hbf,hbe⟩:=zNp (ws:=G.ways f z2e G.n) (N:=G.N) (fun w hw=>(G.ways_to hG hw).1) haN
     rw [Int.toNat_natCast,hbf] at hb
     simp only at hb
     have can:NetAt (z1f R C gn G f s) 0 2 R C gn G.n (arcB gn G f):=⟨rfl,rfl,by decide,z0c _ _ _⟩
     have hS:=zPy hn hl hI.in_
     have pc1:=zE0 can hS hG hN hR hC haN haN (v:=.tuple [z40 [],z2U b.met]) ⟨b,hbf,.inr ⟨(hbe.met a).2 hbe.from_,[],by simp [z3B],rfl⟩⟩ 0 3
     obtain ⟨e2,t2,hx2,hp2⟩:=zDP (R:=R) (C:=C) (gn:=gn) (G:=G) (f:=f) hlen hbe.lm (by omega) (a:=a) s.length 0 (-1) _ _ _ _ _ _ _ _ _ _ _ _ _ _ _ _ _ _ _ _ _ _ _ _ _ _ _ _ _ _ _ _ _ _ _ _ _ _ _ _ _ _ _ _ _ _ _ _ _ _ _ _ _ _ _ _ _ _ _ _ _ _ _ _ _ _ _ _ _ _ _ _ _ _ _ _ _ _ _ _ _ _ _ _ _ _ (by omega)
     rw [List.drop_zero] at hp2
     simp only [go_sem,simprocAttr,Try.f136,z1f,netB,arcB,Int.ofNat_zero,Int.natCast_zero] at hx2 pc1
     simp only [go_sem,simprocAttr,dm,z1f,netB,arcB,pc1]
     rw [hx2]
     rcases z3s (fun i x=>decide (x < 0) && b.met.getD i false) s 0 (-1) with ⟨k1,_⟩ | ⟨c,hc1,k1,hc3⟩
     · rw [k1] at hb hp2
       simp only [Int.reduceNeg,Int.reduceLT,if_true,Option.some.injEq] at hb
       subst hb
       obtain ⟨rfl,jq,rfl⟩:=hp2
       have dm:decide ((-1:Int) < 0)=true:=by decide
       simp only [go_sem,simprocAttr,dm]
       exact ⟨f,s,fun f0 h=>(by cases h),by simp only [brV,z1f,netB,arcB];exact frP (by kernel_rfl)⟩
     · rw [k1] at hb hp2
       simp only [Nat.zero_add,Bool.and_eq_true,decide_eq_true_eq] at hb hp2 hc3 k1 ha3
       rw [if_neg (by omega),Int.toNat_natCast] at hb
       obtain ⟨rfl,jq,rfl⟩:=hp2
       obtain ⟨l,hw,hlw,hd0,hdr,hI',_⟩:=hI.round hG ha3 hc3.1 hbe hc3.2
       rw [hw] at hb
       simp only at hb
       have dm2:decide ((c:Int) < 0)=false:=decide_eq_false (by omega)
       have hcN:c < G.N:=by omega
       have pc2:=zE0 can hS hG hN hR hC haN hcN (v:=.tuple [z40 l,z2U b.met]) ⟨b,hbf,.inr ⟨hc3.2,l,hw,rfl⟩⟩ 0 3
       have hll:l.length≤1000:=by
        have:=z6S _ _ _ _ _ _ hw
        simp only [List.length_nil] at this
        omega
       have hsz:l=[] ∨ (if l=[] then 0 else 6)=6:=by
        by_cases h:l=[]
        · exact .inl h
        · exact .inr (if_neg h)
       have lc:=zBa (cl:=false) hsz (by omega) 0 (z1f R C gn G f s) 3
       generalize hdd:min (min (s.getD a 0) (-(s.getD c 0))) (z26 l)=d at hb hd0 hdr hI'
       have hD:d≤2 ^ 40:=by
        have:=(z3o l (2 ^ 40)).1
        unfold z26 at hdd
        omega
       have pu:=zE2 can (cl:=false) hsz (d:=d) (by omega) hD (fun w hww=>(Net.own_ways (hlw w hww)).1) hll (fun j hj=>hS.f j hj) 3
       have ba:=hI.bd a
       have bc:=hI.bd c
       have w0:IntKind.i64.wrap (0 - s.getD c 0)=-(s.getD c 0):=by rw [i64_in _ (by omega)];omega
       have hac:a ≠ c:=by rintro rfl;omega
       have w1:IntKind.i64.wrap (s.getD a 0 - d)=s.getD a 0 - d:=i64_in _ (by omega)
       have g1:=z3r (l:=s) (i:=a) (by omega)
       have g2:=z3r (l:=s) (i:=c) (by omega)
       have g3:=z3r (l:=s.set a (s.getD a 0 - d)) (i:=c) (by simp;omega)
       have ec:(s.set a (s.getD a 0 - d)).getD c 0=s.getD c 0:=getD_set_ne hac
       have w2:IntKind.i64.wrap ((s.set a (s.getD a 0 - d)).getD c 0+d)=(s.set a (s.getD a 0 - d)).getD c 0+d:=by rw [ec];exact i64_in _ (by omega)
       have s1:=z7L s a (s.getD a 0 - d)
       have s2:=z7L (s.set a (s.getD a 0 - d)) c ((s.set a (s.getD a 0 - d)).getD c 0+d)
       have da:decide ((a:Int) < (G.N:Int))=true:=decide_eq_true (by omega)
       have dc:decide ((c:Int) < (G.N:Int))=true:=decide_eq_true (by omega)
       have a0:(0:Int)≤(a:Int):=by omega
       have c0:(0:Int)≤(c:Int):=by omega
       have hmin:(if z26 l < (if -(s.getD c 0) < s.getD a 0 then -(s.getD c 0) else s.getD a 0) then z26 l else (if -(s.getD c 0) < s.getD a 0 then -(s.getD c 0) else s.getD a 0))=d:=by
        rw [← hdd]
        simp only [Int.min_def]
        split <;> split <;> split <;> first | omega | (split <;> omega)
       have ih':=fun (j2 j3 j4 j5 j6 j7 j8 j9 j10 j11 j12 j13 j14 j15 j16 j17 j18 j19 j20 j21 j22 j23 j24 j25 j26 j27 j28 j29 j30 j31 j32 j33 j34 j35 j36 j37 j38 j39 j40 j41 j42 j43 j44 j45 j46 j47 j48 j49 j50 j51 j52 j53 j54 j55 j56 j57 j58 j59 j60 j61 j62 j63 j64 j65 j66 j67 j68 j69 j70 j71 j72 j73 j74 j75 j76 j77 j78 j79 j80 j81 j82 j83 j84 j85 j86 j87 j88 j89 j90 j91 j92 j93:AVal)=>ih _ _ r j2 j3 j4 j5 j6 j7 j8 j9 j10 j11 j12 j13 j14 j15 j16 j17 j18 j19 j20 j21 j22 j23 j24 j25 j26 j27 j28 j29 j30 j31 j32 j33 j34 j35 j36 j37 j38 j39 j40 j41 j42 j43 j44 j45 j46 j47 j48 j49 j50 j51 j52 j53 j54 j55 j56 j57 j58 j59 j60 j61 j62 j63 j64 j65 j66 j67 j68 j69 j70 j71 j72 j73 j74 j75 j76 j77 j78 j79 j80 j81 j82 j83 j84 j85 j86 j87 j88 j89 j90 j91 j92 j93 hb hI'
       simp only [go_sem,simprocAttr,Try.f136,z1f,netB,arcB,z40] at pc2 lc pu ih' ⊢
       simp only [go_sem,simprocAttr,dm2,pc2,da,dc,a0,c0,Int.toNat_natCast,g1,g2,w0,lc,minL,hmin,pu,w1,s1,g3,w2,s2]
       exact ih' _ _ _ _ _ _ _ _ _ _ _ _ _ _ _ _ _ _ _ _ _ _ _ _ _ _ _ _ _ _ _ _ _ _ _ _ _ _ _ _ _ _ _ _ _ _ _ _ _ _ _ _ _ _ _ _ _ _ _ _ _ _ _ _ _ _ _ _ _ _ _ _ _ _ _ _ _ _ _ _ _ _ _ _ _ _ _ _ _ _ _ _
set_option maxRecDepth 10000
set_option maxHeartbeats 1000000
structure NetOk (G:Net) (R C:Nat):Prop where
 ok:G.Ok
 n:G.n≤80
 l:∀ j,j < G.n→0≤G.lo j∧G.lo j≤G.hi j∧G.hi j≤2 ^ 30
 N:G.N=1+R+C
 R:R≤8
 C:C≤8
def z15 (G:Net):Brought:=(bring G ((much (z0m G G.lo G.n)).toNat+1) G.lo (z0m G G.lo G.n)).getD (.cut [])
theorem z2j {G:Net} {R C:Nat} (h:NetOk G R C):bring G ((much (z0m G G.lo G.n)).toNat+1) G.lo (z0m G G.lo G.n)=some (z15 G)∧zRZ G (z15 G):=by
 obtain ⟨r,h1,h2⟩:=z83 h.ok _ _ _ (Nat.lt_succ_self _) (zBu h.ok h.l)
 have:z15 G=r:=by unfold z15;rw [h1];rfl
 rw [this]
 exact ⟨h1,h2⟩
theorem zER {G:Net} {R C:Nat} (h:NetOk G R C):∀ i,i≤G.n→(z0m G G.lo i).length=G.N∧∀ v,-(2 ^ 45)≤(z0m G G.lo i).getD v 0∧(z0m G G.lo i).getD v 0≤2 ^ 45:=by
 intro i hi
 have hn:=h.n
 obtain ⟨h1,_,h3⟩:=z6G h.ok G.lo (2 ^ 30) (by decide) (fun j hj=>by have:=h.l j hj;omega) i hi
 refine ⟨h1,fun v=>?_⟩
 have:=h3 v
 have h4:2 * (i:Int) * 2 ^ 30≤160 * 2 ^ 30:=Int.mul_le_mul_of_nonneg_right (by omega) (by decide)
 omega
theorem zFk {G:Net} {R C:Nat} (h:NetOk G R C):BInv G (2 ^ 45) G.lo (z0m G G.lo G.n):=by
 have h1:=zBu h.ok h.l
 exact ⟨h1.in_,h1.len,h1.div,(zER h G.n (Nat.le_refl _)).2⟩
theorem zHV {R C gn:Nat} {G:Net} (h:NetOk G R C):∃ (f':Nat→Int) (s':List Int),(∀ f0,z15 G=.ok f0→f'=f0)∧callT env 136 [.ptr 0 0 0 0,.ref 2 0 0 G.N false] 0 [netB R C 1 gn G.n,arcB gn G G.lo,.cells 0 1 true (z5U (z0m G G.lo G.n))] 3 =
    some (.ret (.tuple [(brV (z15 G)).1,.bool (brV (z15 G)).2]),.ups [(0,netB R C 1 gn G.n),(2,.cells 0 1 true (z5U s')),(1,arcB gn G f')]):=by
 obtain ⟨e,t,hx,hp⟩:=zHW (R:=R) (C:=C) (gn:=gn) h.ok h.n h.l h.N h.R h.C _ _ _ _ _ _ _ _ _ _ _ _ _ _ _ _ _ _ _ _ _ _ _ _ _ _ _ _ _ _ _ _ _ _ _ _ _ _ _ _ _ _ _ _ _ _ _ _ _ _ _ _ _ _ _ _ _ _ _ _ _ _ _ _ _ _ _ _ _ _ _ _ _ _ _ _ _ _ _ _ _ _ _ _ _ _ _ _ _ _ _ _ _ _ _ _ (z2j h).1 (zFk h)
 obtain ⟨rfl,f',s',hf,jj,rfl⟩:=hp
 refine ⟨f',s',hf,?_⟩
 have hnr:∀ r,(brV r).1.under 0=true:=by intro r;cases r <;> rfl
 have hr:runT env 136 [.ptr 0 0 0 0,.ref 1 0 0 G.N false] (z1f R C gn G G.lo (z0m G G.lo G.n)) 0=some (.ret (.tuple [(brV (z15 G)).1,.bool (brV (z15 G)).2]),z1f R C gn G f' s'):=by
  simp only [go_sem,simprocAttr,Try.f136,z1f,netB,arcB] at hx
  rw [run_unfold fn136 rfl]
  simp only [go_sem,simprocAttr,Try.f136,z1f,netB,arcB]
  rw [hx]
  simp only [go_sem,simprocAttr,unwind,modeEx,resultsOf,one,z1f,netB,arcB]
 have hh:=z3O (f:=136) (args:=[.ptr 0 0 0 0,.ref 2 0 0 G.N false]) (qs:=[.ptr 0 0 0 0,.ref 2 0 0 G.N false]) (lent:=[]) (fp:=[0,2,1]) (bs:=[netB R C 1 gn G.n,.cells 0 1 true (z5U (z0m G G.lo G.n)),arcB gn G G.lo])
  (H:=[netB R C 1 gn G.n,arcB gn G G.lo,.cells 0 1 true (z5U (z0m G G.lo G.n))]) (H':=z1f R C gn G f' s') (v:=.tuple [(brV (z15 G)).1,.bool (brV (z15 G)).2]) (w:=.tuple [(brV (z15 G)).1,.bool (brV (z15 G)).2]) (ro:=0) (nx:=3)
  rfl rfl rfl (by simp [lend,hint136]) rfl rfl rfl hr (handBack_noRef _ _ _ _ _ (by simp [noRef,AVal.under,underL,hnr])) (by simp [noRef,AVal.under,underL,hnr]) (.inl rfl)
 rw [hh]
 rfl
theorem zES {R C gn:Nat} {G:Net} (h:NetOk G R C) (f0:Nat→Int):∀ (n i:Nat) (j1 j2 j3 j4 j5 j6 j7 j8 j9 j10 j11 j15 j16 j17 j18 j19 j20 j21 j22 j23 j24 j25 j26 j27 j28 j29 j30 j31 j32 j33 j34 j35 j36 j37 j38 j39 j40 j41 j42 j43 j44 j45 j46 j47 j48 j49 j50 j51 j52 j53 j54 j55 j56 j57 j58 j59 j60 j61 j62 j63 j64 j65 j66:AVal),i+n=G.n →
    Goes (execT env (Try.f122.at [1,0,1,0]) ⟨[.ptr 0 0 0 0,j1,j2,j3,j4,j5,j6,j7,j8,j9,j10,j11,.ref 1 gn 0 G.n false,.int .i64 G.n,.int .i64 i,j15,j16,j17,j18,j19,j20,j21,j22,j23,j24,j25,j26,j27,j28,j29,j30,j31,j32,j33,j34,j35,j36,j37,j38,j39,j40,j41,j42,j43,j44,j45,j46,j47,j48,j49,j50,j51,j52,j53,j54,j55,j56,j57,j58,j59,j60,j61,j62,j63,j64,j65,j66],netH R C gn G (fun j=>if j < i then G.lo j else f0 j),[],0,[]⟩) fun e t=>
     e=.exit 0∧FrP 67 [(0,.ptr 0 0 0 0)] (netH R C gn G G.lo) [] 0 [] t:=by
 have hn8:=h.n
 intro n
 induction n with
 | zero=>
   intro i;intros;rename_i hi
   have hd:decide ((i:Int) < (G.n:Int))=false:=by simp;omega
   have e1:z70 G (fun j=>if j < i then G.lo j else f0 j)=z70 G G.lo:=z1D fun j hj=>by simp only [z6W];rw [if_pos (by omega)]
   simp only [go_sem,simprocAttr,Try.f122,netH,netB,arcB]
   rw [exec_loop]
   simp only [go_sem,simprocAttr,hd,e1]
   exact frP (by kernel_rfl)
 | succ n ih=>
   intro i;intros;rename_i hi
   have hin:i < G.n:=by omega
   have hd:decide ((i:Int) < (G.n:Int))=true:=by simp;omega
   have h0:(0:Int)≤(i:Int):=by omega
   have ha:=z4O (f:=fun j=>if j < i then G.lo j else f0 j) hin
   have hs:=z9N (G:=G) (f:=fun j=>if j < i then G.lo j else f0 j) (j:=i) (v:=G.lo i)
   have e1:z70 G (updF (fun j=>if j < i then G.lo j else f0 j) i (G.lo i))=z70 G (fun j=>if j < i+1 then G.lo j else f0 j):=z1D fun j hj=>by
    simp only [z6W,updF]
    by_cases e:j=i
    · subst e;simp
    · rw [if_neg e]
      by_cases e2:j < i
      · rw [if_pos e2,if_pos (by omega)]
      · rw [if_neg e2,if_neg (by omega)]
   have ih':=ih (i+1)
   simp only [go_sem,simprocAttr,Try.f122,netH,netB,arcB] at ih' ⊢
   rw [exec_loop]
   simp only [go_sem,simprocAttr,hd,h0,Int.toNat_natCast,ha,hs,e1,z00 (show i < 2 ^ 63 - 1 by omega)]
   exact ih' _ _ _ _ _ _ _ _ _ _ _ _ _ _ _ _ _ _ _ _ _ _ _ _ _ _ _ _ _ _ _ _ _ _ _ _ _ _ _ _ _ _ _ _ _ _ _ _ _ _ _ _ _ _ _ _ _ _ _ _ _ _ _ (by omega)
theorem zCy {R C gn:Nat} {G:Net} (h:NetOk G R C):∀ (n i:Nat) (j1 j2 j3 j4 j5 j7 j8 j9 j10 j11 j12 j13 j14 j15 j16 j17 j18 j19 j20 j21 j22 j23 j24 j25 j26 j27 j28 j29 j30 j31 j32 j33 j34 j35 j36 j40 j41 j42 j43 j44 j45 j46 j47 j48 j49 j50 j51 j52 j53 j54 j55 j56 j57 j58 j59 j60 j61 j62 j63 j64 j65 j66:AVal),i+n=G.n →
    Goes (execT env (Try.f122.at [1,1,1,0,1,0]) ⟨[.ptr 0 0 0 0,j1,j2,j3,j4,j5,.ref 2 0 0 G.N false,j7,j8,j9,j10,j11,j12,j13,j14,j15,j16,j17,j18,j19,j20,j21,j22,j23,j24,j25,j26,j27,j28,j29,j30,j31,j32,j33,j34,j35,j36,.ref 1 gn 0 G.n false,.int .i64 G.n,.int .i64 i,j40,j41,j42,j43,j44,j45,j46,j47,j48,j49,j50,j51,j52,j53,j54,j55,j56,j57,j58,j59,j60,j61,j62,j63,j64,j65,j66],netH R C gn G G.lo++[.cells 0 1 true (z5U (z0m G G.lo i))],[],0,[]⟩) fun e t=>
     e=.exit 2∧FrP 67 [(0,.ptr 0 0 0 0),(6,.ref 2 0 0 G.N false)] (netH R C gn G G.lo++[.cells 0 1 true (z5U (z0m G G.lo G.n))]) [] 0 [] t:=by
 have hn8:=h.n
 intro n
 induction n with
 | zero=>
   intro i;intros;rename_i hi
   have hd:decide ((i:Int) < (G.n:Int))=false:=by simp;omega
   have:i=G.n:=by omega
   subst this
   simp only [go_sem,simprocAttr,Try.f122,netH,netB,arcB]
   rw [exec_loop]
   simp only [go_sem,simprocAttr,hd]
   exact frP (by kernel_rfl)
 | succ n ih=>
   intro i;intros;rename_i hi
   have hin:i < G.n:=by omega
   have hd:decide ((i:Int) < (G.n:Int))=true:=by simp;omega
   have h0:(0:Int)≤(i:Int):=by omega
   have ha:=z4O (f:=G.lo) hin
   obtain ⟨hl1,hb⟩:=zER h i (by omega)
   have hto:=h.ok.to i hin
   have hfr:=h.ok.fr i hin
   have hlo:=h.l i hin
   have dt:decide ((G.to i:Int) < (G.N:Int))=true:=decide_eq_true (by omega)
   have df:decide ((G.fr i:Int) < (G.N:Int))=true:=decide_eq_true (by omega)
   have t0:(0:Int)≤(G.to i:Int):=by omega
   have f0:(0:Int)≤(G.fr i:Int):=by omega
   generalize hs:z0m G G.lo i=s at hl1 hb
   have bt:=hb (G.to i)
   have w1:IntKind.i64.wrap (s.getD (G.to i) 0+G.lo i)=s.getD (G.to i) 0+G.lo i:=i64_in _ (by omega)
   have b1:-(2 ^ 46)≤(s.set (G.to i) (s.getD (G.to i) 0+G.lo i)).getD (G.fr i) 0∧(s.set (G.to i) (s.getD (G.to i) 0+G.lo i)).getD (G.fr i) 0≤2 ^ 46:=by
    rw [z8C _ (by omega)]
    have:=hb (G.fr i)
    split <;> omega
   have w2:IntKind.i64.wrap ((s.set (G.to i) (s.getD (G.to i) 0+G.lo i)).getD (G.fr i) 0 - G.lo i)=(s.set (G.to i) (s.getD (G.to i) 0+G.lo i)).getD (G.fr i) 0 - G.lo i:=i64_in _ (by omega)
   have g1:=z3r (l:=s) (i:=G.to i) (by omega)
   have g2:=z3r (l:=s.set (G.to i) (s.getD (G.to i) 0+G.lo i)) (i:=G.fr i) (by simp;omega)
   have s1:=z7L s (G.to i) (s.getD (G.to i) 0+G.lo i)
   have s2:=z7L (s.set (G.to i) (s.getD (G.to i) 0+G.lo i)) (G.fr i) ((s.set (G.to i) (s.getD (G.to i) 0+G.lo i)).getD (G.fr i) 0 - G.lo i)
   have e1:z0m G G.lo (i+1)=(s.set (G.to i) (s.getD (G.to i) 0+G.lo i)).set (G.fr i) ((s.set (G.to i) (s.getD (G.to i) 0+G.lo i)).getD (G.fr i) 0 - G.lo i):=by
    rw [z8s,hs];rfl
   have ih':=ih (i+1)
   rw [e1] at ih'
   simp only [go_sem,simprocAttr,Try.f122,netH,netB,arcB] at ih' ⊢
   rw [exec_loop]
   simp only [go_sem,simprocAttr,hd,h0,Int.toNat_natCast,ha,dt,df,t0,f0,g1,w1,s1]
   rw [apart_ok]
   · simp only [go_sem,simprocAttr,dt,df,t0,f0,Int.toNat_natCast,g2,w2,s2]
     rw [apart_ok]
     · simp only [go_sem,simprocAttr,trunc,List.map_cons,List.map_nil,z00 (show i < 2 ^ 63 - 1 by omega)]
       exact ih' _ _ _ _ _ _ _ _ _ _ _ _ _ _ _ _ _ _ _ _ _ _ _ _ _ _ _ _ _ _ _ _ _ _ _ _ _ _ _ _ _ _ _ _ _ _ _ _ _ _ _ _ _ _ _ _ _ _ _ _ _ _ (by omega)
     · kernel_rfl
   · kernel_rfl
theorem zAU {R C gn:Nat} {G:Net} (h:NetOk G R C) (f0:Nat→Int):∃ f':Nat→Int,(∀ f1,z15 G=.ok f1→f'=f1)∧∀ {H:Heap} {p a:Nat},NetAt H p a R C gn G.n (arcB gn G f0)→∀ nx,
    callT env 122 [.ptr p 0 0 0] 0 H nx=some (.ret (.tuple [(brV (z15 G)).1,.bool (brV (z15 G)).2]),.ups [(p,netB R C a gn G.n),(a,arcB gn G f')]):=by
 obtain ⟨f',s',hf,hc⟩:=zHV (gn:=gn) h
 refine ⟨f',hf,fun {H p a} hA nx=>?_⟩
 obtain ⟨e1,t1,hx1,hp1⟩:=zES (gn:=gn) h f0 G.n 0 _ _ _ _ _ _ _ _ _ _ _ _ _ _ _ _ _ _ _ _ _ _ _ _ _ _ _ _ _ _ _ _ _ _ _ _ _ _ _ _ _ _ _ _ _ _ _ _ _ _ _ _ _ _ _ _ _ _ _ _ _ _ _ (by omega)
 obtain ⟨rfl,jp,rfl⟩:=hp1
 obtain ⟨e2,t2,hx2,hp2⟩:=zCy (gn:=gn) h G.n 0 _ _ _ _ _ _ _ _ _ _ _ _ _ _ _ _ _ _ _ _ _ _ _ _ _ _ _ _ _ _ _ _ _ _ _ _ _ _ _ _ _ _ _ _ _ _ _ _ _ _ _ _ _ _ _ _ _ _ _ _ _ _ (by omega)
 obtain ⟨rfl,jq,rfl⟩:=hp2
 have hnr:∀ r,(brV r).1.under 0=true:=by intro r;cases r <;> rfl
 have can:NetAt [netB R C 1 gn G.n,arcB gn G G.lo] 0 1 R C gn G.n (arcB gn G G.lo):=⟨rfl,rfl,by decide,z0c _ _ _⟩
 have nc:=z8Q can h.R h.C 0
 have hRC:=h.N
 have hR:=h.R
 have hC:=h.C
 rw [← hRC] at nc
 have N0:(0:Int)≤(G.N:Int):=by omega
 have m1:G.N * 9≤z04:=by unfold z04;omega
 have r1:List.replicate G.N (AVal.int .i64 0)=z5U (z0m G G.lo 0):=by simp [z5U,z0m]
 have e0:z70 G (fun j=>if j < 0 then G.lo j else f0 j)=z70 G f0:=z1D fun j hj=>by simp [z6W]
 refine z5J (X:=[.cells 0 1 true (z5U s')]) (v:=.tuple [(brV (z15 G)).1,.bool (brV (z15 G)).2]) (lent:=[]) rfl rfl rfl rfl hA (z1P rfl rfl) rfl (by simp) ?_ (fun _=>rfl) (handBack_noRef _ _ _ _ _ (by simp [noRef,AVal.under,underL,hnr])) (by simp [noRef,AVal.under,underL,hnr]) (.inl rfl)
 simp only [go_sem,simprocAttr,Try.f122,netH,netB,arcB,Int.ofNat_zero,Int.natCast_zero,e0] at hx1 hx2
 simp only [netB,arcB] at nc hc
 rw [run_unfold fn122 rfl]
 simp only [go_sem,simprocAttr,Try.f122,netB,arcB,z1V]
 rw [hx1]
 simp only [go_sem,simprocAttr,netH,netB,arcB,nc,N0,Int.toNat_natCast,m1,r1,z1V]
 rw [hx2]
 simp only [go_sem,simprocAttr,netH,netB,arcB,hc,unwind,modeEx,resultsOf,one]
set_option maxRecDepth 10000
set_option maxHeartbeats 1000000
theorem z1n {t:Tab} (h:t.Ok):NetOk t.net t.R t.C:=by
 have h1:=h.R8
 have h2:=h.C8
 refine ⟨t.net_ok,?_,fun j hj=>h.span_ok hj,rfl,h1,h2⟩
 show t.R * t.C+t.R+t.C≤80
 have:t.R * t.C≤8 * 8:=Nat.mul_le_mul h1 h2
 omega
theorem z5n {α:Type} (n:Nat) (f:Nat→α):vecA (n+1) f=vecA n f++[f n]:=by simp [vecA,List.range_succ]
def arcL (G:Net) (m:Nat):List AVal:=vecA m (z6W G z2e)
theorem z6X (G:Net) (m:Nat):(arcL G m).length=m:=z0E _ _
def z0B (p:Nat):Blk:=.cells 0 1 false [.ptr p 0 0 0]
theorem zCT (sz g:Nat) (es:List AVal):∃ g' sz' fl es',accB sz g es=.cells g' sz' fl es'∧(fl=true ∨ es'=[]):=by
 unfold accB
 split
 · exact ⟨_,_,_,_,rfl,.inr rfl⟩
 · exact ⟨_,_,_,_,rfl,.inl rfl⟩
theorem zHR {H:Heap} {id g:Nat} {es:List AVal} {v:AVal} {cl:Bool} (hH:H[id]?=some (accB 5 g es)) (hv:noRef v=true) (hb:es.length < 2 ^ 30) (nx:Nat):
    ∃ g',z0H env 0 nx 100 (.ref id (accG g es) 0 es.length false) (.lit cl 5 [v]) H=some (.ref id (accG g' (es++[v])) 0 (es.length+1) false,[(id,accB 5 g' (es++[v]))]):=
 z4M (v:=v) (cl:=cl) ti100 ti133 rfl ⟨by decide,rfl,rfl⟩ rfl hH hv (by show (es.length+1) * 41≤2 ^ 45;omega) nx (Nat.zero_le _)
theorem zOm (R C g:Nat) (es:List AVal) (hes:es.length < 2 ^ 30) (fr to:Nat) (x:Spn):∃ (g':Nat) (X:Heap),runT env 134 [.int .i64 fr,.int .i64 to,spV x,.ptr 0 0 0 0] [z0B 1,netB R C 2 (accG g es) es.length,accB 5 g es] 0 =
    some (.ret (.tuple []),z0B 1 :: netB R C 2 (accG g' (es++[arcV fr to x.lo x.hi 0])) (es.length+1) :: accB 5 g' (es++[arcV fr to x.lo x.hi 0]) :: X):=by
 obtain ⟨g',ha⟩:=zHR (H:=[z0B 1,netB R C 2 (accG g es) es.length,accB 5 g es,.cells 0 2 true [spV x]]) (id:=2) (cl:=true) (v:=arcV fr to x.lo x.hi 0) rfl rfl hes 4
 refine ⟨g',[.cells 0 2 true [spV x]],?_⟩
 simp only [z0B,netB] at ha
 rw [run_unfold fn134 rfl]
 simp only [go_sem,simprocAttr,Try.f134,z0B,netB,ha]
 rw [apart_ok]
 · simp only [go_sem,simprocAttr,unwind,modeEx,resultsOf,one]
 · kernel_rfl
theorem z8Y (m R C a g n:Nat):underB m (netB R C a g n)=decide (a < m):=by simp [underB,netB,underL,AVal.under]
def nofH (T:TabV) (m g:Nat):Heap:=[boxT T,accB 5 g (arcL T.tab.net m),netB T.tab.R T.tab.C 1 (accG g (arcL T.tab.net m)) m,z0B 2]
theorem z7Z (T:TabV) (m g:Nat) (X:Heap):NetAt (nofH T m g++X) 2 1 T.tab.R T.tab.C (accG g (arcL T.tab.net m)) m (accB 5 g (arcL T.tab.net m)):=⟨rfl,rfl,by decide,zCT _ _ _⟩
theorem z8R (T:TabV) (m g:Nat) (X:Heap):looks (nofH T m g++X) fuel0 [3] []=some [3,2,1]:=by
 obtain ⟨g',sz',fl,es',h,hf⟩:=zCT 5 g (arcL T.tab.net m)
 unfold fuel0 nofH
 rw [h]
 rcases hf with rfl | rfl
 · simp [looks,z0B,netB,refsL,AVal.refs]
 · cases fl <;> simp [looks,z0B,netB,refsL,AVal.refs]
theorem zC6 (T:TabV) (m g:Nat) (hm:m < 2 ^ 30) (X:Heap) (fr to:Nat) (x:Spn) (hx:arcV fr to x.lo x.hi 0=z6W T.tab.net z2e m) (nx:Nat):∃ g',callT env 134 [.int .i64 fr,.int .i64 to,spV x,.ptr 3 0 0 0] 0 (nofH T m g++X) nx =
    some (.ret (.tuple []),.ups [(3,z0B 2),(2,netB T.tab.R T.tab.C 1 (accG g' (arcL T.tab.net (m+1))) (m+1)),(1,accB 5 g' (arcL T.tab.net (m+1)))]):=by
 obtain ⟨g',Y,hr⟩:=zOm T.tab.R T.tab.C g (arcL T.tab.net m) (by rw [z6X];exact hm) fr to x
 have e1:arcL T.tab.net m++[arcV fr to x.lo x.hi 0]=arcL T.tab.net (m+1):=by rw [hx];exact (z5n _ _).symm
 rw [e1,z6X] at hr
 refine ⟨g',?_⟩
 have hA:∀ f:Nat→Option Nat,renB f (accB 5 g (arcL T.tab.net m))=accB 5 g (arcL T.tab.net m):=(z7Z T m g X).ren
 have hA':∀ f:Nat→Option Nat,renB f (accB 5 g' (arcL T.tab.net (m+1)))=accB 5 g' (arcL T.tab.net (m+1)):=(z7Z T (m+1) g' X).ren
 have hreach:reach (nofH T m g++X) fuel0 [3] []=some [3,2,1]:=by
  obtain ⟨g',sz',fl,es',h,hf⟩:=zCT 5 g (arcL T.tab.net m)
  unfold fuel0 nofH
  rw [h]
  rcases hf with rfl | rfl
  · simp [reach,z0B,netB,refsL,AVal.refs]
  · cases fl <;> simp [reach,z0B,netB,refsL,AVal.refs]
 have hcell:∀ (f:Nat→Option Nat) (a b:Nat),f a=some b→renB f (z0B a)=z0B b:=fun f a b h=>by simp [renB,z0B,renL,AVal.ren,h]
 have hh:=z3O (f:=134) (args:=[.int .i64 fr,.int .i64 to,spV x,.ptr 3 0 0 0]) (qs:=[.int .i64 fr,.int .i64 to,spV x,.ptr 3 0 0 0]) (lent:=[]) (fp:=[3,2,1]) (bs:=[z0B 2,netB T.tab.R T.tab.C 1 (accG g (arcL T.tab.net m)) m,accB 5 g (arcL T.tab.net m)])
  (H:=nofH T m g++X) (H':=z0B 1 :: netB T.tab.R T.tab.C 2 (accG g' (arcL T.tab.net (m+1))) (m+1) :: accB 5 g' (arcL T.tab.net (m+1)) :: Y) (v:=.tuple []) (w:=.tuple []) (ro:=0) (nx:=nx)
  rfl rfl rfl (by simp [lend,hint134]) hreach rfl rfl
  (by
    have i1:idx [3,2,1] 2=some 1:=rfl
    have i2:idx [3,2,1] 1=some 2:=rfl
    simp only [List.map_cons,List.map_nil,hA,hcell _ _ _ i1,z4z i2]
    exact hr) rfl rfl (.inl rfl)
 rw [hh]
 have b1:backF nx [3,2,1] [] 1=some 2:=rfl
 have b2:backF nx [3,2,1] [] 2=some 1:=rfl
 simp only [hint134,Bool.false_eq_true,if_false,List.length_cons,List.length_nil,List.take_succ_cons,List.take_zero,List.map_cons,List.map_nil,hA',hcell _ _ _ b1,z4z b2,List.zip_cons_cons,List.zip_nil_right]
set_option maxRecDepth 10000
set_option maxHeartbeats 1000000
theorem z2x (T:TabV) (m g:Nat):nofH T m g=[boxT T,accB 5 g (arcL T.tab.net m),netB T.tab.R T.tab.C 1 (accG g (arcL T.tab.net m)) m,z0B 2]:=rfl
theorem zKa {T:TabV} (hT:T.Wf) (hok:T.tab.Ok) {i:Nat} (hi:i < T.tab.R) {c:SlV} (hc:∀ k,k < T.tab.C→(c.l.map spV)[k]?=some (spV (T.tab.cell i k))):∀ (n k g:Nat) (j0 j2 j6 j7 j8 j9 j10 j11 j12 j13 j14 j15 j16 j17 j18 j19 j20 j21 j22 j26 j27 j28 j29 j33 j34 j35 j36 j37 j38 j39 j40 j41 j42 j43 j44 j45 j46 j47 j48 j49 j50 j51 j52 j53 j54 j55 j56 j57 j58 j59 j60 j61 j62 j63 j64 j65 j66 j67 j68 j69 j70 j71 j72 j73 j74 j75 j76 j77 j78:AVal),k+n=T.tab.C →
    Goes (execT env (Try.f121.at [1,1,1,0,1,0,0,1,1,0,0,1,1,0]) ⟨[j0,.ptr 0 0 0 0,j2,.ptr 3 0 0 0,.func 134 [] [.ptr 3 0 0 0],.int .i64 i,j6,j7,j8,j9,j10,j11,j12,j13,j14,j15,j16,j17,j18,j19,j20,j21,j22,.lit T.cl T.sz (T.cells.map SlV.v),.int .i64 T.tab.R,.int .i64 i,j26,j27,j28,j29,.lit c.cl 2 (c.l.map spV),.int .i64 T.tab.C,.int .i64 k,j33,j34,j35,j36,j37,j38,j39,j40,j41,j42,j43,j44,j45,j46,j47,j48,j49,j50,j51,j52,j53,j54,j55,j56,j57,j58,j59,j60,j61,j62,j63,j64,j65,j66,j67,j68,j69,j70,j71,j72,j73,j74,j75,j76,j77,j78],nofH T (i * T.tab.C+k) g,[],0,[20]⟩) fun e t=>
     e=.exit 2∧∃ (g':Nat),FrP 79 [(1,.ptr 0 0 0 0),(3,.ptr 3 0 0 0),(4,.func 134 [] [.ptr 3 0 0 0]),(23,.lit T.cl T.sz (T.cells.map SlV.v)),(24,.int .i64 T.tab.R),(25,.int .i64 i)] (nofH T (i * T.tab.C+T.tab.C) g') [] 0 [20] t:=by
 have hC8:=hok.C8
 have hR8:=hok.R8
 intro n
 induction n with
 | zero=>
   intro k g;intros;rename_i hk
   have hd:decide ((k:Int) < (T.tab.C:Int))=false:=by simp;omega
   have:k=T.tab.C:=by omega
   subst this
   simp only [go_sem,simprocAttr,Try.f121]
   rw [exec_loop]
   simp only [go_sem,simprocAttr,hd]
   exact ⟨g,frP (by kernel_rfl)⟩
 | succ n ih=>
   intro k g;intros;rename_i hk
   have hkC:k < T.tab.C:=by omega
   have hd:decide ((k:Int) < (T.tab.C:Int))=true:=by simp;omega
   have h0:(0:Int)≤(k:Int):=by omega
   have hx:=hc k hkC
   obtain ⟨e1,e2,e3⟩:=T.tab.net_cell hi hkC
   have hm:i * T.tab.C+k < 2 ^ 30:=by
    have:i * T.tab.C≤8 * 8:=Nat.mul_le_mul (by omega) hC8
    omega
   have harc:arcV (1+i) (1+T.tab.R+k) (T.tab.cell i k).lo (T.tab.cell i k).hi 0=z6W T.tab.net z2e (i * T.tab.C+k):=by
    unfold z6W
    rw [e1,e2,show T.tab.net.lo (i * T.tab.C+k)=(T.tab.cell i k).lo by show (T.tab.span _).lo=_;rw [e3],show T.tab.net.hi (i * T.tab.C+k)=(T.tab.cell i k).hi by show (T.tab.span _).hi=_;rw [e3]]
    rfl
   have hA:=z7Z T (i * T.tab.C+k) g [.cells 0 2 true [spV (T.tab.cell i k)]]
   have rc:=zCt hA (i:=i) (by omega) 0 5
   have cc:=zCG hA hR8 (i:=k) (by omega) 0 5
   obtain ⟨g',ac⟩:=zC6 T (i * T.tab.C+k) g hm [.cells 0 2 true [spV (T.tab.cell i k)]] _ _ _ harc 5
   have l2:=hA.looks
   have l3:=z8R T (i * T.tab.C+k) g [.cells 0 2 true [spV (T.tab.cell i k)]]
   have ih':=ih (k+1) g'
   rw [show i * T.tab.C+(k+1)=i * T.tab.C+k+1 from rfl] at ih'
   simp only [z2x,List.cons_append,List.nil_append,boxT,z0B] at rc cc ac l2 l3
   simp only [go_sem,simprocAttr,Try.f121,z2x,boxT,z0B] at ih' ⊢
   rw [exec_loop]
   simp only [go_sem,simprocAttr,hd,h0,Int.toNat_natCast,hx,rc,cc,l2,l3,ac]
   rw [apart_ok]
   · simp only [go_sem,simprocAttr,trunc,z8Y,TabV.under,List.map_cons,List.map_nil,z00 (show k < 2 ^ 63 - 1 by omega)]
     exact ih' _ _ _ _ _ _ _ _ _ _ _ _ _ _ _ _ _ _ _ _ _ _ _ _ _ _ _ _ _ _ _ _ _ _ _ _ _ _ _ _ _ _ _ _ _ _ _ _ _ _ _ _ _ _ _ _ _ _ _ _ _ _ _ _ _ _ _ _ _ (by omega)
   · kernel_rfl
theorem zKZ {T:TabV} (hT:T.Wf) (hok:T.tab.Ok):∀ (n i g:Nat) (j0 j2 j5 j6 j7 j8 j9 j10 j11 j12 j13 j14 j15 j16 j17 j18 j19 j20 j21 j22 j26 j27 j28 j29 j30 j31 j32 j33 j34 j35 j36 j37 j38 j39 j40 j41 j42 j43 j44 j45 j46 j47 j48 j49 j50 j51 j52 j53 j54 j55 j56 j57 j58 j59 j60 j61 j62 j63 j64 j65 j66 j67 j68 j69 j70 j71 j72 j73 j74 j75 j76 j77 j78:AVal),i+n=T.tab.R →
    Goes (execT env (Try.f121.at [1,1,1,0,1,0]) ⟨[j0,.ptr 0 0 0 0,j2,.ptr 3 0 0 0,.func 134 [] [.ptr 3 0 0 0],j5,j6,j7,j8,j9,j10,j11,j12,j13,j14,j15,j16,j17,j18,j19,j20,j21,j22,.lit T.cl T.sz (T.cells.map SlV.v),.int .i64 T.tab.R,.int .i64 i,j26,j27,j28,j29,j30,j31,j32,j33,j34,j35,j36,j37,j38,j39,j40,j41,j42,j43,j44,j45,j46,j47,j48,j49,j50,j51,j52,j53,j54,j55,j56,j57,j58,j59,j60,j61,j62,j63,j64,j65,j66,j67,j68,j69,j70,j71,j72,j73,j74,j75,j76,j77,j78],nofH T (i * T.tab.C) g,[],0,[20]⟩) fun e t=>
     e=.exit 0∧∃ (g':Nat),FrP 79 [(1,.ptr 0 0 0 0),(3,.ptr 3 0 0 0),(4,.func 134 [] [.ptr 3 0 0 0])] (nofH T (T.tab.R * T.tab.C) g') [] 0 [20] t:=by
 have hR8:=hok.R8
 intro n
 induction n with
 | zero=>
   intro i g;intros;rename_i hi
   have hd:decide ((i:Int) < (T.tab.R:Int))=false:=by simp;omega
   have:i=T.tab.R:=by omega
   subst this
   simp only [go_sem,simprocAttr,Try.f121]
   rw [exec_loop]
   simp only [go_sem,simprocAttr,hd]
   exact ⟨g,frP (by kernel_rfl)⟩
 | succ n ih=>
   intro i g;intros;rename_i hi
   have hiR:i < T.tab.R:=by omega
   have hd:decide ((i:Int) < (T.tab.R:Int))=true:=by simp;omega
   have h0:(0:Int)≤(i:Int):=by omega
   obtain ⟨c,hcm,c1,_,c3,c4,c5⟩:=TabV.at hT hok hiR (show 0 < T.tab.C from hok.C1)
   have hc:∀ k,k < T.tab.C→(c.l.map spV)[k]?=some (spV (T.tab.cell i k)):=fun k hk=>by
    obtain ⟨x,hx,_⟩:=z0T (show k < c.l.length by omega)
    have:T.tab.cell i k=x:=by unfold Tab.cell;rw [c5];exact getD_some hx
    simp [hx,this]
   obtain ⟨e,t,hx,hp⟩:=zKa hT hok hiR hc T.tab.C 0 g _ _ _ _ _ _ _ _ _ _ _ _ _ _ _ _ _ _ _ _ _ _ _ _ _ _ _ _ _ _ _ _ _ _ _ _ _ _ _ _ _ _ _ _ _ _ _ _ _ _ _ _ _ _ _ _ _ _ _ _ _ _ _ _ _ _ _ _ _ (by omega)
   obtain ⟨rfl,g',jp,rfl⟩:=hp
   have ih':=ih (i+1) g'
   rw [Nat.succ_mul] at ih'
   simp only [go_sem,simprocAttr,Try.f121,z2x,boxT,z0B,c3,Int.ofNat_zero,Int.natCast_zero] at ih' hx ⊢
   rw [exec_loop]
   simp only [go_sem,simprocAttr,hd,h0,Int.toNat_natCast,c1,c3,List.length_map,c4]
   rw [hx]
   simp only [go_sem,simprocAttr,z2x,boxT,z0B,z00 (show i < 2 ^ 63 - 1 by omega)]
   exact ih' _ _ _ _ _ _ _ _ _ _ _ _ _ _ _ _ _ _ _ _ _ _ _ _ _ _ _ _ _ _ _ _ _ _ _ _ _ _ _ _ _ _ _ _ _ _ _ _ _ _ _ _ _ _ _ _ _ _ _ _ _ _ _ _ _ _ _ _ _ _ _ _ _ (by omega)
theorem zMm {T:TabV} (hT:T.Wf) (hok:T.tab.Ok):∀ (n i g:Nat) (j0 j2 j5 j6 j7 j8 j9 j10 j11 j12 j13 j14 j15 j16 j17 j18 j19 j20 j21 j22 j23 j24 j25 j26 j27 j28 j29 j30 j31 j32 j33 j34 j35 j36 j37 j38 j39 j40 j41 j42 j43 j44 j45 j46 j47 j48 j52 j53 j54 j55 j56 j57 j58 j59 j60 j61 j62 j63 j64 j65 j66 j67 j68 j69 j70 j71 j72 j73 j74 j75 j76 j77 j78:AVal),i+n=T.tab.R →
    Goes (execT env (Try.f121.at [1,1,1,1,0,1,0]) ⟨[j0,.ptr 0 0 0 0,j2,.ptr 3 0 0 0,.func 134 [] [.ptr 3 0 0 0],j5,j6,j7,j8,j9,j10,j11,j12,j13,j14,j15,j16,j17,j18,j19,j20,j21,j22,j23,j24,j25,j26,j27,j28,j29,j30,j31,j32,j33,j34,j35,j36,j37,j38,j39,j40,j41,j42,j43,j44,j45,j46,j47,j48,.lit T.rows.cl 2 (T.rows.l.map spV),.int .i64 T.tab.R,.int .i64 i,j52,j53,j54,j55,j56,j57,j58,j59,j60,j61,j62,j63,j64,j65,j66,j67,j68,j69,j70,j71,j72,j73,j74,j75,j76,j77,j78],nofH T (T.tab.R * T.tab.C+i) g,[],0,[20]⟩) fun e t=>
     e=.exit 4∧∃ (g':Nat),FrP 79 [(1,.ptr 0 0 0 0),(3,.ptr 3 0 0 0),(4,.func 134 [] [.ptr 3 0 0 0])] (nofH T (T.tab.R * T.tab.C+T.tab.R) g') [] 0 [20] t:=by
 have hR8:=hok.R8
 have hC8:=hok.C8
 intro n
 induction n with
 | zero=>
   intro i g;intros;rename_i hi
   have hd:decide ((i:Int) < (T.tab.R:Int))=false:=by simp;omega
   have:i=T.tab.R:=by omega
   subst this
   simp only [go_sem,simprocAttr,Try.f121]
   rw [exec_loop]
   simp only [go_sem,simprocAttr,hd]
   exact ⟨g,frP (by kernel_rfl)⟩
 | succ n ih=>
   intro i g;intros;rename_i hi
   have hiR:i < T.tab.R:=by omega
   have hd:decide ((i:Int) < (T.tab.R:Int))=true:=by simp;omega
   have h0:(0:Int)≤(i:Int):=by omega
   obtain ⟨hx,_⟩:=TabV.rowAt hT hiR
   obtain ⟨e1,e2,e3⟩:=T.tab.net_row hiR
   have hm:T.tab.R * T.tab.C+i < 2 ^ 30:=by
    have:T.tab.R * T.tab.C≤8 * 8:=Nat.mul_le_mul hR8 hC8
    omega
   have harc:arcV 0 (1+i) (T.tab.row i).lo (T.tab.row i).hi 0=z6W T.tab.net z2e (T.tab.R * T.tab.C+i):=by
    unfold z6W
    rw [e1,e2,show T.tab.net.lo (T.tab.R * T.tab.C+i)=(T.tab.row i).lo by show (T.tab.span _).lo=_;rw [e3],show T.tab.net.hi (T.tab.R * T.tab.C+i)=(T.tab.row i).hi by show (T.tab.span _).hi=_;rw [e3]]
    rfl
   have hA:=z7Z T (T.tab.R * T.tab.C+i) g [.cells 0 2 true [spV (T.tab.row i)]]
   have rc:=zCt hA (i:=i) (by omega) 0 5
   obtain ⟨g',ac⟩:=zC6 T (T.tab.R * T.tab.C+i) g hm [.cells 0 2 true [spV (T.tab.row i)]] _ _ _ harc 5
   have l2:=hA.looks
   have l3:=z8R T (T.tab.R * T.tab.C+i) g [.cells 0 2 true [spV (T.tab.row i)]]
   have ih':=ih (i+1) g'
   rw [show T.tab.R * T.tab.C+(i+1)=T.tab.R * T.tab.C+i+1 from rfl] at ih'
   simp only [z2x,List.cons_append,List.nil_append,boxT,z0B,Int.natCast_zero,Int.ofNat_zero] at rc ac l2 l3
   simp only [go_sem,simprocAttr,Try.f121,z2x,boxT,z0B] at ih' ⊢
   rw [exec_loop]
   simp only [go_sem,simprocAttr,hd,h0,Int.toNat_natCast,hx,rc,l2,l3,ac]
   rw [apart_ok]
   · simp only [go_sem,simprocAttr,trunc,z8Y,TabV.under,List.map_cons,List.map_nil,z00 (show i < 2 ^ 63 - 1 by omega)]
     exact ih' _ _ _ _ _ _ _ _ _ _ _ _ _ _ _ _ _ _ _ _ _ _ _ _ _ _ _ _ _ _ _ _ _ _ _ _ _ _ _ _ _ _ _ _ _ _ _ _ _ _ _ _ _ _ _ _ _ _ _ _ _ _ _ _ _ _ _ _ _ _ _ _ _ (by omega)
   · kernel_rfl
theorem zMl {T:TabV} (hT:T.Wf) (hok:T.tab.Ok):∀ (n i g:Nat) (j0 j2 j5 j6 j7 j8 j9 j10 j11 j12 j13 j14 j15 j16 j17 j18 j19 j20 j21 j22 j23 j24 j25 j26 j27 j28 j29 j30 j31 j32 j33 j34 j35 j36 j37 j38 j39 j40 j41 j42 j43 j44 j45 j46 j47 j48 j49 j50 j51 j52 j53 j54 j55 j56 j57 j58 j59 j60 j61 j62 j63 j67 j68 j69 j70 j71 j72 j73 j74 j75 j76 j77 j78:AVal),i+n=T.tab.C →
    Goes (execT env (Try.f121.at [1,1,1,1,1,0,1,0]) ⟨[j0,.ptr 0 0 0 0,j2,.ptr 3 0 0 0,.func 134 [] [.ptr 3 0 0 0],j5,j6,j7,j8,j9,j10,j11,j12,j13,j14,j15,j16,j17,j18,j19,j20,j21,j22,j23,j24,j25,j26,j27,j28,j29,j30,j31,j32,j33,j34,j35,j36,j37,j38,j39,j40,j41,j42,j43,j44,j45,j46,j47,j48,j49,j50,j51,j52,j53,j54,j55,j56,j57,j58,j59,j60,j61,j62,j63,.lit T.cols.cl 2 (T.cols.l.map spV),.int .i64 T.tab.C,.int .i64 i,j67,j68,j69,j70,j71,j72,j73,j74,j75,j76,j77,j78],nofH T (T.tab.R * T.tab.C+T.tab.R+i) g,[],0,[20]⟩) fun e t=>
     e=.exit 6∧∃ (g':Nat),FrP 79 [(3,.ptr 3 0 0 0)] (nofH T (T.tab.R * T.tab.C+T.tab.R+T.tab.C) g') [] 0 [20] t:=by
 have hR8:=hok.R8
 have hC8:=hok.C8
 intro n
 induction n with
 | zero=>
   intro i g;intros;rename_i hi
   have hd:decide ((i:Int) < (T.tab.C:Int))=false:=by simp;omega
   have:i=T.tab.C:=by omega
   subst this
   simp only [go_sem,simprocAttr,Try.f121]
   rw [exec_loop]
   simp only [go_sem,simprocAttr,hd]
   exact ⟨g,frP (by kernel_rfl)⟩
 | succ n ih=>
   intro i g;intros;rename_i hi
   have hiR:i < T.tab.C:=by omega
   have hd:decide ((i:Int) < (T.tab.C:Int))=true:=by simp;omega
   have h0:(0:Int)≤(i:Int):=by omega
   obtain ⟨hx,_⟩:=TabV.colAt hT hiR
   obtain ⟨e1,e2,e3⟩:=T.tab.net_col (k:=i)
   have hm:T.tab.R * T.tab.C+T.tab.R+i < 2 ^ 30:=by
    have:T.tab.R * T.tab.C≤8 * 8:=Nat.mul_le_mul hR8 hC8
    omega
   have harc:arcV (1+T.tab.R+i) 0 (T.tab.col i).lo (T.tab.col i).hi 0=z6W T.tab.net z2e (T.tab.R * T.tab.C+T.tab.R+i):=by
    unfold z6W
    rw [e1,e2,show T.tab.net.lo (T.tab.R * T.tab.C+T.tab.R+i)=(T.tab.col i).lo by show (T.tab.span _).lo=_;rw [e3],show T.tab.net.hi (T.tab.R * T.tab.C+T.tab.R+i)=(T.tab.col i).hi by show (T.tab.span _).hi=_;rw [e3]]
    rfl
   have hA:=z7Z T (T.tab.R * T.tab.C+T.tab.R+i) g [.cells 0 2 true [spV (T.tab.col i)]]
   have rc:=zCG hA hR8 (i:=i) (by omega) 0 5
   obtain ⟨g',ac⟩:=zC6 T (T.tab.R * T.tab.C+T.tab.R+i) g hm [.cells 0 2 true [spV (T.tab.col i)]] _ _ _ harc 5
   have l2:=hA.looks
   have l3:=z8R T (T.tab.R * T.tab.C+T.tab.R+i) g [.cells 0 2 true [spV (T.tab.col i)]]
   have ih':=ih (i+1) g'
   rw [show T.tab.R * T.tab.C+T.tab.R+(i+1)=T.tab.R * T.tab.C+T.tab.R+i+1 from rfl] at ih'
   simp only [z2x,List.cons_append,List.nil_append,boxT,z0B,Int.natCast_zero,Int.ofNat_zero] at rc ac l2 l3
   simp only [go_sem,simprocAttr,Try.f121,z2x,boxT,z0B] at ih' ⊢
   rw [exec_loop]
   simp only [go_sem,simprocAttr,hd,h0,Int.toNat_natCast,hx,rc,l2,l3,ac]
   rw [apart_ok]
   · simp only [go_sem,simprocAttr,trunc,z8Y,TabV.under,List.map_cons,List.map_nil,z00 (show i < 2 ^ 63 - 1 by omega)]
     exact ih' _ _ _ _ _ _ _ _ _ _ _ _ _ _ _ _ _ _ _ _ _ _ _ _ _ _ _ _ _ _ _ _ _ _ _ _ _ _ _ _ _ _ _ _ _ _ _ _ _ _ _ _ _ _ _ _ _ _ _ _ _ _ _ _ _ _ _ _ _ _ _ _ _ (by omega)
   · kernel_rfl
theorem zQ1 {T:TabV} (hT:T.Wf) (hok:T.tab.Ok):∃ g,runT env 121 [T.v] [] 0=some (.ret (.ptr 2 0 0 0),nofH T T.tab.net.n g):=by
 obtain ⟨e1,t1,hx1,hp1⟩:=zKZ hT hok T.tab.R 0 0 _ _ _ _ _ _ _ _ _ _ _ _ _ _ _ _ _ _ _ _ _ _ _ _ _ _ _ _ _ _ _ _ _ _ _ _ _ _ _ _ _ _ _ _ _ _ _ _ _ _ _ _ _ _ _ _ _ _ _ _ _ _ _ _ _ _ _ _ _ _ _ _ _ (by omega)
 obtain ⟨rfl,g1,jp,rfl⟩:=hp1
 obtain ⟨e2,t2,hx2,hp2⟩:=zMm hT hok T.tab.R 0 g1 _ _ _ _ _ _ _ _ _ _ _ _ _ _ _ _ _ _ _ _ _ _ _ _ _ _ _ _ _ _ _ _ _ _ _ _ _ _ _ _ _ _ _ _ _ _ _ _ _ _ _ _ _ _ _ _ _ _ _ _ _ _ _ _ _ _ _ _ _ _ _ _ _ (by omega)
 obtain ⟨rfl,g2,jq,rfl⟩:=hp2
 obtain ⟨e3,t3,hx3,hp3⟩:=zMl hT hok T.tab.C 0 g2 _ _ _ _ _ _ _ _ _ _ _ _ _ _ _ _ _ _ _ _ _ _ _ _ _ _ _ _ _ _ _ _ _ _ _ _ _ _ _ _ _ _ _ _ _ _ _ _ _ _ _ _ _ _ _ _ _ _ _ _ _ _ _ _ _ _ _ _ _ _ _ _ _ (by omega)
 obtain ⟨rfl,g3,jr,rfl⟩:=hp3
 refine ⟨g3,?_⟩
 have c3:T.sz=1:=by
  obtain ⟨_,_,_,_,h,_⟩:=TabV.at hT hok (show 0 < T.tab.R from hok.R1) (show 0 < T.tab.C from hok.C1)
  exact h
 have r2:=(TabV.rowAt hT (show 0 < T.tab.R from hok.R1)).2
 have k2:=(TabV.colAt hT (show 0 < T.tab.C from hok.C1)).2
 have lR:T.cells.length=T.tab.R:=by have:=hok.len;simpa [TabV.tab] using this
 have lr:T.rows.l.length=T.tab.R:=rfl
 have lc:T.cols.l.length=T.tab.C:=rfl
 have e0:arcL T.tab.net 0=[]:=rfl
 simp only [go_sem,simprocAttr,Try.f121,z2x,boxT,z0B,c3,Int.ofNat_zero,Int.natCast_zero,Nat.zero_mul,e0,z1c,z1d,netB] at hx1
 simp only [go_sem,simprocAttr,Try.f121,z2x,boxT,z0B,Nat.add_zero,Int.ofNat_zero,Int.natCast_zero,netB] at hx2 hx3
 rw [run_unfold fn121 rfl]
 simp only [go_sem,simprocAttr,Try.f121,c3,r2,k2,List.length_map,lR,lr,lc,z0I]
 rw [hx1]
 simp only [go_sem,simprocAttr,z2x,boxT,z0B,r2,k2,List.length_map,lr,lc]
 rw [hx2]
 simp only [go_sem,simprocAttr,z2x,boxT,z0B,r2,k2,List.length_map,lr,lc]
 rw [hx3]
 simp only [go_sem,simprocAttr,z2x,boxT,z0B,unwind,modeEx,resultsOf,one]
 rfl
end Go.Proofs.Ytgfejpngfikjiaa.Tidy
