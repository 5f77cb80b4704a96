/-
 What the functions that SharesTablesSpec reaches compute;the law,run.
-/
import Derived.Test.YtgfejpngfikjiaaWc
import Derived.Test.YtgfejpngfikjiaaCe
import Derived.Test.YtgfejpngfikjiaaWb
import Derived.Test.YtgfejpngfikjiaaCf
import Derived.Test.YtgfejpngfikjiaaWa
set_option linter.all false
namespace Go.Proofs.Ytgfejpngfikjiaa.Tidy
open Go Go.IntWalk
set_option maxRecDepth 10000
set_option linter.unusedSimpArgs false
set_option maxHeartbeats 4000000
structure TbV (H:Heap) (a b q ga gb g:Nat) (rf:Nat→Nat × Nat) (t:Tab):Prop where
 rows:H[a]?=some (.cells ga 2 true (t.rows.map spV))
 cols:H[b]?=some (.cells gb 2 true (t.cols.map spV))
 acc:H[q]?=some (.cells g 1 false (vecA t.R fun i=>.ref (rf i).1 (rf i).2 0 t.C false))
 row:∀ i,i < t.R→H[(rf i).1]?=some (.cells (rf i).2 2 true (rowA t i))
 ab:a ≠ b
 aq:a ≠ q
 bq:b ≠ q
theorem TbV.rowsLit {H:Heap} {a b q ga gb g:Nat} {rf:Nat→Nat × Nat} {t:Tab} (h:TbV H a b q ga gb g rf t) (hl:t.cells.length=t.R) (hw:∀ l ∈ t.cells,l.length=t.C) (n:Nat):mapO (Tidy.toLit (fun _=>true) H (n+1)) (vecA t.R fun i=>AVal.ref (rf i).1 (rf i).2 0 t.C false)=some (t.cells.map fun l=>.lit false 2 (l.map spV)):=by
 rw [← zBh hl]
 have gen:∀ l:List Nat,(∀ i ∈ l,i < t.R)→mapO (Tidy.toLit (fun _=>true) H (n+1)) (l.map fun i=>AVal.ref (rf i).1 (rf i).2 0 t.C false)=some (l.map fun i=>AVal.lit false 2 (rowA t i)):=by
  intro l
  induction l with
  | nil=>intro _;rfl
  | cons i l ih=>
    intro hl'
    have hi:=hl' i (by simp)
    have hr:=h.row i hi
    have hrl:=z0V hl hw hi
    have htk:(rowA t i).take t.C=rowA t i:=List.take_of_length_le (by omega)
    simp only [List.map_cons,mapO,ih fun j hj=>hl' j (by simp [hj])]
    simp [Tidy.toLit,noRef,AVal.under,hr,hrl,htk]
 exact gen _ fun i hi=>List.mem_range.1 hi
theorem TbV.toLit {H:Heap} {a b q ga gb g:Nat} {rf:Nat→Nat × Nat} {t:Tab} (h:TbV H a b q ga gb g rf t) (hl:t.cells.length=t.R) (hw:∀ l ∈ t.cells,l.length=t.C) (n:Nat):Tidy.toLit (fun _=>true) H (n+3) (memT t a b q ga gb g)=some (canon t).v:=by
 have t1:(t.rows.map spV).take t.R=t.rows.map spV:=List.take_of_length_le (by rw [List.length_map];exact Nat.le_refl _)
 have t2:(t.cols.map spV).take t.C=t.cols.map spV:=List.take_of_length_le (by rw [List.length_map];exact Nat.le_refl _)
 have t3:(vecA t.R fun i=>AVal.ref (rf i).1 (rf i).2 0 t.C false).take t.R=vecA t.R fun i=>AVal.ref (rf i).1 (rf i).2 0 t.C false:=List.take_of_length_le (by rw [z0C];exact Nat.le_refl _)
 have lr:t.rows.length=t.R:=rfl
 have lc:t.cols.length=t.C:=rfl
 have hm:=h.rowsLit hl hw n
 have ec:(canon t).v=.agg [.lit false 2 (t.rows.map spV),.lit false 2 (t.cols.map spV),.lit false 1 (t.cells.map fun l=>.lit false 2 (l.map spV))]:=by
  unfold canon TabV.v
  simp only [List.map_map]
  rfl
 have ea:Tidy.toLit (fun _=>true) H (n+2) (.ref a ga 0 t.R false)=some (.lit false 2 (t.rows.map spV)):=by
  simp [Tidy.toLit,noRef,AVal.under,h.rows,t1,lr]
 have eb:Tidy.toLit (fun _=>true) H (n+2) (.ref b gb 0 t.C false)=some (.lit false 2 (t.cols.map spV)):=by
  simp [Tidy.toLit,noRef,AVal.under,h.cols,t2,lc]
 have eq:Tidy.toLit (fun _=>true) H (n+2) (.ref q g 0 t.R false)=some (.lit false 1 (t.cells.map fun l=>.lit false 2 (l.map spV))):=by
  unfold Tidy.toLit
  simp only [noRef,AVal.under,Nat.not_lt_zero,decide_false,Bool.false_eq_true,if_false,h.acc,decide_true,Nat.zero_add,z0C,Nat.le_refl,Bool.and_true,if_true,List.drop_zero,t3,hm]
  rfl
 rw [ec]
 unfold Tidy.toLit
 simp only [memT,noRef,AVal.under,underL,Nat.not_lt_zero,decide_false,Bool.false_and,Bool.false_eq_true,if_false,mapO,ea,eb,eq]
 rfl
theorem TbV.refs {t:Tab} {rf:Nat→Nat × Nat}:refsL (vecA t.R fun i=>AVal.ref (rf i).1 (rf i).2 0 t.C false)=vecA t.R fun i=>(rf i).1:=by
 unfold vecA
 induction (List.range t.R) with
 | nil=>rfl
 | cons i l ih=>simp [refsL,AVal.refs,ih]
theorem TbV.lend {H:Heap} {a b q ga gb g:Nat} {rf:Nat→Nat × Nat} {t:Tab} (h:TbV H a b q ga gb g rf t) (hR:t.R≤8) (hl:t.cells.length=t.R) (hw:∀ l ∈ t.cells,l.length=t.C) {lits:List Nat} (h0:lits.contains 0=true) {args:List AVal} (ha:underL 0 args=true):∃ ids,Tidy.lend H lits (memT t a b q ga gb g :: args) 0=some ((canon t).v :: args,ids):=by
 have hlit:=h.toLit hl hw 5
 have hre:∃ l,reach H fuel0 (memT t a b q ga gb g).refs []=some l:=by
  have hrefs:(memT t a b q ga gb g).refs=[a,b,q]:=rfl
  rw [hrefs]
  have hab:b ≠ a:=Ne.symm h.ab
  have haq:q ≠ a:=Ne.symm h.aq
  have hbq:q ≠ b:=Ne.symm h.bq
  have hrl:=TbV.refs (t:=t) (rf:=rf)
  obtain ⟨l,hl⟩:=z3M (H:=H) (vecA t.R fun i=>(rf i).1) [a,b,q] 61 (fun id hid=>by
   unfold vecA at hid
   obtain ⟨i,hi,rfl⟩:=List.mem_map.1 hid
   exact ⟨_,_,_,h.row i (List.mem_range.1 hi)⟩) (by rw [z0C];omega)
  refine ⟨l,?_⟩
  unfold fuel0
  simp [reach,h.rows,h.cols,h.acc,hab,haq,hbq,hrl,hl]
 obtain ⟨l,hre⟩:=hre
 have hnr:noRef (memT t a b q ga gb g)=false:=rfl
 refine ⟨l++[],?_⟩
 unfold Tidy.lend
 rw [lend_noRef H lits args 1 ha]
 simp only [h0,hnr,Bool.not_false,Bool.and_self,if_true,hlit,hre]
theorem TbV.ask {t:Tab} {H:Heap} {a b q ga gb g:Nat} {rf:Nat→Nat × Nat} (hat:TbV H a b q ga gb g rf t) (hR:t.R≤8) (hl:t.cells.length=t.R) (hw:∀ l ∈ t.cells,l.length=t.C) {f:Nat} {args:List AVal} {w:AVal} {X:Heap} (h1:(env.hint f).whole=false) (h2:(env.hint f).keepAll=false) (h3:(env.hint f).keep=[]) (h4:(env.hint f).ro=false) (h5:(env.hint f).lits.contains 0=true) (h6:underL 0 args=true)
    (hr:runT env f ((canon t).v :: args) [] 0=some (.ret w,X)) (hn:noRef w=true) (hnl:w.noLit=true) (nx:Nat):callT env f (memT t a b q ga gb g :: args) 0 H nx=some (.ret w,.ups []):=by
 obtain ⟨ids,hle⟩:=hat.lend hR hl hw h5 h6
 have hu:underL 0 ((canon t).v :: args)=true:=by simp only [underL,TabV.under,h6,Bool.and_self]
 obtain ⟨us,mc,hus⟩:=z21 h1 h2 h3 h4 hle hu hr (handBack_noRef _ _ _ _ _ hn) hn nx
 rw [hus hnl] at mc
 exact mc
theorem TbV.back {H:Heap} {a b q ga gb g:Nat} {rf:Nat→Nat × Nat} {t:Tab} (h:TbV H a b q ga gb g rf t) (hl:t.cells.length=t.R) (hw:∀ l ∈ t.cells,l.length=t.C) (n:Nat):handBack H 0 [] (n+1+1) (memT t a b q ga gb g)=some (canon t).v:=by
 have hf:(fun j=>decide (0≤j) && !([]:List Nat).contains j)=fun _:Nat=>true:=by funext j;simp
 exact zIY (r1:=[]) (r3:=[]) (by rw [List.append_nil];exact h.rows) h.cols (by rw [List.append_nil];exact h.acc) (by rw [hf];exact h.rowsLit hl hw 6) (z0C _ _)
theorem zFg {T:TabV} (hT:T.Wf) (hO:T.tab.Ok) {X:Heap} {D:Nat} (hX:X.length=D) (h0:X[0]?=some (.cells 0 3 false [T.v])) {a b:Nat} (ha:a < T.tab.R) (hb:b < T.tab.R) (hD:0 < D):∀ (n k:Nat) (j0 j4 j5 j7 j8 j10 j13 j14 j15 j16 j17 j18 j19 j20 j21 j22 j23 j24 j25 j26 j27 j28 j29 j30 j31 j32 j33 j34 j35 j36 j37 j38 j39 j40 j41 j42 j43 j44 j45 j46 j47 j48 j49 j50 j51 j52 j53 j54 j55 j56 j57 j58 j59 j60 j61 j62 j63 j64 j65 j66 j67 j68 j69 j70 j71 j72 j73 j74 j75 j76 j77 j78 j79 j80 j81 j82 j83 j84 j85 j86 j87 j88 j89 j90 j91 j92 j93 j94 j95 j96 j97 j98 j99 j100 j101 j102 j103 j104 j105 j106 j107 j108 j109 j110 j111 j112 j113 j114 j115 j116 j117 j118 j119 j120 j121 j122 j123 j124 j125 j126 j127 j128 j129 j130:AVal),k+n=T.tab.C →
    Goes (execT env (Try.f71.at [1,1,1,1,1,1,1,0,1,0]) ⟨[j0,.int .i64 a,.int .i64 b,.ptr 0 0 0 0,j4,j5,.ptr 1 0 0 0,j7,j8,.ptr 6 0 0 0,j10,.ref D k 0 k false,.int .i64 k,j13,j14,j15,j16,j17,j18,j19,j20,j21,j22,j23,j24,j25,j26,j27,j28,j29,j30,j31,j32,j33,j34,j35,j36,j37,j38,j39,j40,j41,j42,j43,j44,j45,j46,j47,j48,j49,j50,j51,j52,j53,j54,j55,j56,j57,j58,j59,j60,j61,j62,j63,j64,j65,j66,j67,j68,j69,j70,j71,j72,j73,j74,j75,j76,j77,j78,j79,j80,j81,j82,j83,j84,j85,j86,j87,j88,j89,j90,j91,j92,j93,j94,j95,j96,j97,j98,j99,j100,j101,j102,j103,j104,j105,j106,j107,j108,j109,j110,j111,j112,j113,j114,j115,j116,j117,j118,j119,j120,j121,j122,j123,j124,j125,j126,j127,j128,j129,j130],X++[accN ((z0T T.tab a b k).map spV)],[],0,[9,11,74,123]⟩) fun ex st=>
     ex=.exit 2∧FrP 131 [(1,.int .i64 a),(2,.int .i64 b),(3,.ptr 0 0 0 0),(6,.ptr 1 0 0 0),(9,.ptr 6 0 0 0),(11,.ref D T.tab.C 0 T.tab.C false)] (X++[accN ((z0T T.tab a b T.tab.C).map spV)]) [] 0 [9,11,74,123] st:=by
 have hR8:=hO.R8
 have hC8:=hO.C8
 have ll:T.cells.length=T.tab.R:=by have:=hO.len;simpa [TabV.tab] using this
 have lc:T.cols.l.length=T.tab.C:=rfl
 have h0':∀ z,(X++[z])[0]?=some (.cells 0 3 false [T.v]):=fun z=>by rw [z4d hX _ hD];exact h0
 have hL:∀ z,(X++[z]).length=D+1:=fun z=>z06 hX z
 intro n
 induction n with
 | zero=>
   intro k;intros;rename_i hk
   have hd:decide ((k:Int) < (T.tab.C:Int))=false:=by simp;omega
   have hk':k=T.tab.C:=by omega
   subst hk'
   simp only [go_sem,simprocAttr,Try.f71]
   rw [exec_loop]
   simp only [go_sem,simprocAttr,h0',List.length_map,lc,hd]
   exact frP (by kernel_rfl)
 | succ n ih=>
   intro k;intros;rename_i hk
   have hkC:k < T.tab.C:=by omega
   have hd:decide ((k:Int) < (T.tab.C:Int))=true:=by simp;omega
   have k0:(0:Int)≤(k:Int):=by omega
   have a0:(0:Int)≤(a:Int):=by omega
   have b0:(0:Int)≤(b:Int):=by omega
   obtain ⟨ca,_,a1,a2,hsz,a3,_⟩:=TabV.at hT hO ha hkC
   obtain ⟨cb,_,b1,b2,_,b3,_⟩:=TabV.at hT hO hb hkC
   have ba:=hO.cell_ok ha hkC
   have bb:=hO.cell_ok hb hkC
   have pc:=z86 (x:=T.tab.cell a k) (y:=T.tab.cell b k) (i64_in _ (by omega)) (i64_in _ (by omega))
   have ap:=z2M (H:=X++[accN ((z0T T.tab a b k).map spV)]) (id:=D) (n:=k) (es:=(z0T T.tab a b k).map spV) (x:=z0G (T.tab.cell a k) (T.tab.cell b k)) (z08 hX _) (by rw [List.length_map,z2F]) (by omega) (D+1) (ro:=0) (Nat.zero_le _)
   rw [show (z0T T.tab a b k).map spV++[spV (z0G (T.tab.cell a k) (T.tab.cell b k))]=(z0T T.tab a b (k+1)).map spV by rw [z9b,List.map_append];rfl] at ap
   have hst:∀ z z',(X++[z]).set D z'=X++[z']:=fun z z'=>z0d hX z z'
   have htr:∀ Tm z,trunc (D+1) ⟨Tm,X++[z],[],0,[9,11,74,123]⟩=⟨Tm,X++[z],[],0,[9,11,74,123]⟩:=fun Tm z=>zFq (by rw [hL];exact Nat.le_refl _)
   have zD:(D < D+1)=True:=eq_true (by omega)
   have x0:decide (0 < D+1)=true:=decide_eq_true (by omega)
   have xD:decide (D < D+1)=true:=decide_eq_true (by omega)
   have ih':=ih (k+1)
   simp only [go_sem,simprocAttr,Try.f71] at ih' ⊢
   rw [exec_loop]
   simp only [go_sem,simprocAttr,h0',hd,a0,b0,k0,Int.toNat_natCast,List.length_map,lc,ll,a1,a2,a3,b1,b2,b3,hsz,pc,hL,ap,hst,zD,x0,xD,htr,Nat.zero_le]
   rw [apart_ok (z0L (by kernel_rfl))]
   simp only [go_sem,simprocAttr,hL,htr,z00 (show k < 2 ^ 63 - 1 by omega)]
   exact ih' _ _ _ _ _ _ _ _ _ _ _ _ _ _ _ _ _ _ _ _ _ _ _ _ _ _ _ _ _ _ _ _ _ _ _ _ _ _ _ _ _ _ _ _ _ _ _ _ _ _ _ _ _ _ _ _ _ _ _ _ _ _ _ _ _ _ _ _ _ _ _ _ _ _ _ _ _ _ _ _ _ _ _ _ _ _ _ _ _ _ _ _ _ _ _ _ _ _ _ _ _ _ _ _ _ _ _ _ _ _ _ _ _ _ _ _ _ _ _ _ _ _ _ _ (by omega)
theorem zEz {t:Tab} (hO:t.Ok) (i k:Int):badM t i k=(outB t i 0 || (outB t k 0 || decide (i=k))):=by
 have h0:decide ((t.C:Int)≤0)=false:=decide_eq_false (by have:=hO.C1;omega)
 unfold badM outB
 rw [h0]
 simp [Bool.or_assoc]
structure RmAt (T:TabV) (a b:Nat) (H:Heap) (n D:Nat):Prop where
 len:(idxs a b T.tab.R).length=n
 rows:H[7]?=some (.cells n 2 true (((idxs a b T.tab.R).map fun i=>spV (T.tab.row i))++[spV (z0G (T.tab.row a) (T.tab.row b))]))
 cols:H[2]?=some (.cells 0 2 true (T.cols.l.map spV))
 acc:H[10]?=some (.cells n 1 false (mkA T n++[.ref D T.tab.C 0 T.tab.C false]))
 kept:∀ i j,(idxs a b T.tab.R)[i]?=some j→H[mkP i]?=some (.cells 0 2 true (rowA T.tab j))
 sums:H[D]?=some (.cells T.tab.C 2 true ((z0T T.tab a b T.tab.C).map spV))
 big:7 < D
def rmF (C n D:Nat) (i:Nat):Nat × Nat:=if i < n then (mkP i,0) else (D,C)
theorem RmAt.tab {T:TabV} (hO:T.tab.Ok) {a b:Nat} (hab:a ≠ b) (ha:a < T.tab.R) (hb:b < T.tab.R) {H:Heap} {n D:Nat} (h:RmAt T a b H n D):TbV H 7 2 10 n 0 n (rmF T.tab.C n D) (z0a T.tab a b):=by
 have mR:=z7i hO.R8 hab ha hb
 have mrow:=z83 hO.R8 hab ha hb
 have mcel:=z6s hO.R8 hO.len hab ha hb
 rw [h.len] at mR
 have mC:(z0a T.tab a b).C=T.tab.C:=rfl
 refine ⟨?_,h.cols,?_,fun i hi=>?_,by decide,by decide,by decide⟩
 · rw [h.rows,mrow,List.map_append,List.map_map];rfl
 · rw [h.acc,mR,z9j,mC]
   have e1:vecA n (fun i=>AVal.ref (rmF T.tab.C n D i).1 (rmF T.tab.C n D i).2 0 T.tab.C false)=mkA T n:=by
    unfold mkA vecA
    refine List.map_congr_left fun i hi=>?_
    have:=List.mem_range.1 hi
    simp only [rmF,if_pos this]
   have e2:rmF T.tab.C n D n=(D,T.tab.C):=if_neg (Nat.lt_irrefl _)
   rw [e1,e2]
 · rw [mR] at hi
   unfold rowA
   rw [mcel]
   by_cases e:i < n
   · have hL:i < (idxs a b T.tab.R).length:=by rw [h.len];exact e
     have hk:=h.kept i _ (List.getElem?_eq_getElem hL)
     simp only [rmF,if_pos e]
     rw [hk,List.getD_eq_getElem?_getD,List.getElem?_append_left (by rw [List.length_map];exact hL),List.getElem?_map,List.getElem?_eq_getElem hL]
     rfl
   · have:i=n:=by omega
     subst this
     simp only [rmF,if_neg e]
     rw [h.sums,List.getD_eq_getElem?_getD,List.getElem?_append_right (by rw [List.length_map,h.len];exact Nat.le_refl _),List.length_map,h.len,Nat.sub_self]
     rfl
theorem RmAt.set1 {T:TabV} {a b:Nat} {H:Heap} {n D:Nat} (h:RmAt T a b H n D) (x:Blk):RmAt T a b (H.set 1 x) n D:=by
 have hD:=h.big
 have e:∀ j,j ≠ 1→(H.set 1 x)[j]?=H[j]?:=fun j hj=>List.getElem?_set_ne (Ne.symm hj)
 refine ⟨h.len,?_,?_,?_,fun i j hj=>?_,?_,hD⟩
 · rw [e _ (by decide)];exact h.rows
 · rw [e _ (by decide)];exact h.cols
 · rw [e _ (by decide)];exact h.acc
 · rw [e _ (by cases i with
     | zero=>decide
     | succ i=>show 2 * i+11 ≠ 1;omega)];exact h.kept i j hj
 · rw [e _ (by omega)];exact h.sums
theorem RmAt.fin {T:TabV} (hO:T.tab.Ok) {a b:Nat} (hab:a ≠ b) (ha:a < T.tab.R) (hb:b < T.tab.R) {H:Heap} {n D:Nat} (h:RmAt T a b H n D):
    (∀ nx,callT env 48 [.agg [.ref 7 n 0 (n+1) false,.ref 2 0 0 T.tab.C false,.ref 10 n 0 (n+1) false]] 0 H nx=some (.ret (.int .i64 (ckS (z0a T.tab a b))),.ups [])) ∧
      ∀ x,handBack (H.set 1 x) 0 [] 3 (.agg [.ref 7 n 0 (n+1) false,.ref 2 0 0 T.tab.C false,.ref 10 n 0 (n+1) false])=some (canon (z0a T.tab a b)).v:=by
 have mR:=z7i hO.R8 hab ha hb
 rw [h.len] at mR
 have hn:n+1≤8:=by
  have h1:(idxs a b T.tab.R).length+1=n+1:=by rw [h.len]
  obtain ⟨m,hm⟩:∃ m,T.tab.R=m+2:=⟨T.tab.R - 2,by omega⟩
  have h2:=z4I hm hab ha hb
  have:=hO.R8
  omega
 have em:memT (z0a T.tab a b) 7 2 10 n 0 n=.agg [.ref 7 n 0 (n+1) false,.ref 2 0 0 T.tab.C false,.ref 10 n 0 (n+1) false]:=by
  unfold memT
  rw [mR];rfl
 obtain ⟨s1,s2⟩:=zBW hO hab ha hb
 have h8:(z0a T.tab a b).R≤8:=by rw [mR];exact hn
 have hW:=z1S h8 hO.C8 s1 s2
 obtain ⟨X,hr⟩:=zAe (canon (z0a T.tab a b)) hW
 rw [z0P] at hr
 rw [← em]
 refine ⟨fun nx=>(h.tab hO hab ha hb).ask h8 s1 s2 rfl rfl rfl rfl rfl rfl hr rfl rfl nx,fun x=>?_⟩
 exact ((h.set1 x).tab hO hab ha hb).back s1 s2 1
theorem zCs {T:TabV} (hT:T.Wf) (i k:Int) (ro:Nat) (H:Heap) (nx:Nat):callT env 71 [T.v,.int .i64 i,.int .i64 k] ro H nx=some (.ret (zE8 T.tab i k),.ups []):=by
 have hu:underL 0 [T.v,.int .i64 i,.int .i64 k]=true:=by simp [underL,AVal.under,TabV.under]
 have ck:=z1X T hT
 have in1:=z3Z T i 0
 have in2:=z3Z T k 0
 unfold zE8
 have pure:∀ n:Int,noRef (.tuple [noTab,.int .i64 n])=true:=fun _=>rfl
 cases hok:T.tab.ok with
 | false=>
   have:∃ H',runT env 71 [T.v,.int .i64 i,.int .i64 k] [] 0=some (.ret (.tuple [noTab,.int .i64 60]),H'):=by
    rw [run_unfold fn71 rfl]
    simp only [go_sem,simprocAttr,Try.f71,ck,z22 hok,unwind,modeEx,resultsOf,one]
    exact ⟨_,rfl⟩
   obtain ⟨H',h⟩:=this
   exact call_pure rfl rfl rfl hu h (pure _) ro H nx
 | true=>
   have hO:=Tab.ok_iff.1 hok
   cases ho:badM T.tab i k with
   | true=>
     have:∃ H',runT env 71 [T.v,.int .i64 i,.int .i64 k] [] 0=some (.ret (.tuple [noTab,.int .i64 1]),H'):=by
      rw [run_unfold fn71 rfl]
      cases o1:outB T.tab i 0 <;> cases o2:outB T.tab k 0 <;> cases o3:decide (i=k) <;>
       first
       | (exfalso;rw [zEz hO,o1,o2,o3] at ho;exact Bool.noConfusion ho)
       | (rw [o1] at in1;rw [o2] at in2
          simp only [go_sem,simprocAttr,Try.f71,ck,z0O hok,in1,in2,o3,Bool.not_true,Bool.not_false,unwind,modeEx,resultsOf,one]
          exact ⟨_,rfl⟩)
     obtain ⟨H',h⟩:=this
     exact call_pure rfl rfl rfl hu h (pure _) ro H nx
   | false=>
     have o:outB T.tab i 0=false∧outB T.tab k 0=false∧decide (i=k)=false:=by
      rw [zEz hO] at ho
      simpa only [Bool.or_eq_false_iff] using ho
     obtain ⟨o1,o2,o3⟩:=o
     rw [o1] at in1
     rw [o2] at in2
     obtain ⟨a,b,rfl,rfl,ha,hb,hab⟩:=zB0 ho
     rw [Int.toNat_natCast,Int.toNat_natCast]
     have a0:(0:Int)≤(a:Int):=by omega
     have b0:(0:Int)≤(b:Int):=by omega
     have hR8:=hO.R8
     have hC8:=hO.C8
     have hC1:=hO.C1
     have lr:T.rows.l.length=T.tab.R:=rfl
     have lc:T.cols.l.length=T.tab.C:=rfl
     obtain ⟨ga,z1⟩:=TabV.rowAt hT ha
     obtain ⟨gb,_⟩:=TabV.rowAt hT hb
     have z2:T.cols.sz=2:=(TabV.colAt hT (show 0 < T.tab.C from hC1)).2
     have bt:∀ C,build env ⟨.struct [(22,0),(22,1),(23,2)],3,72,.agg [.lit true 0 [],.lit true 0 [],.lit true 0 []]⟩ [(1,.ref 2 0 0 C false)]=some (.agg [.lit true 0 [],.ref 2 0 0 C false,.lit true 0 []]):=fun _=>rfl
     have bra:=hO.row_ok ha
     have brb:=hO.row_ok hb
     have pc:=z86 (x:=T.tab.row a) (y:=T.tab.row b) (i64_in _ (by omega)) (i64_in _ (by omega))
     have hcn:T.cols.l.map spV ≠ []:=fun e=>by have:=congrArg List.length e;rw [List.length_map,List.length_nil] at this;omega
     have apc:=fun (H:Heap) (nx:Nat)=>append_lit (E:=env) (ro:=0) (nx:=nx) (sz:=2) (es:=[]) (H:=H) (x:=.lit T.cols.cl T.cols.sz (T.cols.l.map spV)) (nsz:=T.cols.sz) (new:=T.cols.l.map spV) ti22 ti39 rfl ⟨by decide,rfl,rfl⟩ z2 hcn (.inl rfl) (by rw [List.length_map];show (0+T.cols.l.length) * 17≤z04;unfold z04;omega) (fun _=>z29 _)
     have apc':=fun (H:Heap) (nx:Nat)=>append_lit (E:=env) (ro:=0) (nx:=nx) (sz:=0) (es:=[]) (H:=H) (x:=.lit T.cols.cl T.cols.sz (T.cols.l.map spV)) (nsz:=T.cols.sz) (new:=T.cols.l.map spV) ti22 ti39 rfl ⟨by decide,rfl,rfl⟩ z2 hcn (.inl rfl) (by rw [List.length_map];show (0+T.cols.l.length) * 17≤z04;unfold z04;omega) (fun _=>z29 _)
     obtain ⟨ex,st,hx,hp⟩:=zNn hT hO (a:=a) (b:=b) T.tab.R 0 [boxT T,.cells 0 3 false [noTab],.cells 0 2 true (T.cols.l.map spV),.cells 0 0 false [],.cells 0 0 false [],.cells 0 0 false [],mkB T (.lit true 0 []) (.lit true 0 [])] _ _ _ _ _ _ _ _ _ _ _ _ _ _ _ _ _ _ _ _ _ _ _ _ _ _ _ _ _ _ _ _ _ _ _ _ _ _ _ _ _ _ _ _ _ _ _ _ _ _ _ _ _ _ _ _ _ _ _ _ _ _ _ _ _ _ _ _ _ _ _ _ _ _ _ _ _ _ _ _ _ _ _ _ _ _ _ _ _ _ _ _ _ _ _ _ _ _ _ _ _ _ _ _ _ _ _ _ _ _ _ _ _ _ _ _ _ _ _ _ _ _ _ _ _ (by omega) ⟨rfl,rfl,rfl,fun _=>⟨rfl,rfl⟩,fun l h=>(by cases h),fun i j h=>(by simp [idxs] at h)⟩
     obtain ⟨rfl,H0,hA,jp,rfl⟩:=hp
     have h0:=hA.h0
     have hsl:=z2F T.tab a b T.tab.C
     have e0:accN ((z0T T.tab a b 0).map spV)=.cells 0 0 false []:=rfl
     have e1:accN ((z0T T.tab a b T.tab.C).map spV)=.cells T.tab.C 2 true ((z0T T.tab a b T.tab.C).map spV):=by
      have:(z0T T.tab a b T.tab.C).map spV ≠ []:=fun e=>by have:=congrArg List.length e;rw [List.length_map,hsl,List.length_nil] at this;omega
      rw [z2c this,List.length_map,hsl]
     have rows1:(idxs a b T.tab.R).map (fun i=>spV (T.tab.row i))++[spV (z0G (T.tab.row a) (T.tab.row b))]=(idxs a b T.tab.R).map (fun i=>spV (T.tab.row i))++[spV (z0G (T.tab.row a) (T.tab.row b))]:=rfl
     cases hl:(idxs a b T.tab.R).length with
     | zero=>
       have hL0:idxs a b T.tab.R=[]:=List.length_eq_zero_iff.1 hl
       obtain ⟨h6,hlen⟩:=hA.nil hL0
       have apr:=fun (H:Heap) (nx:Nat)=>append_lit (E:=env) (ro:=0) (nx:=nx) (sz:=0) (es:=[]) (H:=H) (x:=.lit true 2 [spV (z0G (T.tab.row a) (T.tab.row b))]) (nsz:=2) (new:=[spV (z0G (T.tab.row a) (T.tab.row b))]) ti22 ti39 rfl ⟨by decide,rfl,rfl⟩ rfl (by simp) (.inl rfl) (by show (0+1) * 17≤z04;decide) (fun _=>rfl)
       obtain ⟨H1,hH1⟩:∃ H1:Heap,H1=(H0++[Blk.cells 0 2 true [spV (z0G (T.tab.row a) (T.tab.row b))]]).set 6 (mkB T (.ref 7 0 0 1 false) (.lit true 0 [])):=⟨_,rfl⟩
       have lH:∀ x,(H0++[x]).length=8:=fun x=>z06 hlen x
       have s6:∀ x,(H0++[x])[6]?=H0[6]?:=fun x=>List.getElem?_append_left (by omega)
       have l1:H1.length=8:=by rw [hH1,List.length_set];exact lH _
       have h16:H1[6]?=some (mkB T (.ref 7 0 0 1 false) (.lit true 0 [])):=by rw [hH1,List.getElem?_set_self (by rw [lH];decide)]
       have h1j:∀ j,j ≠ 6→j < 7→H1[j]?=H0[j]?:=fun j e h=>by rw [hH1,List.getElem?_set_ne (Ne.symm e),List.getElem?_append_left (by omega)]
       have h17:H1[7]?=some (.cells 0 2 true [spV (z0G (T.tab.row a) (T.tab.row b))]):=by rw [hH1,List.getElem?_set_ne (by decide)];exact z08 hlen _
       have h10:H1[0]?=some (.cells 0 3 false [T.v]):=by rw [h1j 0 (by decide) (by decide)];exact h0
       have h11:H1[1]?=some (.cells 0 3 false [noTab]):=by rw [h1j 1 (by decide) (by decide)];exact hA.h1
       have h12:H1[2]?=some (.cells 0 2 true (T.cols.l.map spV)):=by rw [h1j 2 (by decide) (by decide)];exact hA.h2
       obtain ⟨ex2,st2,hx2,hp2⟩:=zFg hT hO l1 h10 ha hb (by omega) T.tab.C 0 _ _ _ _ _ _ _ _ _ _ _ _ _ _ _ _ _ _ _ _ _ _ _ _ _ _ _ _ _ _ _ _ _ _ _ _ _ _ _ _ _ _ _ _ _ _ _ _ _ _ _ _ _ _ _ _ _ _ _ _ _ _ _ _ _ _ _ _ _ _ _ _ _ _ _ _ _ _ _ _ _ _ _ _ _ _ _ _ _ _ _ _ _ _ _ _ _ _ _ _ _ _ _ _ _ _ _ _ _ _ _ _ _ _ _ _ _ _ _ _ _ _ _ _ (by omega)
       obtain ⟨rfl,jq,rfl⟩:=hp2
       rw [e0,e1] at hx2
       obtain ⟨S,hS⟩:∃ S,S=Blk.cells T.tab.C 2 true ((z0T T.tab a b T.tab.C).map spV):=⟨_,rfl⟩
       rw [← hS] at hx2
       have k1:=fun x:Blk=>z06 l1 x
       have k2:=fun x y:Blk=>z06 (k1 x) y
       have k3:=fun x y z:Blk=>z06 (k2 x y) z
       have g9:=fun x y:Blk=>z08 (k1 x) y
       have up1:∀ x j,j < 8→(H1++[x])[j]?=H1[j]?:=fun x j hj=>List.getElem?_append_left (by omega)
       have up2:∀ x y j,j < 8→(H1++[x]++[y])[j]?=H1[j]?:=fun x y j hj=>by
        rw [List.getElem?_append_left (by rw [k1];omega),up1 _ _ hj]
       have u6:=fun x=>up1 x 6 (by omega)
       have u6':=fun x y=>up2 x y 6 (by omega)
       have apq:=fun nx=>append_lit (E:=env) (ro:=0) (nx:=nx) (sz:=0) (es:=[]) (H:=H1++[S]++[Blk.cells 0 1 false [.ref 8 T.tab.C 0 T.tab.C false]]) (x:=.ref 9 0 0 1 false) (nsz:=1) (new:=[.ref 8 T.tab.C 0 T.tab.C false]) ti23 ti22 (by simp only [z15,g9];rfl) ⟨by decide,rfl,rfl⟩ rfl (by simp) (.inl rfl) (by show (0+1) * 25≤z04;decide) (fun h=>by cases h)
       obtain ⟨H5,hH5⟩:∃ H5:Heap,H5=(H1++[S]++[Blk.cells 0 1 false [.ref 8 T.tab.C 0 T.tab.C false]]++[Blk.cells 0 1 false [.ref 8 T.tab.C 0 T.tab.C false]]).set 6 (mkB T (.ref 7 0 0 1 false) (.ref 10 0 0 1 false)):=⟨_,rfl⟩
       have up3:∀ x y z j,j < 8→(H1++[x]++[y]++[z])[j]?=H1[j]?:=fun x y z j hj=>by
        rw [List.getElem?_append_left (by rw [k2];omega),up2 _ _ _ hj]
       have u6'':=fun x y z=>up3 x y z 6 (by omega)
       have l5:H5.length=11:=by rw [hH5,List.length_set,k3]
       have h56:H5[6]?=some (mkB T (.ref 7 0 0 1 false) (.ref 10 0 0 1 false)):=by rw [hH5,List.getElem?_set_self (by rw [k3];decide)]
       have h5j:∀ j,j ≠ 6→j < 8→H5[j]?=H1[j]?:=fun j e h=>by rw [hH5,List.getElem?_set_ne (Ne.symm e),up3 _ _ _ _ h]
       have hRm:RmAt T a b H5 0 8:=by
        refine ⟨hl,?_,?_,?_,fun i j h=>?_,?_,by decide⟩
        · rw [h5j 7 (by decide) (by decide),h17,hL0];rfl
        · rw [h5j 2 (by decide) (by decide)];exact h12
        · rw [hH5,List.getElem?_set_ne (by decide),z08 (k2 _ _)];rfl
        · rw [hL0] at h;simp at h
        · rw [hH5,List.getElem?_set_ne (by decide),List.getElem?_append_left (by rw [k2];decide),List.getElem?_append_left (by rw [k1];decide),z08 l1,hS]
       obtain ⟨ckm,hbk⟩:=hRm.fin hO hab ha hb
       have h51:H5[1]?=some (.cells 0 3 false [noTab]):=by rw [h5j 1 (by decide) (by decide)];exact h11
       have y5:∀ x,(H5.set 1 x)[1]?=some x:=fun x=>List.getElem?_set_self (by omega)
       have wrt:z0K (.agg [.lit true 0 [],.lit true 0 [],.lit true 0 []]) 0 (.agg [.lit true 0 [],.lit true 0 [],.lit true 0 []])=some (.agg [.lit true 0 [],.lit true 0 [],.lit true 0 []]):=rfl
       simp only [Nat.zero_add] at ckm hbk
       simp only [mkB] at h6 h16 hH1 hH5 h56
       simp only [noTab] at h11 h51
       simp only [go_sem,simprocAttr,Try.f71,mkB,boxT,noTab,Int.ofNat_zero,Int.natCast_zero] at hx hx2
       cases hall:(z41 T.tab a b).all Spn.ok with
       | false=>
         rw [z22 (zAZ hall)] at ckm
         have key:∃ H',runT env 71 [T.v,.int .i64 a,.int .i64 b] [] 0=some (.ret (.tuple [noTab,.int .i64 2]),H'):=by
          rw [run_unfold fn71 rfl]
          simp only [go_sem,simprocAttr,Try.f71,ck,z0O hok,in1,in2,o3,Bool.not_true,Bool.not_false,apc,apc',bt,z0E,noTab,List.length_map,lc]
          rw [hx]
          simp only [go_sem,simprocAttr,h0,h6,boxT,List.length_set,a0,b0,Int.toNat_natCast,List.length_map,lr,ga,gb,z1,pc,apr,s6,lH,hlen]
          rw [apart_ok (z0L (by kernel_rfl)),← hH1]
          simp only [go_sem,simprocAttr,l1]
          rw [hx2]
          simp only [go_sem,simprocAttr,h16,u6,u6',u6'',k1,k2,k3,g9,apq,List.length_set]
          simp only [← hH5,go_sem,simprocAttr,h56,ckm,h51,y5,l5,wrt,unwind,modeEx,resultsOf,one]
          exact ⟨_,rfl⟩
         obtain ⟨H',h⟩:=key
         exact call_pure rfl rfl rfl hu h (pure _) ro H nx
       | true=>
         rw [z0O (Tab.ok_iff.2 (z5d hO hab ha hb hall))] at ckm
         have key:runT env 71 [T.v,.int .i64 a,.int .i64 b] [] 0=some (.ret (.tuple [.agg [.ref 7 0 0 1 false,.ref 2 0 0 T.tab.C false,.ref 10 0 0 1 false],.int .i64 0]),H5.set 1 (Blk.cells 0 3 false [.agg [.ref 7 0 0 1 false,.ref 2 0 0 T.tab.C false,.ref 10 0 0 1 false]])):=by
          rw [run_unfold fn71 rfl]
          simp only [go_sem,simprocAttr,Try.f71,ck,z0O hok,in1,in2,o3,Bool.not_true,Bool.not_false,apc,apc',bt,z0E,noTab,List.length_map,lc]
          rw [hx]
          simp only [go_sem,simprocAttr,h0,h6,boxT,List.length_set,a0,b0,Int.toNat_natCast,List.length_map,lr,ga,gb,z1,pc,apr,s6,lH,hlen]
          rw [apart_ok (z0L (by kernel_rfl)),← hH1]
          simp only [go_sem,simprocAttr,l1]
          rw [hx2]
          simp only [go_sem,simprocAttr,h16,u6,u6',u6'',k1,k2,k3,g9,apq,List.length_set]
          simp only [← hH5,go_sem,simprocAttr,h56,ckm,h51,y5,l5,wrt,unwind,modeEx,resultsOf,one]
         refine z0r rfl rfl rfl hu key ?_ rfl ro H nx
         unfold handBack
         simp only [mapO,hbk]
         rfl
     | succ l=>
       obtain ⟨⟨h6,hlen⟩,h7,hq⟩:=hA.cons l hl
       have hL8:l+1≤8:=by have:=z6j a b T.tab.R;omega
       have apr:=fun nx=>append_ref (E:=env) (ro:=0) (nx:=nx) (H:=H0) (id:=7) (g:=l) (len:=l+1) (x:=.lit true 2 [spV (z0G (T.tab.row a) (T.tab.row b))]) (nsz:=2) (new:=[spV (z0G (T.tab.row a) (T.tab.row b))]) (fl:=true) (bs:=(idxs a b T.tab.R).map fun i=>spV (T.tab.row i)) ti22 ti39 rfl ⟨by decide,rfl,rfl⟩ rfl (by simp) h7 (by rw [List.length_map,hl]) (by omega) (by omega) (by show (l+1+1) * 17≤2 ^ 45;omega) (fun _=>rfl)
       simp only [List.length_singleton] at apr
       obtain ⟨R1,hR1⟩:∃ R1,R1=(idxs a b T.tab.R).map (fun i=>spV (T.tab.row i))++[spV (z0G (T.tab.row a) (T.tab.row b))]:=⟨_,rfl⟩
       rw [← hR1] at apr
       obtain ⟨H1,hH1⟩:∃ H1:Heap,H1=(H0.set 7 (Blk.cells (l+1) 2 true R1)).set 6 (mkB T (.ref 7 (l+1) 0 (l+1+1) false) (.ref 10 l 0 (l+1) false)):=⟨_,rfl⟩
       have lH:∀ x,(H0.set 7 x).length=2 * l+11:=fun x=>by rw [List.length_set];exact hlen
       have s6:∀ x,(H0.set 7 x)[6]?=H0[6]?:=fun x=>List.getElem?_set_ne (by decide)
       have l1:H1.length=2 * l+11:=by rw [hH1,List.length_set];exact lH _
       have h16:H1[6]?=some (mkB T (.ref 7 (l+1) 0 (l+1+1) false) (.ref 10 l 0 (l+1) false)):=by rw [hH1,List.getElem?_set_self (by rw [lH];omega)]
       have h1j:∀ j,j ≠ 6→j ≠ 7→H1[j]?=H0[j]?:=fun j e e2=>by rw [hH1,List.getElem?_set_ne (Ne.symm e),List.getElem?_set_ne (Ne.symm e2)]
       have h17:H1[7]?=some (.cells (l+1) 2 true R1):=by rw [hH1,List.getElem?_set_ne (by decide),List.getElem?_set_self (by omega)]
       have h10:H1[0]?=some (.cells 0 3 false [T.v]):=by rw [h1j 0 (by decide) (by decide)];exact h0
       have h11:H1[1]?=some (.cells 0 3 false [noTab]):=by rw [h1j 1 (by decide) (by decide)];exact hA.h1
       have h12:H1[2]?=some (.cells 0 2 true (T.cols.l.map spV)):=by rw [h1j 2 (by decide) (by decide)];exact hA.h2
       have z7:(7 < 2 * l+11)=True:=eq_true (by omega)
       have z6:(6 < 2 * l+11)=True:=eq_true (by omega)
       have y0:decide (0 < 2 * l+11)=true:=decide_eq_true (by omega)
       have y6:decide (6 < 2 * l+11)=true:=decide_eq_true (by omega)
       have y7:decide (7 < 2 * l+11)=true:=decide_eq_true (by omega)
       obtain ⟨ex2,st2,hx2,hp2⟩:=zFg hT hO l1 h10 ha hb (by omega) T.tab.C 0 _ _ _ _ _ _ _ _ _ _ _ _ _ _ _ _ _ _ _ _ _ _ _ _ _ _ _ _ _ _ _ _ _ _ _ _ _ _ _ _ _ _ _ _ _ _ _ _ _ _ _ _ _ _ _ _ _ _ _ _ _ _ _ _ _ _ _ _ _ _ _ _ _ _ _ _ _ _ _ _ _ _ _ _ _ _ _ _ _ _ _ _ _ _ _ _ _ _ _ _ _ _ _ _ _ _ _ _ _ _ _ _ _ _ _ _ _ _ _ _ _ _ _ _ (by omega)
       obtain ⟨rfl,jq,rfl⟩:=hp2
       rw [e0,e1] at hx2
       obtain ⟨S,hS⟩:∃ S,S=Blk.cells T.tab.C 2 true ((z0T T.tab a b T.tab.C).map spV):=⟨_,rfl⟩
       rw [← hS] at hx2
       have k1:=fun x:Blk=>z06 l1 x
       have k2:=fun x y:Blk=>z06 (k1 x) y
       have k3:=fun x y z:Blk=>z06 (k2 x y) z
       have g9:=fun x y:Blk=>z08 (k1 x) y
       have up1:∀ x j,j < 2 * l+11→(H1++[x])[j]?=H1[j]?:=fun x j hj=>List.getElem?_append_left (by omega)
       have up2:∀ x y j,j < 2 * l+11→(H1++[x]++[y])[j]?=H1[j]?:=fun x y j hj=>by
        rw [List.getElem?_append_left (by rw [k1];omega),up1 _ _ hj]
       have u6:=fun x=>up1 x 6 (by omega)
       have u6':=fun x y=>up2 x y 6 (by omega)
       have q10:∀ x y,(H1++[x]++[y])[10]?=some (.cells l 1 false (mkA T (l+1))):=fun x y=>by rw [up2 _ _ _ (by omega),h1j 10 (by decide) (by decide)];exact hq
       have apq:=fun nx=>append_ref (E:=env) (ro:=0) (nx:=nx) (H:=H1++[S]++[Blk.cells 0 1 false [.ref (2 * l+11) T.tab.C 0 T.tab.C false]]) (id:=10) (g:=l) (len:=l+1) (x:=.ref (2 * l+11+1) 0 0 1 false) (nsz:=1) (new:=[.ref (2 * l+11) T.tab.C 0 T.tab.C false]) (fl:=false) (bs:=mkA T (l+1)) ti23 ti22 (by simp only [z15,g9];rfl) ⟨by decide,rfl,rfl⟩ rfl (by simp) (q10 _ _) (zAa _ _) (by omega) (by omega) (by show (l+1+1) * 25≤2 ^ 45;omega) (fun h=>by cases h)
       simp only [List.length_singleton] at apq
       obtain ⟨Q1,hQ1⟩:∃ Q1,Q1=mkA T (l+1)++[AVal.ref (2 * l+11) T.tab.C 0 T.tab.C false]:=⟨_,rfl⟩
       rw [← hQ1] at apq
       obtain ⟨H5,hH5⟩:∃ H5:Heap,H5=((H1++[S]++[Blk.cells 0 1 false [.ref (2 * l+11) T.tab.C 0 T.tab.C false]]).set 10 (Blk.cells (l+1) 1 false Q1)).set 6 (mkB T (.ref 7 (l+1) 0 (l+1+1) false) (.ref 10 (l+1) 0 (l+1+1) false)):=⟨_,rfl⟩
       have u6'':∀ x y z,((H1++[x]++[y]).set 10 z)[6]?=H1[6]?:=fun x y z=>by rw [List.getElem?_set_ne (by decide),up2 _ _ _ (by omega)]
       have l5:H5.length=2 * l+11+1+1:=by rw [hH5,List.length_set,List.length_set,k2]
       have h56:H5[6]?=some (mkB T (.ref 7 (l+1) 0 (l+1+1) false) (.ref 10 (l+1) 0 (l+1+1) false)):=by rw [hH5,List.getElem?_set_self (by rw [List.length_set,k2];omega)]
       have h5j:∀ j,j ≠ 6→j ≠ 10→j < 2 * l+11→H5[j]?=H1[j]?:=fun j e e2 h=>by rw [hH5,List.getElem?_set_ne (Ne.symm e),List.getElem?_set_ne (Ne.symm e2),up2 _ _ _ h]
       have hRm:RmAt T a b H5 (l+1) (2 * l+11):=by
        refine ⟨hl,?_,?_,?_,fun i j h=>?_,?_,by omega⟩
        · rw [h5j 7 (by decide) (by decide) (by omega),h17,hR1]
        · rw [h5j 2 (by decide) (by decide) (by omega)];exact h12
        · rw [hH5,List.getElem?_set_ne (by decide),List.getElem?_set_self (by rw [k2];omega),hQ1]
        · have hi:i < l+1:=by have:=(List.getElem?_eq_some_iff.1 h).1;omega
          have hp:mkP i ≠ 6∧mkP i ≠ 7∧mkP i ≠ 10∧mkP i < 2 * l+11:=by
           cases i with
           | zero=>exact ⟨by decide,by decide,by decide,by show 8 < _;omega⟩
           | succ i=>
             have:mkP (i+1)=2 * i+11:=rfl
             omega
          rw [h5j _ hp.1 hp.2.2.1 hp.2.2.2,h1j _ hp.1 hp.2.1];exact hA.row i j h
        · rw [hH5,List.getElem?_set_ne (by omega),List.getElem?_set_ne (by omega),List.getElem?_append_left (by rw [k1];omega),z08 l1,hS]
       have z10:(10 < 2 * l+11+1+1)=True:=eq_true (by omega)
       have z66:(6 < 2 * l+11+1+1)=True:=eq_true (by omega)
       have z11:(1 < 2 * l+11+1+1)=True:=eq_true (by omega)
       obtain ⟨ckm,hbk⟩:=hRm.fin hO hab ha hb
       have h51:H5[1]?=some (.cells 0 3 false [noTab]):=by rw [h5j 1 (by decide) (by decide) (by omega)];exact h11
       have y5:∀ x,(H5.set 1 x)[1]?=some x:=fun x=>List.getElem?_set_self (by omega)
       have wrt:z0K (.agg [.lit true 0 [],.lit true 0 [],.lit true 0 []]) 0 (.agg [.lit true 0 [],.lit true 0 [],.lit true 0 []])=some (.agg [.lit true 0 [],.lit true 0 [],.lit true 0 []]):=rfl
       simp only [mkB] at h6 h16 hH1 hH5 h56
       simp only [noTab] at h11 h51
       simp only [go_sem,simprocAttr,Try.f71,mkB,boxT,noTab,Int.ofNat_zero,Int.natCast_zero] at hx hx2
       cases hall:(z41 T.tab a b).all Spn.ok with
       | false=>
         rw [z22 (zAZ hall)] at ckm
         have key:∃ H',runT env 71 [T.v,.int .i64 a,.int .i64 b] [] 0=some (.ret (.tuple [noTab,.int .i64 2]),H'):=by
          rw [run_unfold fn71 rfl]
          simp only [go_sem,simprocAttr,Try.f71,ck,z0O hok,in1,in2,o3,Bool.not_true,Bool.not_false,apc,apc',bt,z0E,noTab,List.length_map,lc]
          rw [hx]
          simp only [go_sem,simprocAttr,h0,h6,boxT,List.length_set,a0,b0,Int.toNat_natCast,List.length_map,lr,ga,gb,z1,pc,apr,s6,lH,hlen,z7,z6,y0,y6,y7]
          rw [apart_ok (z0L (by kernel_rfl)),← hH1]
          simp only [go_sem,simprocAttr,l1]
          rw [hx2]
          simp only [go_sem,simprocAttr,h16,u6,u6',u6'',k1,k2,k3,g9,apq,List.length_set,z10,z66,z11]
          simp only [← hH5,go_sem,simprocAttr,h56,ckm,h51,y5,l5,wrt,z10,z66,z11,unwind,modeEx,resultsOf,one]
          exact ⟨_,rfl⟩
         obtain ⟨H',h⟩:=key
         exact call_pure rfl rfl rfl hu h (pure _) ro H nx
       | true=>
         rw [z0O (Tab.ok_iff.2 (z5d hO hab ha hb hall))] at ckm
         have key:runT env 71 [T.v,.int .i64 a,.int .i64 b] [] 0=some (.ret (.tuple [.agg [.ref 7 (l+1) 0 (l+1+1) false,.ref 2 0 0 T.tab.C false,.ref 10 (l+1) 0 (l+1+1) false],.int .i64 0]),H5.set 1 (Blk.cells 0 3 false [.agg [.ref 7 (l+1) 0 (l+1+1) false,.ref 2 0 0 T.tab.C false,.ref 10 (l+1) 0 (l+1+1) false]])):=by
          rw [run_unfold fn71 rfl]
          simp only [go_sem,simprocAttr,Try.f71,ck,z0O hok,in1,in2,o3,Bool.not_true,Bool.not_false,apc,apc',bt,z0E,noTab,List.length_map,lc]
          rw [hx]
          simp only [go_sem,simprocAttr,h0,h6,boxT,List.length_set,a0,b0,Int.toNat_natCast,List.length_map,lr,ga,gb,z1,pc,apr,s6,lH,hlen,z7,z6,y0,y6,y7]
          rw [apart_ok (z0L (by kernel_rfl)),← hH1]
          simp only [go_sem,simprocAttr,l1]
          rw [hx2]
          simp only [go_sem,simprocAttr,h16,u6,u6',u6'',k1,k2,k3,g9,apq,List.length_set,z10,z66,z11]
          simp only [← hH5,go_sem,simprocAttr,h56,ckm,h51,y5,l5,wrt,z10,z66,z11,unwind,modeEx,resultsOf,one]
         refine z0r rfl rfl rfl hu key ?_ rfl ro H nx
         unfold handBack
         simp only [mapO,hbk]
         rfl
set_option maxRecDepth 10000
set_option maxHeartbeats 4000000
set_option maxRecDepth 10000
set_option maxHeartbeats 4000000
def Cov (m:Nat):List Foot→List Foot→Prop
 | [],[]=>True
 | a :: l,b :: l'=>(a.i=b.i∧(∀ x ∈ a.reads,min x m ∈ b.reads)∧∀ x ∈ a.writes,min x m ∈ b.writes)∧Cov m l l'
 | _,_=>False
theorem z9B {m:Nat} {a b a' b':List Nat} (ha:∀ x ∈ a,min x m ∈ a') (hb:∀ x ∈ b,min x m ∈ b') (h:meets a' b'=false):meets a b=false:=by
 simp only [meets,List.any_eq_false,List.contains_iff_mem] at h ⊢
 exact fun x hx hxb=>h _ (ha x hx) (hb x hxb)
theorem z4v {m:Nat} {bf:Array Nat}:∀ {l l':List Foot},Cov m l l'→apart bf l'=true→apart bf l=true
 | [],[],_,_=>rfl
 | a :: l,b :: l',⟨⟨e,h1,h2⟩,hc⟩,h=>by
   simp only [apart,Bool.and_eq_true] at h ⊢
   refine ⟨?_,z4v hc h.2⟩
   have key:∀ (l l':List Foot),Cov m l l'→(l'.all fun c=>!clash b c || (bf.getD c.i 0).testBit b.i)=true→(l.all fun c=>!clash a c || (bf.getD c.i 0).testBit a.i)=true:=by
    intro l
    induction l with
    | nil=>intro l' _ _;rfl
    | cons c l ih=>
      intro l' hc h
      cases l' with
      | nil=>exact hc.elim
      | cons c' l'=>
        obtain ⟨⟨e2,k1,k2⟩,hc⟩:=hc
        simp only [List.all_cons,Bool.and_eq_true,Bool.or_eq_true] at h ⊢
        refine ⟨?_,ih l' hc h.2⟩
        rcases h.1 with h | h
        · left
          simp only [clash,Bool.not_eq_true',Bool.or_eq_false_iff] at h ⊢
          refine ⟨?_,?_⟩ <;> first
           | exact z9B h2 (fun x hx=>by
               rw [List.mem_append] at hx ⊢
               exact hx.imp (k1 x) (k2 x)) (by first | exact h.1 | exact h.2)
           | exact z9B k2 h1 (by first | exact h.1 | exact h.2)
           | exact z9B h1 k2 (by first | exact h.1 | exact h.2)
        · right
          rw [e,e2];exact h
   exact key _ _ hc h.1
 | [],_ :: _,h,_=>h.elim
 | _ :: _,[],h,_=>h.elim
theorem z7e {H:Heap}:∀ (ids seen:List Nat) (n:Nat),(∀ id ∈ ids,∃ g sz es,H[id]?=some (.cells g sz true es))→ids.length≤n→∃ l,looks H n ids seen=some l
 | [],seen,n,_,_=>by cases n <;> exact ⟨_,rfl⟩
 | id :: ids,seen,n,hf,hl=>by
   obtain ⟨n,rfl⟩:∃ m,n=m+1:=⟨n - 1,by simp at hl;omega⟩
   obtain ⟨g,sz,es,hH⟩:=hf id (by simp)
   have ih:=fun seen=>z7e (H:=H) ids seen n (fun x hx=>hf x (by simp [hx])) (by simp at hl;omega)
   simp only [looks,hH,if_true]
   split
   · exact ih _
   · exact ih _
theorem TbAt.looks {H:Heap} {a b q ga gb g:Nat} {ps:Nat→Nat} {t:Tab} (h:TbAt H a b q ga gb g ps t) (hR:t.R≤8):∃ l,Tidy.looks H fuel0 [a,b,q] []=some l:=by
 have hab:b ≠ a:=Ne.symm h.ab
 have haq:q ≠ a:=Ne.symm h.aq
 have hbq:q ≠ b:=Ne.symm h.bq
 have hrl:refsL (vecA t.R fun i=>AVal.ref (ps i) 0 0 t.C false)=vecA t.R ps:=by
  unfold vecA
  induction (List.range t.R) with
  | nil=>rfl
  | cons i l ih=>simp [refsL,AVal.refs,ih]
 obtain ⟨l,hl⟩:=z7e (H:=H) (vecA t.R ps) [a,b,q] 61 (fun id hid=>by
  unfold vecA at hid
  obtain ⟨i,hi,rfl⟩:=List.mem_map.1 hid
  exact ⟨_,_,_,h.row i (List.mem_range.1 hi)⟩) (by rw [z0C];omega)
 refine ⟨l,?_⟩
 unfold fuel0
 simp [Tidy.looks,h.rows,h.cols,h.acc,hab,haq,hbq,hrl,hl]
set_option maxRecDepth 10000
set_option maxHeartbeats 4000000
structure CcAt (T:TabV) (H:Heap) (B gn g:Nat) (ps:Nat→Nat) (t:Tab):Prop where
 res:H[1]?=some (.cells 0 3 false [noTab])
 net:∃ f,T.tab.net.In f∧T.tab.net.Circ f∧NetAt H 5 4 T.tab.R T.tab.C gn T.tab.net.n (arcB gn T.tab.net f)
 tab:TbAt H 9 10 17 0 0 g ps t
 box:H[B]?=some (.cells 0 3 false [memT T.tab 9 10 17 0 0 g])
 len:H.length=B+1
 lt:17 < B
 ps:∀ i,i < T.tab.R→6 < ps i∧ps i ≠ B
theorem CcAt.flow {T:TabV} {H:Heap} {B gn g:Nat} {ps:Nat→Nat} {t:Tab} (h:CcAt T H B gn g ps t) (tR:t.R=T.tab.R) {f:Nat→Int} (h1:T.tab.net.In f) (h2:T.tab.net.Circ f):CcAt T ((H.set 5 (netB T.tab.R T.tab.C 4 gn T.tab.net.n)).set 4 (arcB gn T.tab.net f)) B gn g ps t:=by
 have hl:=h.lt
 have hlen:=h.len
 have ne:∀ (N A:Blk) (j:Nat),j ≠ 5→j ≠ 4→((H.set 5 N).set 4 A)[j]?=H[j]?:=fun N A j a b=>by
  rw [List.getElem?_set_ne (Ne.symm b),List.getElem?_set_ne (Ne.symm a)]
 refine ⟨?_,⟨f,h1,h2,?_,?_,by decide,z0Y _ _ _⟩,h.tab.mono fun j hj=>ne _ _ _ ?_ ?_,?_,?_,hl,h.ps⟩
 · rw [ne _ _ _ (by decide) (by decide)];exact h.res
 · rw [List.getElem?_set_ne (by decide),List.getElem?_set_self (by omega)]
 · rw [List.getElem?_set_self (by rw [List.length_set];omega)]
 · rcases hj with rfl | rfl | rfl | ⟨m,hm,rfl⟩
   · decide
   · decide
   · decide
   · have:=(h.ps m (by omega)).1
     omega
 · rcases hj with rfl | rfl | rfl | ⟨m,hm,rfl⟩
   · decide
   · decide
   · decide
   · have:=(h.ps m (by omega)).1
     omega
 · rw [ne _ _ _ (by omega) (by omega)];exact h.box
 · rw [List.length_set,List.length_set];exact hlen
theorem CcAt.step {T:TabV} {H:Heap} {B gn g:Nat} {ps:Nat→Nat} {t t':Tab} (h:CcAt T H B gn g ps t) {j:Nat} {b:Blk} (ht:TbAt (H.set j b) 9 10 17 0 0 g ps t') (h1:6 < j) (h3:j ≠ B):CcAt T (H.set j b) B gn g ps t':=by
 obtain ⟨f,a1,a2,a3⟩:=h.net
 exact ⟨by rw [List.getElem?_set_ne (by omega)];exact h.res,⟨f,a1,a2,by rw [List.getElem?_set_ne (by omega)];exact a3.net,by rw [List.getElem?_set_ne (by omega)];exact a3.arcs,a3.ne,a3.flat⟩,ht,by rw [List.getElem?_set_ne h3];exact h.box,by rw [List.length_set];exact h.len,h.lt,h.ps⟩
theorem zHs {T:TabV} (hO:T.tab.Ok) {B gn g:Nat} {ps:Nat→Nat} {j:Nat} (hj:j < T.tab.net.n) {t:Tab} {H:Heap} (hA:CcAt T H B gn g ps t) (tR:t.R=T.tab.R):
    ∃ lo hi f',IsEnds T.tab.net [j] lo hi∧CcAt T ((H.set 5 (netB T.tab.R T.tab.C 4 gn T.tab.net.n)).set 4 (arcB gn T.tab.net f')) B gn g ps t ∧
     ∀ nx,callT env 82 [.ptr 5 0 0 0,.lit true 1 [.int .i64 (j:Nat)]] 0 H nx=some (.ret (.agg [.int .i64 lo,.int .i64 hi]),.ups [(5,netB T.tab.R T.tab.C 4 gn T.tab.net.n),(4,arcB gn T.tab.net f')]):=by
 obtain ⟨f,a1,a2,a3⟩:=hA.net
 obtain ⟨lo,hi,he,f',i1,i2,ec⟩:=zGI (gn:=gn) (cl:=true) (sz:=1) (l:=[j]) (z1i hO) (z6F hO) a1 a2 (.inr rfl) (fun j' h=>by simp at h;omega) (by simp)
 exact ⟨lo,hi,f',he,hA.flow tR i1 i2,fun nx=>ec a3 (v:=.lit true 1 [.int .i64 (j:Nat)]) (lent:=[]) (z1L rfl rfl) (by simp) nx⟩
theorem zBR {H:Heap} {p a R C g n:Nat} {A:Blk} (h:NetAt H p a R C g n A):looks H fuel0 [p] []=some [p,a]:=by
 have h1:=h.net
 have h2:=h.arcs
 have hne:=h.ne
 obtain ⟨g',sz,fl,es,rfl,hf⟩:=h.flat
 simp only [netB] at h1
 unfold fuel0
 rcases hf with rfl | rfl
 · simp [looks,h1,h2,refsL,AVal.refs,Ne.symm hne]
 · cases fl <;> simp [looks,h1,h2,refsL,AVal.refs,Ne.symm hne]
def zLn:List Foot:=[⟨0,[],[]⟩,⟨1,[6],[]⟩,⟨2,[],[]⟩,⟨3,[6],[]⟩,⟨4,[6],[]⟩,⟨5,[],[]⟩,⟨6,[],[]⟩,⟨7,[],[]⟩,⟨8,[],[]⟩,⟨9,[],[]⟩,⟨10,[5,4],[]⟩,⟨11,[],[]⟩,⟨12,[5,4],[5,4]⟩,⟨13,[6],[]⟩,⟨14,[6],[6]⟩]
theorem zK8 {T:TabV} (hT:T.Wf) (hO:T.tab.Ok) (hcan:canB T.tab=true) {B gn g:Nat} {ps:Nat→Nat} {i:Nat} (hi:i < T.tab.R):∀ (n k:Nat) (H:Heap) (t:Tab) (j0 j1 j3 j5 j8 j9 j10 j11 j12 j13 j14 j15 j16 j17 j18 j19 j20 j21 j25 j26 j27 j28 j29 j30 j31 j32 j33 j34 j35 j36 j37 j38 j39 j40 j44 j45 j46 j47 j48 j49 j50 j51 j52 j53 j54 j55 j56 j57 j58 j59 j60 j61 j62 j63 j64 j65 j66 j67 j68 j69 j70 j71 j72 j73 j74 j75 j76 j77 j78 j79:AVal),k+n=T.tab.C→CcAt T H B gn g ps t→Clo T.tab t (fun j=>j < i+1) (fun j m=>j < i ∨ (j=i∧m < k)) (fun _=>False) →
    Goes (execT env (Try.f54.at [1,1,1,1,0,1,0,0,1,1,0,0,1,1,1,0]) ⟨[j0,j1,.ptr 1 0 0 0,j3,.ptr 5 0 0 0,j5,.ptr B 0 0 0,.int .i64 i,j8,j9,j10,j11,j12,j13,j14,j15,j16,j17,j18,j19,j20,j21,.ref 9 0 0 T.tab.R false,.int .i64 T.tab.R,.int .i64 i,j25,j26,j27,j28,j29,j30,j31,j32,j33,j34,j35,j36,j37,j38,j39,j40,.ref (ps i) 0 0 T.tab.C false,.int .i64 T.tab.C,.int .i64 k,j44,j45,j46,j47,j48,j49,j50,j51,j52,j53,j54,j55,j56,j57,j58,j59,j60,j61,j62,j63,j64,j65,j66,j67,j68,j69,j70,j71,j72,j73,j74,j75,j76,j77,j78,j79],H,[],0,[]⟩) fun ex st=>
     ex=.exit 2∧∃ (H:Heap) (t:Tab),(CcAt T H B gn g ps t∧Clo T.tab t (fun j=>j < i+1) (fun j _=>j < i+1) (fun _=>False))∧FrP 80 [(2,.ptr 1 0 0 0),(4,.ptr 5 0 0 0),(6,.ptr B 0 0 0),(22,.ref 9 0 0 T.tab.R false),(23,.int .i64 T.tab.R),(24,.int .i64 i)] H [] 0 [] st:=by
 have hR8:=hO.R8
 have hC8:=hO.C8
 intro n
 induction n with
 | zero=>
   intro k H t;intros;rename_i hk hA hC
   have hd:decide ((k:Int) < (T.tab.C:Int))=false:=by simp;omega
   have hk':k=T.tab.C:=by omega
   subst hk'
   simp only [go_sem,simprocAttr,Try.f54]
   rw [exec_loop]
   simp only [go_sem,simprocAttr,hd]
   exact ⟨H,t,⟨hA,hC.mono (P':=fun j=>j < i+1) (Q':=fun j _=>j < i+1) (S':=fun _=>False) (fun _ h=>h) (fun j m hm h=>by
    have h:j < i+1:=h
    show j < i ∨ (j=i∧m < T.tab.C)
    omega) fun _ h=>h⟩,frP (by kernel_rfl)⟩
 | succ n ih=>
   intro k H t;intros;rename_i hk hA hC
   have hkC:k < T.tab.C:=by omega
   have hd:decide ((k:Int) < (T.tab.C:Int))=true:=by simp;omega
   have k0:(0:Int)≤(k:Int):=by omega
   have i0:(0:Int)≤(i:Int):=by omega
   have dR:decide ((i:Int) < (T.tab.R:Int))=true:=by simp;omega
   have tR:=hC.R
   have tC:=hC.C
   have hm:i * T.tab.C+k < T.tab.net.n:=by
    have:i * T.tab.C+k < T.tab.R * T.tab.C:=z3z hi hkC
    show _ < T.tab.R * T.tab.C+T.tab.R+T.tab.C
    omega
   obtain ⟨lo,hi',f',he,hA1,ec⟩:=zHs hO hm hA tR
   have hx:EndsP T.tab (fun s=>s i k) ⟨lo,hi'⟩:=EndsP.of he fun s=>z0i _ _ hi hkC
   obtain ⟨f,_,_,a3⟩:=hA.net
   have ac:=z3o a3 (i:=i) (k:=k) (by omega) hC8 (by omega)
   have hlen:=hA.len
   have hlt:=hA.lt
   have hps:=hA.ps i hi
   have hit:i < t.R:=by omega
   have hacc:=hA.tab.acc
   rw [tR,tC] at hacc
   have hva:(vecA T.tab.R fun i=>AVal.ref (ps i) 0 0 T.tab.C false)[i]?=some (.ref (ps i) 0 0 T.tab.C false):=vecA_get _ hi
   have hrow:=hA1.tab.row i hit
   have l4:=hA.tab.lt.2.2.2 i hit
   have z1:(ps i < H.length)=True:=eq_true l4
   have hrl:(rowA t i).length=T.tab.C:=by rw [z0V (by rw [hC.len,tR]) (by rw [tC];exact hC.wid) hit,tC]
   have hget:=zD1 hC.wid (i:=i) (by rw [hC.len];exact hi) hkC
   have wr:∀ y:Spn,z0K (spV y) 0 (.agg [.int .i64 lo,.int .i64 hi'])=some (spV ⟨lo,hi'⟩):=fun _=>rfl
   have hat:=hA1.tab.write (k:=k) (by rw [hC.len,tR]) hit ⟨lo,hi'⟩
   have hA':=hA1.step hat hps.1 hps.2
   have hC':=(hC.setCell hi hkC hx).mono (P':=fun j=>j < i+1) (Q':=fun j m=>j < i ∨ (j=i∧m < k+1)) (S':=fun _=>False) (fun _ h=>h) (fun j m _ h=>by
    have h:j < i ∨ (j=i∧m < k+1):=h
    show (j < i ∨ (j=i∧m < k)) ∨ (j=i∧m=k)
    omega) fun _ h=>h
   have z2:decide (B < H.length)=true:=decide_eq_true (by omega)
   have z0:decide (5 < H.length)=true:=decide_eq_true (by omega)
   have z5:decide (4 < H.length)=true:=decide_eq_true (by omega)
   have z6:(5 < H.length)=True:=eq_true (by omega)
   have z7:(4 < H.length)=True:=eq_true (by omega)
   have z3:decide (17 < H.length)=true:=decide_eq_true (by omega)
   have z4:decide (ps i < H.length)=true:=decide_eq_true l4
   have dC:decide ((k:Int) < (T.tab.C:Int))=true:=hd
   have hB:H[B]?=some (.cells 0 3 false [.agg [.ref 9 0 0 T.tab.R false,.ref 10 0 0 T.tab.C false,.ref 17 g 0 T.tab.R false]]):=hA.box
   have lk:=zBR a3
   have ih':=ih (k+1)
   simp only [go_sem,simprocAttr,Try.f54] at ih' ⊢
   rw [exec_loop]
   simp only [go_sem,simprocAttr,hd,k0,i0,dR,Int.toNat_natCast,hB,hacc,hva,hrow,hrl,hget,wr,ac,ec,lk,z0,z1,z2,z3,z4,z5,z6,z7,Nat.zero_le,List.length_set]
   rw [apart_ok]
   · simp only [go_sem,simprocAttr,List.length_set,Nat.le_refl,z00 (show k < 2 ^ 63 - 1 by omega)]
     exact ih' _ _ _ _ _ _ _ _ _ _ _ _ _ _ _ _ _ _ _ _ _ _ _ _ _ _ _ _ _ _ _ _ _ _ _ _ _ _ _ _ _ _ _ _ _ _ _ _ _ _ _ _ _ _ _ _ _ _ _ _ _ _ _ _ _ _ _ _ _ _ _ _ (by omega) hA' hC'
   · have m1:min B 6=6:=by omega
     have m2:min (ps i) 6=6:=by omega
     refine z4v (m:=6) (l':=zLn) ?_ (z0L (by kernel_rfl))
     simp [Cov,zLn,m1,m2]
def zB5:List Foot:=[⟨0,[],[]⟩,⟨1,[6],[]⟩,⟨2,[],[]⟩,⟨3,[],[]⟩,⟨4,[],[]⟩,⟨5,[],[]⟩,⟨6,[5,4],[]⟩,⟨7,[],[]⟩,⟨8,[5,4],[5,4]⟩,⟨9,[6],[]⟩,⟨10,[6],[6]⟩]
theorem zK9 {T:TabV} (hT:T.Wf) (hO:T.tab.Ok) (hcan:canB T.tab=true) {B gn g:Nat} {ps:Nat→Nat}:∀ (n i:Nat) (H:Heap) (t:Tab) (j0 j1 j3 j5 j7 j8 j9 j10 j11 j12 j13 j14 j15 j16 j17 j18 j19 j20 j21 j25 j26 j27 j28 j29 j30 j31 j32 j33 j34 j35 j36 j37 j38 j39 j40 j41 j42 j43 j44 j45 j46 j47 j48 j49 j50 j51 j52 j53 j54 j55 j56 j57 j58 j59 j60 j61 j62 j63 j64 j65 j66 j67 j68 j69 j70 j71 j72 j73 j74 j75 j76 j77 j78 j79:AVal),i+n=T.tab.R→CcAt T H B gn g ps t→Clo T.tab t (fun j=>j < i) (fun j _=>j < i) (fun _=>False) →
    Goes (execT env (Try.f54.at [1,1,1,1,0,1,0]) ⟨[j0,j1,.ptr 1 0 0 0,j3,.ptr 5 0 0 0,j5,.ptr B 0 0 0,j7,j8,j9,j10,j11,j12,j13,j14,j15,j16,j17,j18,j19,j20,j21,.ref 9 0 0 T.tab.R false,.int .i64 T.tab.R,.int .i64 i,j25,j26,j27,j28,j29,j30,j31,j32,j33,j34,j35,j36,j37,j38,j39,j40,j41,j42,j43,j44,j45,j46,j47,j48,j49,j50,j51,j52,j53,j54,j55,j56,j57,j58,j59,j60,j61,j62,j63,j64,j65,j66,j67,j68,j69,j70,j71,j72,j73,j74,j75,j76,j77,j78,j79],H,[],0,[]⟩) fun ex st=>
     ex=.exit 0∧∃ (H:Heap) (t:Tab),(CcAt T H B gn g ps t∧Clo T.tab t (fun _=>True) (fun _ _=>True) (fun _=>False))∧FrP 80 [(2,.ptr 1 0 0 0),(4,.ptr 5 0 0 0),(6,.ptr B 0 0 0)] H [] 0 [] st:=by
 have hR8:=hO.R8
 have hC8:=hO.C8
 intro n
 induction n with
 | zero=>
   intro i H t;intros;rename_i hi hA hC
   have hd:decide ((i:Int) < (T.tab.R:Int))=false:=by simp;omega
   simp only [go_sem,simprocAttr,Try.f54]
   rw [exec_loop]
   simp only [go_sem,simprocAttr,hd]
   have hC':Clo T.tab t (fun _=>True) (fun _ _=>True) (fun _=>False):=
    ⟨hC.R,hC.C,hC.len,hC.wid,fun j hj _=>hC.row j hj (by show j < i;omega),fun j k hj hk _=>hC.cell j k hj hk (by show j < i;omega),fun _ _ h=>h.elim⟩
   exact ⟨H,t,⟨hA,hC'⟩,frP (by kernel_rfl)⟩
 | succ n ih=>
   intro i H t;intros;rename_i hi hA hC
   have hiR:i < T.tab.R:=by omega
   have hd:decide ((i:Int) < (T.tab.R:Int))=true:=by simp;omega
   have i0:(0:Int)≤(i:Int):=by omega
   have tR:=hC.R
   have tC:=hC.C
   have hm:T.tab.R * T.tab.C+i < T.tab.net.n:=by
    show _ < T.tab.R * T.tab.C+T.tab.R+T.tab.C
    omega
   obtain ⟨lo,hi',f',he,hA1,ec⟩:=zHs hO hm hA tR
   have hx:EndsP T.tab (rowF T.tab i) ⟨lo,hi'⟩:=EndsP.of he fun s=>z1N _ _ hiR
   obtain ⟨f,_,_,a3⟩:=hA.net
   have ac:=z6J a3 (i:=i) (by omega) hR8 hC8
   have lk:=zBR a3
   have hlen:=hA.len
   have hlt:=hA.lt
   have hrows:=hA1.tab.rows
   have hget:=z74 (t:=t) (i:=i) (by omega)
   have hrl:(t.rows.map spV).length=T.tab.R:=by rw [List.length_map];exact tR
   have wr:∀ y:Spn,z0K (spV y) 0 (.agg [.int .i64 lo,.int .i64 hi'])=some (spV ⟨lo,hi'⟩):=fun _=>rfl
   have hA':=hA1.step (hA1.tab.writeRow i ⟨lo,hi'⟩) (by decide) (by omega)
   have hC':=(hC.setRow hiR hx).mono (P':=fun j=>j < i+1) (Q':=fun j m=>j < i ∨ (j=i∧m < 0)) (S':=fun _=>False) (fun j h=>by
    have h:j < i+1:=h
    show j < i ∨ j=i
    omega) (fun j m _ h=>by
    have h:j < i ∨ (j=i∧m < 0):=h
    show j < i
    omega) fun _ h=>h
   obtain ⟨e1,s1,hx1,hp1⟩:=zK8 hT hO hcan hiR T.tab.C 0 _ _ _ _ _ _ _ _ _ _ _ _ _ _ _ _ _ _ _ _ _ _ _ _ _ _ _ _ _ _ _ _ _ _ _ _ _ _ _ _ _ _ _ _ _ _ _ _ _ _ _ _ _ _ _ _ _ _ _ _ _ _ _ _ _ _ _ _ _ _ _ _ (by omega) hA' hC'
   obtain ⟨rfl,H2,t2,⟨hA2,hC2⟩,jp,rfl⟩:=hp1
   have hB:H[B]?=some (.cells 0 3 false [.agg [.ref 9 0 0 T.tab.R false,.ref 10 0 0 T.tab.C false,.ref 17 g 0 T.tab.R false]]):=hA.box
   have hB':(((H.set 5 (netB T.tab.R T.tab.C 4 gn T.tab.net.n)).set 4 (arcB gn T.tab.net f')).set 9 (.cells 0 2 true ((t.rows.map spV).set i (spV ⟨lo,hi'⟩))))[B]?=some (.cells 0 3 false [.agg [.ref 9 0 0 T.tab.R false,.ref 10 0 0 T.tab.C false,.ref 17 g 0 T.tab.R false]]):=hA'.box
   have hacc:=hA'.tab.acc
   rw [z3H,zFm,tR,tC] at hacc
   have hva:(vecA T.tab.R fun i=>AVal.ref (ps i) 0 0 T.tab.C false)[i]?=some (.ref (ps i) 0 0 T.tab.C false):=vecA_get _ hiR
   have z0:decide (5 < H.length)=true:=decide_eq_true (by omega)
   have z1:(9 < H.length)=True:=eq_true (by omega)
   have z2:decide (B < H.length)=true:=decide_eq_true (by omega)
   have z3:decide (9 < H.length)=true:=decide_eq_true (by omega)
   have z5:decide (4 < H.length)=true:=decide_eq_true (by omega)
   have z6:(5 < H.length)=True:=eq_true (by omega)
   have z7:(4 < H.length)=True:=eq_true (by omega)
   have hl2:(H2.length≤H.length)=True:=eq_true (by have:=hA2.len;omega)
   have ih':=ih (i+1)
   simp only [go_sem,simprocAttr,Try.f54,Int.ofNat_zero,Int.natCast_zero] at hx1
   simp only [go_sem,simprocAttr,Try.f54] at ih' ⊢
   rw [exec_loop]
   simp only [go_sem,simprocAttr,hd,i0,Int.toNat_natCast,hB,hrows,hrl,hget,wr,ac,ec,lk,z0,z1,z2,z3,z5,z6,z7,Nat.zero_le,List.length_set]
   rw [apart_ok]
   · simp only [go_sem,simprocAttr,hB',hacc,hva,i0,hd,Int.toNat_natCast]
     rw [hx1]
     simp only [go_sem,simprocAttr,hl2,z00 (show i < 2 ^ 63 - 1 by omega)]
     exact ih' _ _ _ _ _ _ _ _ _ _ _ _ _ _ _ _ _ _ _ _ _ _ _ _ _ _ _ _ _ _ _ _ _ _ _ _ _ _ _ _ _ _ _ _ _ _ _ _ _ _ _ _ _ _ _ _ _ _ _ _ _ _ _ _ _ _ _ _ _ _ _ _ _ _ _ _ (by omega) hA2 hC2
   · have m1:min B 6=6:=by omega
     refine z4v (m:=6) (l':=zB5) ?_ (z0L (by kernel_rfl))
     simp [Cov,zB5,m1]
set_option maxRecDepth 10000
set_option maxHeartbeats 4000000
theorem zMt {T:TabV} (hT:T.Wf) (hO:T.tab.Ok) (hcan:canB T.tab=true) {B gn g:Nat} {ps:Nat→Nat}:∀ (n i:Nat) (H:Heap) (t:Tab) (j0 j1 j3 j5 j7 j8 j9 j10 j11 j12 j13 j14 j15 j16 j17 j18 j19 j20 j21 j22 j23 j24 j25 j26 j27 j28 j29 j30 j31 j32 j33 j34 j35 j36 j37 j38 j39 j40 j41 j42 j43 j44 j45 j46 j47 j48 j49 j50 j51 j52 j53 j54 j55 j56 j57 j58 j59 j60 j61 j62 j66 j67 j68 j69 j70 j71 j72 j73 j74 j75 j76 j77 j78 j79:AVal),i+n=T.tab.C→CcAt T H B gn g ps t→Clo T.tab t (fun _=>True) (fun _ _=>True) (fun j=>j < i) →
    Goes (execT env (Try.f54.at [1,1,1,1,1,0,1,0]) ⟨[j0,j1,.ptr 1 0 0 0,j3,.ptr 5 0 0 0,j5,.ptr B 0 0 0,j7,j8,j9,j10,j11,j12,j13,j14,j15,j16,j17,j18,j19,j20,j21,j22,j23,j24,j25,j26,j27,j28,j29,j30,j31,j32,j33,j34,j35,j36,j37,j38,j39,j40,j41,j42,j43,j44,j45,j46,j47,j48,j49,j50,j51,j52,j53,j54,j55,j56,j57,j58,j59,j60,j61,j62,.ref 10 0 0 T.tab.C false,.int .i64 T.tab.C,.int .i64 i,j66,j67,j68,j69,j70,j71,j72,j73,j74,j75,j76,j77,j78,j79],H,[],0,[]⟩) fun ex st=>
     ex=.exit 4∧∃ (H:Heap) (t:Tab),(CcAt T H B gn g ps t∧ClosedT T.tab t)∧FrP 80 [(2,.ptr 1 0 0 0),(6,.ptr B 0 0 0)] H [] 0 [] st:=by
 have hR8:=hO.R8
 have hC8:=hO.C8
 intro n
 induction n with
 | zero=>
   intro i H t;intros;rename_i hi hA hC
   have hd:decide ((i:Int) < (T.tab.C:Int))=false:=by simp;omega
   simp only [go_sem,simprocAttr,Try.f54]
   rw [exec_loop]
   simp only [go_sem,simprocAttr,hd]
   have hC':ClosedT T.tab t:=
    ⟨hC.R,hC.C,hC.len,hC.wid,hC.row,hC.cell,fun j hj _=>hC.col j hj (by show j < i;omega)⟩
   exact ⟨H,t,⟨hA,hC'⟩,frP (by kernel_rfl)⟩
 | succ n ih=>
   intro i H t;intros;rename_i hi hA hC
   have hiR:i < T.tab.C:=by omega
   have hd:decide ((i:Int) < (T.tab.C:Int))=true:=by simp;omega
   have i0:(0:Int)≤(i:Int):=by omega
   have tR:=hC.R
   have tC:=hC.C
   have hm:T.tab.R * T.tab.C+T.tab.R+i < T.tab.net.n:=by
    show _ < T.tab.R * T.tab.C+T.tab.R+T.tab.C
    omega
   obtain ⟨lo,hi',f',he,hA1,ec⟩:=zHs hO hm hA tR
   have hx:EndsP T.tab (fun s=>sumN T.tab.R fun j=>s j i) ⟨lo,hi'⟩:=EndsP.of he fun s=>z2A _ _ hiR
   obtain ⟨f,_,_,a3⟩:=hA.net
   have ac:=z8l a3 (i:=i) (by omega) hR8 hC8
   have lk:=zBR a3
   have hlen:=hA.len
   have hlt:=hA.lt
   have hcols:=hA1.tab.cols
   have hget:=zCH (t:=t) (i:=i) (by omega)
   have hrl:(t.cols.map spV).length=T.tab.C:=by rw [List.length_map];exact tC
   have wr:∀ y:Spn,z0K (spV y) 0 (.agg [.int .i64 lo,.int .i64 hi'])=some (spV ⟨lo,hi'⟩):=fun _=>rfl
   have hA':=hA1.step (hA1.tab.writeCol i ⟨lo,hi'⟩) (by decide) (by omega)
   have hC':=(hC.setCol hiR hx).mono (P':=fun _=>True) (Q':=fun _ _=>True) (S':=fun j=>j < i+1) (fun _ h=>h) (fun _ _ _ h=>h) (fun j h=>by
    have h:j < i+1:=h
    show j < i ∨ j=i
    omega)
   have hB:H[B]?=some (.cells 0 3 false [.agg [.ref 9 0 0 T.tab.R false,.ref 10 0 0 T.tab.C false,.ref 17 g 0 T.tab.R false]]):=hA.box
   have z0:decide (5 < H.length)=true:=decide_eq_true (by omega)
   have z1:(10 < H.length)=True:=eq_true (by omega)
   have z2:decide (B < H.length)=true:=decide_eq_true (by omega)
   have z3:decide (10 < H.length)=true:=decide_eq_true (by omega)
   have z5:decide (4 < H.length)=true:=decide_eq_true (by omega)
   have z6:(5 < H.length)=True:=eq_true (by omega)
   have z7:(4 < H.length)=True:=eq_true (by omega)
   have ih':=ih (i+1)
   simp only [go_sem,simprocAttr,Try.f54] at ih' ⊢
   rw [exec_loop]
   simp only [go_sem,simprocAttr,hd,i0,Int.toNat_natCast,hB,hcols,hrl,hget,wr,ac,ec,lk,z0,z1,z2,z3,z5,z6,z7,Nat.zero_le,List.length_set]
   rw [apart_ok]
   · simp only [go_sem,simprocAttr,List.length_set,Nat.le_refl,z00 (show i < 2 ^ 63 - 1 by omega)]
     exact ih' _ _ _ _ _ _ _ _ _ _ _ _ _ _ _ _ _ _ _ _ _ _ _ _ _ _ _ _ _ _ _ _ _ _ _ _ _ _ _ _ _ _ _ _ _ _ _ _ _ _ _ _ _ _ _ _ _ _ _ _ _ _ _ _ _ _ _ _ _ _ _ _ _ _ _ _ (by omega) hA' hC'
   · have m1:min B 6=6:=by omega
     refine z4v (m:=6) (l':=zB5) ?_ (z0L (by kernel_rfl))
     simp [Cov,zB5,m1]
theorem z5u {T:TabV} (hT:T.Wf):∃ v,ClAns T.tab v∧∀ ro H nx,callT env 54 [T.v] ro H nx=some (.ret v,.ups []):=by
 rcases z28 hT 0 [boxT T,.cells 0 3 false [noTab]] 2 with ⟨hok,us,hc,X,rfl⟩ | ⟨hO,hcan,us,hc,X,rfl⟩ | ⟨hO,hcan,f,gn,_,hin,hci,hc⟩
 · refine ⟨_,.inl ⟨hok,rfl⟩,?_⟩
   have hp:=z0g X [boxT T,.cells 0 3 false [noTab]]
   have:∃ H',runT env 54 [T.v] [] 0=some (.ret (.tuple [noTab,.int .i64 60]),H'):=by
    simp only [boxT,noTab,List.length_cons,List.length_nil,Nat.zero_add,Nat.reduceAdd,List.cons_append,List.nil_append] at hc hp ⊢
    rw [run_unfold fn54 rfl]
    simp only [go_sem,simprocAttr,Try.f54,hc,hp,unwind,modeEx,resultsOf,one]
    exact ⟨_,rfl⟩
   obtain ⟨H',h⟩:=this
   exact fun ro H nx=>call_pure rfl rfl rfl z0b h rfl ro H nx
 · refine ⟨_,.inr (.inl ⟨hO,hcan,rfl⟩),?_⟩
   have hp:=z0g X [boxT T,.cells 0 3 false [noTab]]
   have:∃ H',runT env 54 [T.v] [] 0=some (.ret (.tuple [noTab,.int .i64 31]),H'):=by
    simp only [boxT,noTab,List.length_cons,List.length_nil,Nat.zero_add,Nat.reduceAdd,List.cons_append,List.nil_append] at hc hp ⊢
    rw [run_unfold fn54 rfl]
    simp only [go_sem,simprocAttr,Try.f54,hc,hp,unwind,modeEx,resultsOf,one]
    exact ⟨_,rfl⟩
   obtain ⟨H',h⟩:=this
   exact fun ro H nx=>call_pure rfl rfl rfl z0b h rfl ro H nx
 · have hR1:=hO.R1
   obtain ⟨g,cl⟩:=z3L hT hO
   have cl:=cl 0 ([boxT T,.cells 0 3 false [noTab]]++setX T 2 gn f) 7
   have at0:=z5U hO ([boxT T,.cells 0 3 false [noTab]]++setX T 2 gn f) g
   have H7:([boxT T,.cells 0 3 false [noTab]]++setX T 2 gn f:Heap).length=7:=rfl
   rw [H7] at at0
   have hpu:=z0g (clX T 7 g) ([boxT T,.cells 0 3 false [noTab]]++setX T 2 gn f)
   rw [H7] at hpu
   have hXl:=z61 T 7 g hR1
   have at1:=at0.more [.cells 0 3 false [memT T.tab 9 10 17 0 0 g]]
   generalize hX:clX T 7 g=X at cl at0 at1 hpu hXl
   have hA:CcAt T ((([boxT T,.cells 0 3 false [noTab]]++setX T 2 gn f)++X)++[.cells 0 3 false [memT T.tab 9 10 17 0 0 g]]) (X.length+7) gn g (clP' 7) T.tab:=by
    refine ⟨rfl,⟨f,hin,hci,rfl,rfl,by decide,z0Y _ _ _⟩,at1,z08 (by rw [List.length_append,H7];omega) _,?_,by omega,fun i hi=>?_⟩
    · rw [List.length_append,List.length_append,H7];simp only [List.length_cons,List.length_nil];omega
    · unfold clP';split <;> omega
   obtain ⟨e1,s1,hx1,hp1⟩:=zK9 hT hO hcan T.tab.R 0 _ _ _ _ _ _ _ _ _ _ _ _ _ _ _ _ _ _ _ _ _ _ _ _ _ _ _ _ _ _ _ _ _ _ _ _ _ _ _ _ _ _ _ _ _ _ _ _ _ _ _ _ _ _ _ _ _ _ _ _ _ _ _ _ _ _ _ _ _ _ _ _ _ _ _ _ (by omega) hA ((Clo.start hO).mono (fun _ h=>absurd h (Nat.not_lt_zero _)) (fun _ _ _ h=>absurd h (Nat.not_lt_zero _)) fun _ h=>h)
   obtain ⟨rfl,Ha,ta,⟨hA1,hC1⟩,jp,rfl⟩:=hp1
   obtain ⟨e2,s2,hx2,hp2⟩:=zMt hT hO hcan T.tab.C 0 _ _ _ _ _ _ _ _ _ _ _ _ _ _ _ _ _ _ _ _ _ _ _ _ _ _ _ _ _ _ _ _ _ _ _ _ _ _ _ _ _ _ _ _ _ _ _ _ _ _ _ _ _ _ _ _ _ _ _ _ _ _ _ _ _ _ _ _ _ _ _ _ _ _ _ _ (by omega) hA1 (hC1.mono (fun _ h=>h) (fun _ _ _ h=>h) fun _ h=>absurd h (Nat.not_lt_zero _))
   obtain ⟨rfl,Hb,tb,⟨hA2,hC2⟩,jq,rfl⟩:=hp2
   have gs:=fun b:Blk=>z08 (X:=X) rfl b
   have ss:=fun b b':Blk=>z0d (X:=X) rfl b b'
   have ls:=fun b:Blk=>z06 (X:=X) rfl b
   have hax:=hA1.box
   have hbx:=hA2.box
   have hbr:=hA2.res
   have hbl:=hA2.len
   have hblt:=hA2.lt
   have z1:(1 < Hb.length)=True:=eq_true (by omega)
   have y3:∀ b,(Hb.set 1 b)[1]?=some b:=fun b=>List.getElem?_set_self (by omega)
   have hrun:runT env 54 [T.v] [] 0=some (.ret (.tuple [memT T.tab 9 10 17 0 0 g,.int .i64 0]),Hb.set 1 (.cells 0 3 false [memT T.tab 9 10 17 0 0 g])):=by
    simp only [setX,boxT,netB,arcB,z0A,memT,noTab,List.cons_append,List.nil_append,Nat.reduceAdd] at hc cl hpu hax hbx hbr ⊢
    simp only [go_sem,simprocAttr,Try.f54,setX,boxT,netB,arcB,z0A,memT,noTab,List.cons_append,List.nil_append,Int.ofNat_zero,Int.natCast_zero,Nat.reduceAdd] at hx1 hx2
    rw [run_unfold fn54 rfl]
    simp only [go_sem,simprocAttr,Try.f54,numbered,hc,cl,hpu,gs,ss,ls,Nat.lt_add_one,Nat.zero_le]
    rw [hx1]
    simp only [go_sem,simprocAttr,hax]
    rw [hx2]
    simp only [go_sem,simprocAttr,hbx,hbr,y3,z1,unwind,modeEx,resultsOf,one]
   have tR:=hC2.R
   have tC:=hC2.C
   have yat:TbAt (Hb.set 1 (.cells 0 3 false [memT T.tab 9 10 17 0 0 g])) 9 10 17 0 0 g (clP' 7) tb:=by
    refine hA2.tab.mono fun j hj=>List.getElem?_set_ne ?_
    rcases hj with rfl | rfl | rfl | ⟨m,hm,rfl⟩
    · decide
    · decide
    · decide
    · have:=(hA2.ps m (by omega)).1
      omega
   have hmt:memT T.tab 9 10 17 0 0 g=memT tb 9 10 17 0 0 g:=by unfold memT;rw [tR,tC]
   have hb:=yat.back (n:=1) (by rw [hC2.len,tR]) (by rw [tC];exact hC2.wid)
   have hb:handBack (Hb.set 1 (.cells 0 3 false [memT T.tab 9 10 17 0 0 g])) 0 [] 3 (memT T.tab 9 10 17 0 0 g)=some (canon tb).v:=by rw [hmt] at hb ⊢;exact hb
   refine ⟨_,.inr (.inr ⟨hO,hcan,tb,hC2,rfl⟩),fun ro H nx=>?_⟩
   refine z0r rfl rfl rfl z0b hrun ?_ rfl ro H nx
   unfold handBack
   simp only [mapO,hb]
   rfl
set_option maxRecDepth 10000
set_option maxHeartbeats 4000000
theorem zQl {s:SlV} (h:s.l=[] ∨ s.sz=2) {i:Nat} (hi:i < s.l.length):s.sz=2:=by
 rcases h with h | h
 · rw [h] at hi;simp at hi
 · exact h
theorem zO2 {s u:SlV} (hs:s.l=[] ∨ s.sz=2) (hu:u.l=[] ∨ u.sz=2) (he:s.l=u.l) (hlen:s.l.length < 2 ^ 62):∀ (n i:Nat) (j2 j3 j6 j7 j8 j9 j10 j11 j12 j13 j14 j15 j16 j17 j18 j19 j20 j21 j22 j23 j24 j25:AVal),i+n=s.l.length →
    Goes (execT env (Try.f114.at [1,1,0,1,0]) ⟨[s.v,u.v,j2,j3,.bool false,.int .i64 i,j6,j7,j8,j9,j10,j11,j12,j13,j14,j15,j16,j17,j18,j19,j20,j21,j22,j23,j24,j25],[],[],0,[]⟩) fun ex st=>
     ex=.exit 0∧FrP 26 [] [] [] 0 [] st:=by
 intro n
 induction n with
 | zero=>
   intro i;intros;rename_i hi
   have hd:decide ((i:Int) < (s.l.length:Int))=false:=by simp;omega
   simp only [go_sem,simprocAttr,Try.f114,SlV.v]
   rw [exec_loop]
   simp only [go_sem,simprocAttr,List.length_map,hd]
   exact frP (by kernel_rfl)
 | succ n ih=>
   intro i;intros;rename_i hi
   have hd:decide ((i:Int) < (s.l.length:Int))=true:=by simp;omega
   have i0:(0:Int)≤(i:Int):=by omega
   obtain ⟨x,hx⟩:∃ x,s.l[i]?=some x:=⟨s.l[i],List.getElem?_eq_getElem (by omega)⟩
   have g1:(s.l.map spV)[i]?=some (spV x):=by rw [List.getElem?_map,hx];rfl
   have g2:(u.l.map spV)[i]?=some (spV x):=by rw [← he];exact g1
   have z1:=eq_true (zQl hs (i:=i) (by omega))
   have z2:=eq_true (zQl hu (i:=i) (by rw [← he];omega))
   have dd:∀ x:Int,decide (x=x)=true:=fun x=>decide_eq_true rfl
   have ih':=ih (i+1)
   simp only [go_sem,simprocAttr,Try.f114,SlV.v] at ih' ⊢
   rw [exec_loop]
   simp only [go_sem,simprocAttr,List.length_map,hd,i0,Int.toNat_natCast,g1,g2,z1,z2,zEC,dd,trunc,z00 (show i < 2 ^ 63 - 1 by omega)]
   exact ih' _ _ _ _ _ _ _ _ _ _ _ _ _ _ _ _ _ _ _ _ _ _ (by omega)
theorem z9U {s u:SlV} (hs:s.l=[] ∨ s.sz=2) (hu:u.l=[] ∨ u.sz=2) (he:s.l=u.l) (hlen:s.l.length < 2 ^ 62) (ro:Nat) (H:Heap) (nx:Nat):callT env 114 [s.v,u.v] ro H nx=some (.ret (.bool true),.ups []):=by
 have:∃ H',runT env 114 [s.v,u.v] [] 0=some (.ret (.bool true),H'):=by
  obtain ⟨ex,st,hx,hp⟩:=zO2 hs hu he hlen s.l.length 0 _ _ _ _ _ _ _ _ _ _ _ _ _ _ _ _ _ _ _ _ _ _ (by omega)
  obtain ⟨rfl,jp,rfl⟩:=hp
  have hd:decide ((s.l.length:Int)=(u.l.length:Int))=true:=by rw [he];exact decide_eq_true rfl
  simp only [go_sem,simprocAttr,Try.f114,SlV.v,Int.ofNat_zero,Int.natCast_zero] at hx
  rw [run_unfold fn114 rfl]
  simp only [go_sem,simprocAttr,Try.f114,SlV.v,List.length_map,hd]
  rw [hx]
  simp only [go_sem,simprocAttr,unwind,modeEx,resultsOf,one]
  exact ⟨_,rfl⟩
 obtain ⟨H',h⟩:=this
 have hp:∀ s:SlV,s.v.under 0=true:=fun s=>rfl
 exact call_pure rfl rfl rfl (by simp [underL,hp]) h rfl ro H nx
theorem zMX {T U:TabV} (hT:T.Wf) (hU:U.Wf) (he:T.tab=U.tab) (hl:∀ s ∈ T.cells,s.l.length < 2 ^ 62) (hcl:T.cells.length < 2 ^ 62):∀ (n i:Nat) (j0 j1 j6 j7 j8 j9 j10 j11 j12 j13 j14 j15 j16 j17 j18 j19 j20 j21 j22 j23 j24 j25 j26 j27 j28 j29 j30 j31 j32 j33 j34 j35 j36 j37 j38 j39 j40 j41 j42 j43 j44 j45 j46 j47:AVal),i+n=T.cells.length →
    Goes (execT env (Try.f52.at [1,1,0,1,0]) ⟨[j0,j1,.ptr 0 0 0 0,.ptr 1 0 0 0,.bool false,.int .i64 i,j6,j7,j8,j9,j10,j11,j12,j13,j14,j15,j16,j17,j18,j19,j20,j21,j22,j23,j24,j25,j26,j27,j28,j29,j30,j31,j32,j33,j34,j35,j36,j37,j38,j39,j40,j41,j42,j43,j44,j45,j46,j47],[boxT T,boxT U],[],0,[]⟩) fun ex st=>
     ex=.exit 0∧FrP 48 [] [boxT T,boxT U] [] 0 [] st:=by
 have hc:T.cells.map (·.l)=U.cells.map (·.l):=congrArg Tab.cells he
 have hlu:U.cells.length=T.cells.length:=by have:=congrArg List.length hc;simpa using this.symm
 intro n
 induction n with
 | zero=>
   intro i;intros;rename_i hi
   have hd:decide ((i:Int) < (T.cells.length:Int))=false:=by simp;omega
   simp only [go_sem,simprocAttr,Try.f52,boxT]
   rw [exec_loop]
   simp only [go_sem,simprocAttr,List.length_map,hd]
   exact frP (by kernel_rfl)
 | succ n ih=>
   intro i;intros;rename_i hi
   have hiT:i < T.cells.length:=by omega
   have hd:decide ((i:Int) < (T.cells.length:Int))=true:=by simp;omega
   have i0:(0:Int)≤(i:Int):=by omega
   obtain ⟨s,hs⟩:∃ x,T.cells[i]?=some x:=⟨T.cells[i],List.getElem?_eq_getElem hiT⟩
   obtain ⟨u,hu⟩:∃ x,U.cells[i]?=some x:=⟨U.cells[i]'(by omega),List.getElem?_eq_getElem (by omega)⟩
   have hsu:s.l=u.l:=by
    have:=congrArg (fun l=>l[i]?) hc
    simpa [hs,hu] using this
   have g1:(T.cells.map SlV.v)[i]?=some s.v:=by rw [List.getElem?_map,hs];rfl
   have g2:(U.cells.map SlV.v)[i]?=some u.v:=by rw [List.getElem?_map,hu];rfl
   have z1:(T.sz=1)=True:=eq_true (by
    rcases hT.cells with h | h
    · rw [h] at hiT;simp at hiT
    · exact h)
   have z2:(U.sz=1)=True:=eq_true (by
    rcases hU.cells with h | h
    · rw [h] at hlu;simp at hlu;omega
    · exact h)
   have sc:=z9U (hT.each s (List.mem_of_getElem? hs)) (hU.each u (List.mem_of_getElem? hu)) hsu (hl s (List.mem_of_getElem? hs))
   have ih':=ih (i+1)
   simp only [SlV.v] at g1 g2 sc
   simp only [go_sem,simprocAttr,Try.f52,boxT] at ih' ⊢
   rw [exec_loop]
   simp only [go_sem,simprocAttr,List.length_map,hd,i0,Int.toNat_natCast,g1,g2,z1,z2,sc,trunc,z00 (show i < 2 ^ 63 - 1 by omega)]
   exact ih' _ _ _ _ _ _ _ _ _ _ _ _ _ _ _ _ _ _ _ _ _ _ _ _ _ _ _ _ _ _ _ _ _ _ _ _ _ _ _ _ _ _ _ _ (by omega)
theorem z6O {T U:TabV} (hT:T.Wf) (hU:U.Wf) (he:T.tab=U.tab) (hr:T.rows.l.length < 2 ^ 62) (hc:T.cols.l.length < 2 ^ 62) (hl:∀ s ∈ T.cells,s.l.length < 2 ^ 62) (hcl:T.cells.length < 2 ^ 62) (ro:Nat) (H:Heap) (nx:Nat):callT env 52 [T.v,U.v] ro H nx=some (.ret (.bool true),.ups []):=by
 have:∃ H',runT env 52 [T.v,U.v] [] 0=some (.ret (.bool true),H'):=by
  obtain ⟨ex,st,hx,hp⟩:=zMX hT hU he hl hcl T.cells.length 0 _ _ _ _ _ _ _ _ _ _ _ _ _ _ _ _ _ _ _ _ _ _ _ _ _ _ _ _ _ _ _ _ _ _ _ _ _ _ _ _ _ _ _ _ (by omega)
  obtain ⟨rfl,jp,rfl⟩:=hp
  have s1:=z9U hT.rows hU.rows (congrArg Tab.rows he) hr
  have s2:=z9U hT.cols hU.cols (congrArg Tab.cols he) hc
  have hcc:T.cells.map (·.l)=U.cells.map (·.l):=congrArg Tab.cells he
  have hd:decide ((T.cells.length:Int)=(U.cells.length:Int))=true:=by
   have:=congrArg List.length hcc
   simp only [List.length_map] at this
   rw [this];exact decide_eq_true rfl
  simp only [SlV.v] at s1 s2
  simp only [go_sem,simprocAttr,Try.f52,boxT,Int.ofNat_zero,Int.natCast_zero] at hx
  rw [run_unfold fn52 rfl]
  simp only [go_sem,simprocAttr,Try.f52,s1,s2,List.length_map,hd]
  rw [hx]
  simp only [go_sem,simprocAttr,unwind,modeEx,resultsOf,one]
  exact ⟨_,rfl⟩
 obtain ⟨H',h⟩:=this
 exact call_pure rfl rfl rfl (by simp [underL,TabV.under]) h rfl ro H nx
set_option maxRecDepth 10000
set_option maxHeartbeats 4000000
set_option maxRecDepth 10000
set_option maxHeartbeats 4000000
set_option maxRecDepth 10000
set_option maxHeartbeats 4000000
set_option maxRecDepth 10000
set_option maxHeartbeats 4000000
set_option maxRecDepth 10000
set_option maxHeartbeats 4000000
set_option maxRecDepth 10000
set_option maxHeartbeats 4000000
theorem ClosedT.ok {t t':Tab} (hO:t.Ok) (h:ClosedT t t'):t'.Ok:=by
 have key:∀ {μ:(Nat→Nat→Int)→Int} {x y:Spn},EndsP t μ x→y.ok=true→(∀ s,Fits t s→y.lo≤μ s∧μ s≤y.hi)→x.ok=true:=fun {μ x y} he hy hb=>by
  have le:=he.le
  obtain ⟨⟨s1,f1,e1⟩,⟨s2,f2,e2⟩,_⟩:=he
  have b1:=hb s1 f1
  have b2:=hb s2 f2
  have:=Spn.ok_iff.1 hy
  exact Spn.ok_iff.2 ⟨by omega,by omega,le⟩
 have gd:∀ {l:List Spn} {x:Spn},x ∈ l→∃ i,i < l.length∧l.getD i sp0=x:=fun {l x} hx=>by
  obtain ⟨i,hi,e⟩:=List.getElem_of_mem hx
  exact ⟨i,hi,by rw [List.getD_eq_getElem?_getD,List.getElem?_eq_getElem hi,← e];rfl⟩
 have tR:=h.R
 have tC:=h.C
 have hR1:=hO.R1
 have hC1:=hO.C1
 have hR8:=hO.R8
 have hC8:=hO.C8
 refine ⟨by omega,by omega,by omega,by omega,by rw [h.len,tR],by rw [tC];exact h.wid,fun x hx=>?_,fun x hx=>?_,fun l hl x hx=>?_⟩
 · obtain ⟨i,hi,rfl⟩:=gd hx
   have hi:i < t.R:=by rw [← tR];exact hi
   exact key (h.row i hi trivial) (hO.row _ (z1D hi _)) fun s hs=>hs.row i hi
 · obtain ⟨i,hi,rfl⟩:=gd hx
   have hi:i < t.C:=by rw [← tC];exact hi
   exact key (h.col i hi trivial) (hO.col _ (z1D hi _)) fun s hs=>hs.col i hi
 · obtain ⟨i,hi,e⟩:=List.getElem_of_mem hl
   obtain ⟨k,hk,rfl⟩:=gd hx
   have hi':i < t.R:=by rw [← h.len];exact hi
   have hw:=h.wid l hl
   have hk':k < t.C:=by omega
   have e':l=t'.cells.getD i []:=by rw [List.getD_eq_getElem?_getD,List.getElem?_eq_getElem hi,← e];rfl
   have he:=h.cell i k hi' hk' trivial
   unfold Tab.cell at he
   rw [← e'] at he
   have hcl:t.cells.getD i [] ∈ t.cells:=z1D (by rw [hO.len];exact hi') _
   exact key he (hO.cel _ hcl _ (z1D (by rw [hO.wid _ hcl];exact hk') sp0)) fun s hs=>hs.cell i k hi' hk'
set_option maxRecDepth 10000
set_option maxHeartbeats 4000000
theorem zGm {T:TabV} (hT:T.Wf) (i k:Int) (x:Spn) (ro:Nat) (H:Heap) (nx:Nat):callT env 69 [T.v,.int .i64 i,.int .i64 k,spV x] ro H nx=some (.ret (zEm T.tab i k x),.ups []):=by
 have hu:underL 0 [T.v,.int .i64 i,.int .i64 k,spV x]=true:=by simp [underL,AVal.under,TabV.under,z7B]
 have ck:=z1X T hT
 have ic:=z3Z T i k
 have lr:T.rows.l.length=T.tab.R:=rfl
 have lc:T.cols.l.length=T.tab.C:=rfl
 unfold zEm
 have pure:∀ n:Int,noRef (.tuple [noTab,.int .i64 n])=true:=fun _=>rfl
 cases hok:T.tab.ok with
 | false=>
   have:∃ H',runT env 69 [T.v,.int .i64 i,.int .i64 k,spV x] [] 0=some (.ret (.tuple [noTab,.int .i64 60]),H'):=by
    rw [run_unfold fn69 rfl]
    simp only [go_sem,simprocAttr,Try.f69,ck,z22 hok,unwind,modeEx,resultsOf,one]
    exact ⟨_,rfl⟩
   obtain ⟨H',h⟩:=this
   exact call_pure rfl rfl rfl hu h (pure _) ro H nx
 | true=>
   cases ho:outB T.tab i k with
   | true=>
     have:∃ H',runT env 69 [T.v,.int .i64 i,.int .i64 k,spV x] [] 0=some (.ret (.tuple [noTab,.int .i64 1]),H'):=by
      rw [run_unfold fn69 rfl]
      simp only [go_sem,simprocAttr,Try.f69,ck,z0O hok,ic,ho,unwind,modeEx,resultsOf,one]
      exact ⟨_,rfl⟩
     obtain ⟨H',h⟩:=this
     exact call_pure rfl rfl rfl hu h (pure _) ro H nx
   | false=>
     cases hx:x.ok with
     | false=>
       have:∃ H',runT env 69 [T.v,.int .i64 i,.int .i64 k,spV x] [] 0=some (.ret (.tuple [noTab,.int .i64 1]),H'):=by
        rw [run_unfold fn69 rfl]
        simp only [go_sem,simprocAttr,Try.f69,ck,z0O hok,ic,ho,hx,unwind,modeEx,resultsOf,one]
        exact ⟨_,rfl⟩
       obtain ⟨H',h⟩:=this
       exact call_pure rfl rfl rfl hu h (pure _) ro H nx
     | true=>
       have hO:=Tab.ok_iff.1 hok
       obtain ⟨r,c,rfl,rfl,hr,hc⟩:=z1r ho
       have r0:(0:Int)≤(r:Int):=by omega
       have c0:(0:Int)≤(c:Int):=by omega
       obtain ⟨s,_,q1,q2,q3,_,_⟩:=TabV.at hT hO hr hc
       have q3:=eq_true q3
       rw [Int.toNat_natCast,Int.toNat_natCast]
       generalize hy:T.tab.cell r c=y at q2
       have m1:(z0t x y).lo=max x.lo y.lo:=rfl
       have m2:(z0t x y).hi=min x.hi y.hi:=rfl
       have hmt:AVal.agg [.int .i64 (max x.lo y.lo),.int .i64 (min x.hi y.hi)]=spV (z0t x y):=rfl
       have wr0:z0K (spV x) 0 (spV (z0t x y))=some (spV (z0t x y)):=rfl
       cases hm:decide ((z0t x y).hi < (z0t x y).lo) with
       | true=>
         have hm':=of_decide_eq_true hm
         rw [if_pos rfl,if_neg (by simp),if_pos hm']
         have:∃ H',runT env 69 [T.v,.int .i64 r,.int .i64 c,spV x] [] 0=some (.ret (.tuple [noTab,.int .i64 4]),H'):=by
          rw [run_unfold fn69 rfl]
          simp only [go_sem,simprocAttr,Try.f69,ck,z0O hok,ic,ho,hx,r0,c0,Int.toNat_natCast,q1,q2,q3,z5c,z6t,hm,hmt,wr0,unwind,modeEx,resultsOf,one]
          exact ⟨_,rfl⟩
         obtain ⟨H',h⟩:=this
         exact call_pure rfl rfl rfl hu h (pure _) ro H nx
       | false=>
         have hm':=of_decide_eq_false hm
         rw [if_pos rfl,if_neg (by simp),if_neg hm']
         have hok2:=zBU (y:=y) hx (by omega)
         have hO2:=z1O hO (i:=r) (k:=c) (x:=z0t x y) hr hok2
         obtain ⟨g,X,p,acc,ps,k1,k2,k3,k4,k5,k6,k7,k8,hpsge,k9⟩:=zKI hT hO (c:=c) hr (z0t x y) [boxT T,.cells 0 2 true [spV x],.cells 0 3 false [noTab],.cells 0 2 true [spV y],.cells 0 2 true [spV (z0t x y)]]
         have dR:decide ((r:Int) < (T.tab.R:Int))=true:=by simp;omega
         have dC:decide ((c:Int) < (T.tab.C:Int))=true:=by simp;omega
         have hrl:=z0V hO.len hO.wid hr
         have hget:=z2m hO hr hc
         rw [hy] at hget
         have gs:=fun b:Blk=>z08 (X:=X) rfl b
         have ss:=fun b b':Blk=>z0d (X:=X) rfl b b'
         have ls:=fun b:Blk=>z06 (X:=X) rfl b
         have H5:([boxT T,.cells 0 2 true [spV x],.cells 0 3 false [noTab],.cells 0 2 true [spV y],.cells 0 2 true [spV (z0t x y)]]:Heap).length=5:=rfl
         rw [H5] at k1 k2 k3 k6 k7 hpsge k9
         have wr:z0K (spV y) 0 (spV (z0t x y))=some (spV (z0t x y)):=rfl
         have z1:(p < X.length+1+1+1+1+1+1)=True:=eq_true (by omega)
         have hne1:∀ (Z:Heap) b,(Z.set p b)[X.length+1+1+1+1+1]?=Z[X.length+1+1+1+1+1]?:=fun Z b=>List.getElem?_set_ne (by omega)
         have hne2:∀ (Z:Heap) b,(Z.set p b)[2]?=Z[2]?:=fun Z b=>List.getElem?_set_ne (by omega)
         have k9:=k9 [.cells 0 3 false [memT T.tab 7 8 9 1 1 g]]
         simp only [boxT,memT,noTab,List.cons_append,List.nil_append,Nat.reduceAdd] at k1 k2 k3 k5 k9
         have z2:decide (4 < X.length+1+1+1+1+1+1)=true:=decide_eq_true (by omega)
         have z3:decide (9 < X.length+1+1+1+1+1+1)=true:=decide_eq_true (by omega)
         have z4:decide (p < X.length+1+1+1+1+1+1)=true:=decide_eq_true (by omega)
         have z5:decide (X.length+1+1+1+1+1 < X.length+1+1+1+1+1+1)=true:=decide_eq_true (by omega)
         have z6:(2 < X.length+1+1+1+1+1+1)=True:=eq_true (by omega)
         obtain ⟨Y,hY⟩:∃ Y:Heap,Y=(boxT T :: Blk.cells 0 2 true [spV x] :: Blk.cells 0 3 false [noTab] :: Blk.cells 0 2 true [spV y] :: Blk.cells 0 2 true [spV (z0t x y)] :: (X++[Blk.cells 0 3 false [memT T.tab 7 8 9 1 1 g]])).set p (Blk.cells 0 2 true ((rowA T.tab r).set c (spV (z0t x y)))):=⟨_,rfl⟩
         have y1:Y[X.length+1+1+1+1+1]?=some (.cells 0 3 false [memT T.tab 7 8 9 1 1 g]):=by
          rw [hY,hne1]
          exact z08 (X:=X) rfl _
         have y2:Y[2]?=some (.cells 0 3 false [noTab]):=by
          rw [hY,hne2];rfl
         have yl:Y.length=X.length+1+1+1+1+1+1:=by rw [hY];simp
         have y3:∀ b,(Y.set 2 b)[2]?=some b:=fun b=>List.getElem?_set_self (by omega)
         have y4:∀ b j,j ≠ 2→(Y.set 2 b)[j]?=Y[j]?:=fun b j h=>List.getElem?_set_ne (Ne.symm h)
         have yat:TbAt (Y.set 2 (.cells 0 3 false [memT T.tab 7 8 9 1 1 g])) 7 8 9 1 1 g ps (T.tab.setCell r c (z0t x y)):=by
          have hlt:=k9.lt
          have k9':TbAt Y 7 8 9 1 1 g ps (T.tab.setCell r c (z0t x y)):=by rw [hY];exact k9
          refine k9'.mono fun j hj=>y4 _ _ ?_
          rcases hj with rfl | rfl | rfl | ⟨m,hm,rfl⟩
          · omega
          · omega
          · omega
          · exact Nat.ne_of_gt (Nat.lt_of_lt_of_le (by decide) (hpsge m))
         simp only [boxT,memT,noTab] at hY y1 y2
         have hrun:runT env 69 [T.v,.int .i64 r,.int .i64 c,spV x] [] 0=some (.ret (.tuple [memT T.tab 7 8 9 1 1 g,.int .i64 0]),Y.set 2 (.cells 0 3 false [memT T.tab 7 8 9 1 1 g])):=by
          rw [run_unfold fn69 rfl]
          simp only [go_sem,simprocAttr,Try.f69,ck,z0O hok,ic,ho,hx,r0,c0,Int.toNat_natCast,q1,q2,q3,z5c,z6t,hm,hmt,wr0,k1,k2,k3,k4,k5,gs,ss,ls,hget,hrl,dR,dC,wr,z1,z2,z3,z4,z5,Nat.zero_le,Nat.lt_add_one,unwind,modeEx,resultsOf,one]
          rw [apart_ok]
          · rw [← hY]
            simp only [go_sem,simprocAttr,y1,y2,y3,yl,z6,unwind,modeEx,resultsOf,one,memT]
          · exact z0L (by kernel_rfl)
         refine z0r rfl rfl rfl hu hrun ?_ rfl ro H nx
         unfold handBack
         have hb:=yat.back (n:=1) hO2.len hO2.wid
         have hb:handBack (Y.set 2 (.cells 0 3 false [memT T.tab 7 8 9 1 1 g])) 0 [] 3 (memT T.tab 7 8 9 1 1 g)=some (canon (T.tab.setCell r c (z0t x y))).v:=hb
         simp only [mapO,hb]
         rfl
set_option maxRecDepth 10000
set_option maxHeartbeats 4000000
def RetT (v:AVal):Prop:=∃ (W:TabV) (e:Int),v=.tuple [W.v,.int .i64 e]∧∀ ro H nx,callT env 52 [W.v,W.v] ro H nx=some (.ret (.bool true),.ups [])
def noW:TabV:=⟨⟨true,0,[]⟩,⟨true,0,[]⟩,true,0,[]⟩
theorem RetT.no (e:Int):RetT (.tuple [noTab,.int .i64 e]):=by
 have hW:noW.Wf:=by constructor <;> first | exact .inl rfl | (intro s hs;cases hs) | decide
 exact ⟨noW,e,rfl,z6O hW hW rfl (by decide) (by decide) (fun s hs=>by cases hs) (by decide)⟩
theorem RetT.yes {t:Tab} (hO:t.Ok):RetT (.tuple [(canon t).v,.int .i64 0]):=by
 have hW:=z1S hO.R8 hO.C8 hO.len hO.wid
 have h1:=hO.R8
 have h2:=hO.C8
 have h3:=hO.len
 refine ⟨canon t,0,rfl,z6O hW hW rfl (by show t.R < _;omega) (by show t.C < _;omega) (fun s hs=>?_) (by unfold canon;simp only [List.length_map];omega)⟩
 unfold canon at hs
 obtain ⟨l,hl,rfl⟩:=List.mem_map.1 hs
 have:=hO.wid l hl
 show l.length < _
 omega
theorem ClAns.ret {t:Tab} {v:AVal} (h:ClAns t v):RetT v:=by
 rcases h with ⟨_,rfl⟩ | ⟨_,_,rfl⟩ | ⟨hO,_,t',h,rfl⟩
 · exact .no _
 · exact .no _
 · exact .yes (h.ok hO)
theorem ClAns.one {t:Tab} {v w:AVal} (h:ClAns t v) (h':ClAns t w):v=w:=by
 rcases h with ⟨a,rfl⟩ | ⟨a,b,rfl⟩ | ⟨a,b,t',c,rfl⟩ <;> rcases h' with ⟨a',rfl⟩ | ⟨a',b',rfl⟩ | ⟨a',b',t'',c',rfl⟩
 · rfl
 · rw [Tab.ok_iff.2 a'] at a;cases a
 · rw [Tab.ok_iff.2 a'] at a;cases a
 · rw [Tab.ok_iff.2 a] at a';cases a'
 · rfl
 · rw [b] at b';cases b'
 · rw [Tab.ok_iff.2 a] at a';cases a'
 · rw [b] at b';cases b'
 · rw [c.unique c']
theorem zLZ (t:Tab) (i k:Int) (x:Spn):RetT (zEm t i k x):=by
 unfold zEm
 cases hok:t.ok with
 | false=>exact .no _
 | true=>
   have hO:=Tab.ok_iff.1 hok
   cases ho:(outB t i k || !x.ok) with
   | true=>exact .no _
   | false=>
     obtain ⟨ho',hx⟩:=Bool.or_eq_false_iff.1 ho
     have hx:x.ok=true:=by simpa using hx
     obtain ⟨r,c,rfl,rfl,hr,hc⟩:=z1r ho'
     rw [if_pos rfl,if_neg (by decide)]
     split
     · exact .no _
     · rename_i hm
       rw [Int.toNat_natCast,Int.toNat_natCast] at hm ⊢
       exact .yes (z1O hO hr (zBU hx (by omega)))
theorem zLT (t:Tab):RetT (z9e t):=by
 unfold z9e
 cases hok:t.ok with
 | false=>exact .no _
 | true=>exact .yes (z9g (Tab.ok_iff.1 hok))
theorem zKg (t:Tab) (i k:Int):RetT (zE8 t i k):=by
 unfold zE8
 cases hok:t.ok with
 | false=>exact .no _
 | true=>
   have hO:=Tab.ok_iff.1 hok
   cases ho:badM t i k with
   | true=>exact .no _
   | false=>
     obtain ⟨a,b,rfl,rfl,ha,hb,hab⟩:=zB0 ho
     rw [if_pos rfl,if_neg (by decide),Int.toNat_natCast,Int.toNat_natCast]
     cases hall:(z41 t a b).all Spn.ok with
     | false=>exact .no _
     | true=>exact .yes (z5d hO hab ha hb hall)
theorem zP1 (a0 a1 a2 a3 a4:List AVal) (h0:FitT env 8 25 a0) (h1:FitT env 8 3 a1) (h2:FitT env 8 3 a2) (h3:FitT env 8 3 a3) (h4:FitT env 8 39 a4):∃ H',runT env 18 [pack ⟨.struct [(22,0),(22,1),(23,2)],3,72,.agg [.lit true 0 [],.lit true 0 [],.lit true 0 []]⟩ a0,pack ⟨.int .i64,1,8,.int .i64 (0)⟩ a1,pack ⟨.int .i64,1,8,.int .i64 (0)⟩ a2,pack ⟨.int .i64,1,8,.int .i64 (0)⟩ a3,pack ⟨.struct [(3,0),(3,1)],2,16,.agg [.int .i64 (0),.int .i64 (0)]⟩ a4] [] 0=some (.ret (.bool true),H'):=by
 obtain ⟨T,hT,e0⟩:=z2N (m:=3) h0
 obtain ⟨i,rfl,_⟩:=z0W ti3 h1
 obtain ⟨k,rfl,_⟩:=z0W ti3 h2
 obtain ⟨o,rfl,_⟩:=z0W ti3 h3
 obtain ⟨x,rfl,_⟩:=zDv (m:=6) h4
 show ∃ H',runT env 18 [.agg a0,.int .i64 i,.int .i64 k,.int .i64 o,spV x] [] 0=some (.ret (.bool true),H')
 rw [e0]
 have sc:=z3O T
 obtain ⟨v1,q1,c1⟩:=z5u hT
 obtain ⟨v2,q2,c2⟩:=zCq hT
 obtain rfl:=q1.one q2
 obtain ⟨W1,n1,rfl,s1⟩:=q1.ret
 have w1:=zC4 hT i k x
 have w2:=zGm hT i k x
 obtain ⟨W2,n2,e2,s2⟩:=zLZ T.tab i k x
 rw [e2] at w1 w2
 have t1:=z4U hT
 have t2:=zCt hT
 obtain ⟨W3,n3,e3,s3⟩:=zLT T.tab
 rw [e3] at t1 t2
 have m1:=z8Y hT i o
 have m2:=zCs hT i o
 obtain ⟨W4,n4,e4,s4⟩:=zKg T.tab i o
 rw [e4] at m1 m2
 have wr:∀ A B:TabV,z0K A.v 0 B.v=some B.v:=fun _ _=>rfl
 have dd:∀ n:Int,decide (n=n)=true:=fun n=>decide_eq_true rfl
 rw [run_unfold fn18 rfl]
 cases hs:z7A T.tab with
 | false=>
   simp only [go_sem,simprocAttr,Try.f18,sc,hs,unwind,modeEx,resultsOf,one]
   exact ⟨_,rfl⟩
 | true=>
   simp only [go_sem,simprocAttr,Try.f18,sc,hs,c1,c2,w1,w2,t1,t2,m1,m2,s1,s2,s3,s4,dd,wr,unwind,modeEx,resultsOf,one]
   exact ⟨_,rfl⟩
end Go.Proofs.Ytgfejpngfikjiaa.Tidy
