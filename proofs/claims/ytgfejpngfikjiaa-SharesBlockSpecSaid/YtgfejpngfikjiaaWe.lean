/-
 What the functions that SharesBlockSpec reaches compute;the law,run.
-/
import Derived.Test.YtgfejpngfikjiaaWd
import Derived.Test.YtgfejpngfikjiaaWc
import Derived.Test.YtgfejpngfikjiaaWb
set_option linter.all false
namespace Go.Proofs.Ytgfejpngfikjiaa.Tidy
open Go Go.IntWalk
set_option maxRecDepth 10000
set_option linter.unusedSimpArgs false
set_option maxHeartbeats 4000000
def accJ (n:Nat) (f:Nat→Int):Blk:=if n=0 then .cells 0 0 false [] else .cells n 1 true (intsV n f)
theorem z7z {n:Nat} (f:Nat→Int) (h:0 < n):accJ n f=.cells n 1 true (intsV n f):=if_neg (by omega)
theorem z2f {H:Heap} {id n:Nat} {f g:Nat→Int} {v:Int} (hH:H[id]?=some (accJ n f)) (hg:intsV (n+1) g=intsV n f++[.int .i64 v]) (hb:n < 2 ^ 30) (nx:Nat):
    z0H env 0 nx 51 (.ref id n 0 n false) (.lit true 1 [.int .i64 v]) H=some (.ref id (n+1) 0 (n+1) false,[(id,accJ (n+1) g)]):=by
 have hfl:z0r env 8 3=true:=rfl
 cases n with
 | zero=>
   have hH':H[id]?=some (.cells 0 0 false []):=hH
   have hnr:noRef (.int .i64 v)=true:=rfl
   have hm:9≤z04:=by decide
   have e:accJ (0+1) g=.cells 1 1 true [.int .i64 v]:=by
    rw [z7z g (by decide),hg];rfl
   rw [e]
   simp [z0H,ti51,ti3,z16,hH',hfl,z1Q,AVal.cellsOf,AVal.isTuple,hnr,hm]
 | succ n=>
   have hH':H[id]?=some (.cells (n+1) 1 true (intsV (n+1) f)):=by rw [hH,z7z f (Nat.succ_pos _)]
   have hgr:=append_ref (E:=env) (ro:=0) (nx:=nx) (H:=H) (id:=id) (g:=n+1) (len:=n+1) (x:=.lit true 1 [.int .i64 v]) (nsz:=1) (new:=[.int .i64 v]) (fl:=true) (bs:=intsV (n+1) f) ti51 ti3 rfl ⟨by decide,rfl,rfl⟩ rfl (by simp)
    hH' (z0F _ _) (Nat.succ_pos _) (Nat.zero_le _) (by show (n+1+1) * 9≤2 ^ 45;omega) (fun _=>rfl)
   rw [hgr,z7z g (Nat.succ_pos _),hg];rfl
def cz:Nat→Int:=fun _=>0
def cm1:Nat→Int:=fun _=>-1
theorem zPB {v0 v2:AVal} {n:Nat} (hn:n < 1000):∀ (d k:Nat) (j3 j4 j5 j6 j7 j11 j12 j13 j14 j15 j16 j17 j18 j19 j20 j21 j22 j23 j24 j25 j26 j27 j28 j29 j30 j31 j32 j33 j34 j35 j36 j37 j38 j39 j40 j41 j42 j43 j44 j45 j46 j47 j48 j49 j50 j51 j52 j53 j54 j55 j56 j57 j58 j59 j60 j61 j62 j63 j64 j65 j66 j67 j68 j69 j70 j71 j72 j73 j74 j75 j76 j77 j78 j79 j80 j81 j82 j83 j84 j85 j86 j87 j88 j89 j90 j91 j92 j93 j94 j95 j96 j97 j98 j99 j100 j101 j102 j103 j104 j105 j106 j107 j108 j109 j110 j111 j112 j113 j114 j115 j116 j117 j118 j119 j120 j121 j122:AVal),k+d=n →
    Goes (execT env (Try.f142.at [1,1,0,1,0]) ⟨[v0,.int .i64 n,v2,j3,j4,j5,j6,j7,.ref 0 k 0 k false,.ref 1 k 0 k false,.int .i64 k,j11,j12,j13,j14,j15,j16,j17,j18,j19,j20,j21,j22,j23,j24,j25,j26,j27,j28,j29,j30,j31,j32,j33,j34,j35,j36,j37,j38,j39,j40,j41,j42,j43,j44,j45,j46,j47,j48,j49,j50,j51,j52,j53,j54,j55,j56,j57,j58,j59,j60,j61,j62,j63,j64,j65,j66,j67,j68,j69,j70,j71,j72,j73,j74,j75,j76,j77,j78,j79,j80,j81,j82,j83,j84,j85,j86,j87,j88,j89,j90,j91,j92,j93,j94,j95,j96,j97,j98,j99,j100,j101,j102,j103,j104,j105,j106,j107,j108,j109,j110,j111,j112,j113,j114,j115,j116,j117,j118,j119,j120,j121,j122],[accJ k cz,accJ k cm1],[],0,[8,9,16]⟩) fun ex st=>
     ex=.exit 0∧FrP 123 [(0,v0),(1,.int .i64 n),(2,v2),(8,.ref 0 n 0 n false),(9,.ref 1 n 0 n false)] [accJ n cz,accJ n cm1] [] 0 [8,9,16] st:=by
 intro d
 induction d with
 | zero=>
   intro k;intros;rename_i hk
   have hd:decide ((k:Int) < (n:Int))=false:=by simp;omega
   have hk':k=n:=by omega
   subst hk'
   simp only [go_sem,simprocAttr,Try.f142]
   rw [exec_loop]
   simp only [go_sem,simprocAttr,hd]
   exact frP (by kernel_rfl)
 | succ d ih=>
   intro k;intros;rename_i hk
   have hd:decide ((k:Int) < (n:Int))=true:=by simp;omega
   have ap1:=z2f (H:=[accJ k cz,accJ k cm1]) (id:=0) (n:=k) (f:=cz) (g:=cz) (v:=0) rfl (z61 _ _) (by omega) 2
   have ap2:=z2f (H:=[accJ (k+1) cz,accJ k cm1]) (id:=1) (n:=k) (f:=cm1) (g:=cm1) (v:=-1) rfl (z61 _ _) (by omega) 2
   have ih':=ih (k+1)
   simp only [go_sem,simprocAttr,Try.f142] at ih' ⊢
   rw [exec_loop]
   simp only [go_sem,simprocAttr,hd,ap1,ap2,z00 (show k < 2 ^ 63 - 1 by omega)]
   exact ih' _ _ _ _ _ _ _ _ _ _ _ _ _ _ _ _ _ _ _ _ _ _ _ _ _ _ _ _ _ _ _ _ _ _ _ _ _ _ _ _ _ _ _ _ _ _ _ _ _ _ _ _ _ _ _ _ _ _ _ _ _ _ _ _ _ _ _ _ _ _ _ _ _ _ _ _ _ _ _ _ _ _ _ _ _ _ _ _ _ _ _ _ _ _ _ _ _ _ _ _ _ _ _ _ _ _ _ _ _ _ _ _ _ _ _ _ _ (by omega)
def ciH (n:Nat) (s:Rl):Heap:=[.cells n 1 true (intsV n s.g),.cells n 1 true (intsV n s.p)]
def RlB (s:Rl) (B:Int):Prop:=∀ v,0≤s.g v∧s.g v≤B
theorem RlB.go {ws:List Res} {free:Int} (hg:∀ w ∈ ws,-1≤w.gain∧w.gain≤1) {s:Rl} {B:Int} (h:RlB s B):∀ i,i≤ws.length→RlB (rlGo ws free s i) (B+i)
 | 0,_=>fun v=>by have:=h v;show 0≤s.g v∧s.g v≤B+(0:Nat);omega
 | i+1,hi=>fun v=>by
   have ih:=RlB.go (free:=free) hg h i (by omega)
   have hwm:ws.getD i default ∈ ws:=by
    rw [List.getD_eq_getElem?_getD,List.getElem?_eq_getElem (show i < ws.length by omega)]
    exact List.getElem_mem (show i < ws.length by omega)
   have hw:=hg _ hwm
   have iv:=ih v
   have is:=ih (ws.getD i default).start
   have hm:=zEH free (rlGo ws free s i) (ws.getD i default) i v
   show 0≤(rlAt free (rlGo ws free s i) (ws.getD i default) i).g v∧(rlAt free (rlGo ws free s i) (ws.getD i default) i).g v≤B+(i+1:Nat)
   refine ⟨by omega,?_⟩
   unfold rlAt
   split
   · show updF _ _ _ v≤_
     unfold updF
     split <;> omega
   · omega
theorem RlB.rounds {ws:List Res} {free:Int} (hg:∀ w ∈ ws,-1≤w.gain∧w.gain≤1):∀ k,RlB (rlN ws free k) (k * ws.length:Nat)
 | 0=>fun v=>by show 0≤(0:Int)∧(0:Int)≤_;omega
 | k+1=>by
   have h:RlB ⟨(rlN ws free k).g,(rlN ws free k).p,-1⟩ (k * ws.length:Nat):=RlB.rounds (free:=free) hg k
   have:=h.go (free:=free) hg ws.length (Nat.le_refl _)
   intro v
   have:=this v
   have e:(rlN ws free (k+1)).g v=(rlGo ws free ⟨(rlN ws free k).g,(rlN ws free k).p,-1⟩ ws.length).g v:=rfl
   rw [Nat.succ_mul,e]
   generalize k * ws.length=K at this ⊢
   omega
theorem zPC {ws:List Res} {n:Nat} {free:Int} {cl:Bool} (hn:∀ w ∈ ws,w.start < n∧w.to < n) (hg:∀ w ∈ ws,-1≤w.gain∧w.gain≤1) (hl:ws.length < 1000) {s:Rl} {B:Int} (hB:RlB s B) (hB':B < 2 ^ 40) {m:Int}:∀ (d i:Nat) (j3 j4 j5 j6 j7 j10 j14 j15 j16 j17 j18 j19 j20 j21 j22 j23 j24 j25 j26 j27 j28 j29 j30 j31 j32 j33 j34 j35 j36 j37 j38 j39 j40 j41 j42 j43 j44 j45 j46 j47 j48 j49 j50 j51 j52 j53 j54 j55 j56 j57 j58 j59 j60 j61 j62 j63 j64 j65 j66 j67 j68 j69 j70 j71 j72 j73 j74 j75 j76 j77 j78 j79 j80 j81 j82 j83 j84 j85 j86 j87 j88 j89 j90 j91 j92 j93 j94 j95 j96 j97 j98 j99 j100 j101 j102 j103 j104 j105 j106 j107 j108 j109 j110 j111 j112 j113 j114 j115 j116 j117 j118 j119 j120 j121 j122:AVal),i+d=ws.length →
    Goes (execT env (Try.f142.at [1,1,1,1,0,1,0,0,1,0,0,1,1,0]) ⟨[.lit cl 4 (ws.map stpV),.int .i64 n,.int .i64 free,j3,j4,j5,j6,j7,.ref 0 n 0 n false,.ref 1 n 0 n false,j10,.int .i64 (rlGo ws free s i).last,.int .i64 m,.int .i64 i,j14,j15,j16,j17,j18,j19,j20,j21,j22,j23,j24,j25,j26,j27,j28,j29,j30,j31,j32,j33,j34,j35,j36,j37,j38,j39,j40,j41,j42,j43,j44,j45,j46,j47,j48,j49,j50,j51,j52,j53,j54,j55,j56,j57,j58,j59,j60,j61,j62,j63,j64,j65,j66,j67,j68,j69,j70,j71,j72,j73,j74,j75,j76,j77,j78,j79,j80,j81,j82,j83,j84,j85,j86,j87,j88,j89,j90,j91,j92,j93,j94,j95,j96,j97,j98,j99,j100,j101,j102,j103,j104,j105,j106,j107,j108,j109,j110,j111,j112,j113,j114,j115,j116,j117,j118,j119,j120,j121,j122],ciH n (rlGo ws free s i),[],0,[8,9,16]⟩) fun ex st=>
     ex=.exit 4∧FrP 123 [(0,.lit cl 4 (ws.map stpV)),(1,.int .i64 n),(2,.int .i64 free),(8,.ref 0 n 0 n false),(9,.ref 1 n 0 n false),(11,.int .i64 (rlGo ws free s ws.length).last),(12,.int .i64 m)] (ciH n (rlGo ws free s ws.length)) [] 0 [8,9,16] st:=by
 intro d
 induction d with
 | zero=>
   intro i;intros;rename_i hi
   have hd:decide ((i:Int) < (ws.length:Int))=false:=by simp;omega
   have hi':i=ws.length:=by omega
   rw [hi'] at hd ⊢
   simp only [go_sem,simprocAttr,Try.f142]
   rw [exec_loop]
   simp only [go_sem,simprocAttr,List.length_map,hd]
   exact frP (by kernel_rfl)
 | succ d ih=>
   intro i;intros;rename_i hi
   have hiw:i < ws.length:=by omega
   have hd:decide ((i:Int) < (ws.length:Int))=true:=by simp;omega
   have i0:(0:Int)≤(i:Int):=by omega
   have hgw:(ws.map stpV)[i]?=some (stpV (ws.getD i default)):=by
    rw [List.getElem?_map,List.getD_eq_getElem?_getD,List.getElem?_eq_getElem hiw];rfl
   have hwm:ws.getD i default ∈ ws:=by
    rw [List.getD_eq_getElem?_getD,List.getElem?_eq_getElem hiw]
    exact List.getElem_mem hiw
   have eG:rlGo ws free s (i+1)=rlAt free (rlGo ws free s i) (ws.getD i default) i:=rfl
   have ih':=ih (i+1)
   rw [eG] at ih'
   have hb:=hB.go (free:=free) hg i (by omega)
   generalize rlGo ws free s i=u at ih' hb ⊢
   generalize ws.getD i default=w at hgw hwm ih'
   obtain ⟨hns,hnt⟩:=hn w hwm
   have hgg:=hg w hwm
   have bs:=hb w.start
   have gs:(intsV n u.g)[w.start]?=some (.int .i64 (u.g w.start)):=z0b hns
   have gt:(intsV n u.g)[w.to]?=some (.int .i64 (u.g w.to)):=z0b hnt
   have gp:(intsV n u.p)[w.to]?=some (.int .i64 (u.p w.to)):=z0b hnt
   have ws0:(0:Int)≤(w.start:Int):=by omega
   have wt0:(0:Int)≤(w.to:Int):=by omega
   have ds:decide ((w.start:Int) < (n:Int))=true:=by simp;omega
   have dt:decide ((w.to:Int) < (n:Int))=true:=by simp;omega
   have wi:IntKind.i64.wrap ((i:Int)+1)=((i+1:Nat):Int):=z00 (by omega)
   have wa:IntKind.i64.wrap (u.g w.start+w.gain)=u.g w.start+w.gain:=i64_in _ (by omega)
   have wr:z0J (.agg [.int .i64 0,.int .i64 0,.int .i64 0,.int .i64 0]) 0 (.agg [.int .i64 w.start,.int .i64 w.to,.int .i64 w.room,.int .i64 w.gain])=some (.agg [.int .i64 w.start,.int .i64 w.to,.int .i64 w.room,.int .i64 w.gain]):=rfl
   have sg:(intsV n u.g).set w.to (.int .i64 (u.g w.start+w.gain))=intsV n (updF u.g w.to (u.g w.start+w.gain)):=z2D fun _ _=>rfl
   have sp:(intsV n u.p).set w.to (.int .i64 (i:Int))=intsV n (updF u.p w.to i):=z2D fun _ _=>rfl
   simp only [stpV,arcA] at hgw
   by_cases hr:free≤w.room
   · have dr:decide (free≤w.room)=true:=decide_eq_true hr
     by_cases hc:u.g w.to < u.g w.start+w.gain
     · have dc:decide (u.g w.to < u.g w.start+w.gain)=true:=decide_eq_true hc
       have eA:rlAt free u w i=⟨updF u.g w.to (u.g w.start+w.gain),updF u.p w.to i,w.to⟩:=if_pos ⟨hr,hc⟩
       rw [eA] at ih'
       simp only [go_sem,simprocAttr,Try.f142,ciH] at ih' ⊢
       rw [exec_loop]
       simp only [go_sem,simprocAttr,List.length_map,hd,i0,Int.toNat_natCast,hgw,wr,dr,gs,gt,gp,ws0,wt0,ds,dt,hns,hnt,wa,dc,sg,sp,z0F,wi]
       rw [apart_ok (z0C (by kernel_rfl))]
       simp only [go_sem,simprocAttr,List.length_map,hd,i0,Int.toNat_natCast,hgw,wr,dr,gs,gt,gp,ws0,wt0,ds,dt,hns,hnt,wa,dc,sg,sp,z0F,wi]
       exact ih' _ _ _ _ _ _ _ _ _ _ _ _ _ _ _ _ _ _ _ _ _ _ _ _ _ _ _ _ _ _ _ _ _ _ _ _ _ _ _ _ _ _ _ _ _ _ _ _ _ _ _ _ _ _ _ _ _ _ _ _ _ _ _ _ _ _ _ _ _ _ _ _ _ _ _ _ _ _ _ _ _ _ _ _ _ _ _ _ _ _ _ _ _ _ _ _ _ _ _ _ _ _ _ _ _ _ _ _ _ _ _ _ _ _ _ (by omega)
     · have dc:decide (u.g w.to < u.g w.start+w.gain)=false:=decide_eq_false hc
       have eA:rlAt free u w i=u:=if_neg (fun h=>hc h.2)
       rw [eA] at ih'
       simp only [go_sem,simprocAttr,Try.f142,ciH] at ih' ⊢
       rw [exec_loop]
       simp only [go_sem,simprocAttr,List.length_map,hd,i0,Int.toNat_natCast,hgw,wr,dr,gs,gt,gp,ws0,wt0,ds,dt,hns,hnt,wa,dc,sg,sp,z0F,wi]
       exact ih' _ _ _ _ _ _ _ _ _ _ _ _ _ _ _ _ _ _ _ _ _ _ _ _ _ _ _ _ _ _ _ _ _ _ _ _ _ _ _ _ _ _ _ _ _ _ _ _ _ _ _ _ _ _ _ _ _ _ _ _ _ _ _ _ _ _ _ _ _ _ _ _ _ _ _ _ _ _ _ _ _ _ _ _ _ _ _ _ _ _ _ _ _ _ _ _ _ _ _ _ _ _ _ _ _ _ _ _ _ _ _ _ _ _ _ (by omega)
   · have dr:decide (free≤w.room)=false:=decide_eq_false hr
     have eA:rlAt free u w i=u:=if_neg (fun h=>hr h.1)
     rw [eA] at ih'
     simp only [go_sem,simprocAttr,Try.f142,ciH] at ih' ⊢
     rw [exec_loop]
     simp only [go_sem,simprocAttr,List.length_map,hd,i0,Int.toNat_natCast,hgw,wr,dr,gs,gt,gp,ws0,wt0,ds,dt,hns,hnt,wa,sg,sp,z0F,wi]
     exact ih' _ _ _ _ _ _ _ _ _ _ _ _ _ _ _ _ _ _ _ _ _ _ _ _ _ _ _ _ _ _ _ _ _ _ _ _ _ _ _ _ _ _ _ _ _ _ _ _ _ _ _ _ _ _ _ _ _ _ _ _ _ _ _ _ _ _ _ _ _ _ _ _ _ _ _ _ _ _ _ _ _ _ _ _ _ _ _ _ _ _ _ _ _ _ _ _ _ _ _ _ _ _ _ _ _ _ _ _ _ _ _ _ _ _ _ (by omega)
theorem zJQ {ws:List Res} {n:Nat} {free:Int} {cl:Bool} (hn:∀ w ∈ ws,w.start < n∧w.to < n) (hg:∀ w ∈ ws,-1≤w.gain∧w.gain≤1) (hl:ws.length < 1000) (hn':n < 1000):∀ (d k:Nat) (j3 j4 j5 j6 j7 j10 j13 j14 j15 j16 j17 j18 j19 j20 j21 j22 j23 j24 j25 j26 j27 j28 j29 j30 j31 j32 j33 j34 j35 j36 j37 j38 j39 j40 j41 j42 j43 j44 j45 j46 j47 j48 j49 j50 j51 j52 j53 j54 j55 j56 j57 j58 j59 j60 j61 j62 j63 j64 j65 j66 j67 j68 j69 j70 j71 j72 j73 j74 j75 j76 j77 j78 j79 j80 j81 j82 j83 j84 j85 j86 j87 j88 j89 j90 j91 j92 j93 j94 j95 j96 j97 j98 j99 j100 j101 j102 j103 j104 j105 j106 j107 j108 j109 j110 j111 j112 j113 j114 j115 j116 j117 j118 j119 j120 j121 j122:AVal),k+d=n+1 →
    Goes (execT env (Try.f142.at [1,1,1,1,0,1,0]) ⟨[.lit cl 4 (ws.map stpV),.int .i64 n,.int .i64 free,j3,j4,j5,j6,j7,.ref 0 n 0 n false,.ref 1 n 0 n false,j10,.int .i64 (rlN ws free k).last,.int .i64 k,j13,j14,j15,j16,j17,j18,j19,j20,j21,j22,j23,j24,j25,j26,j27,j28,j29,j30,j31,j32,j33,j34,j35,j36,j37,j38,j39,j40,j41,j42,j43,j44,j45,j46,j47,j48,j49,j50,j51,j52,j53,j54,j55,j56,j57,j58,j59,j60,j61,j62,j63,j64,j65,j66,j67,j68,j69,j70,j71,j72,j73,j74,j75,j76,j77,j78,j79,j80,j81,j82,j83,j84,j85,j86,j87,j88,j89,j90,j91,j92,j93,j94,j95,j96,j97,j98,j99,j100,j101,j102,j103,j104,j105,j106,j107,j108,j109,j110,j111,j112,j113,j114,j115,j116,j117,j118,j119,j120,j121,j122],ciH n (rlN ws free k),[],0,[8,9,16]⟩) fun ex st=>
     ex=.exit 2∧FrP 123 [(0,.lit cl 4 (ws.map stpV)),(1,.int .i64 n),(2,.int .i64 free),(8,.ref 0 n 0 n false),(9,.ref 1 n 0 n false),(11,.int .i64 (rlN ws free (n+1)).last)] (ciH n (rlN ws free (n+1))) [] 0 [8,9,16] st:=by
 intro d
 induction d with
 | zero=>
   intro k;intros;rename_i hk
   have hd:decide ((k:Int)≤(n:Int))=false:=by simp;omega
   have hk':k=n+1:=by omega
   rw [hk'] at hd ⊢
   simp only [go_sem,simprocAttr,Try.f142]
   rw [exec_loop]
   simp only [go_sem,simprocAttr,hd]
   exact frP (by kernel_rfl)
 | succ d ih=>
   intro k;intros;rename_i hk
   have hd:decide ((k:Int)≤(n:Int))=true:=by simp;omega
   have hB:=RlB.rounds (free:=free) hg k
   have hkb:k * ws.length≤1000 * 1000:=Nat.mul_le_mul (by omega) (by omega)
   have hB1:RlB ⟨(rlN ws free k).g,(rlN ws free k).p,-1⟩ (k * ws.length:Nat):=hB
   obtain ⟨ex,st,hx,hp⟩:=zPC (cl:=cl) (free:=free) hn hg hl hB1 (by generalize k * ws.length=K at hkb;omega) (m:=(k:Int)) ws.length 0 _ _ _ _ _ _ _ _ _ _ _ _ _ _ _ _ _ _ _ _ _ _ _ _ _ _ _ _ _ _ _ _ _ _ _ _ _ _ _ _ _ _ _ _ _ _ _ _ _ _ _ _ _ _ _ _ _ _ _ _ _ _ _ _ _ _ _ _ _ _ _ _ _ _ _ _ _ _ _ _ _ _ _ _ _ _ _ _ _ _ _ _ _ _ _ _ _ _ _ _ _ _ _ _ _ _ _ _ _ _ _ _ _ _ _ (by omega)
   obtain ⟨rfl,jp,rfl⟩:=hp
   have e0:rlGo ws free ⟨(rlN ws free k).g,(rlN ws free k).p,-1⟩ 0=⟨(rlN ws free k).g,(rlN ws free k).p,-1⟩:=rfl
   have e1:rlGo ws free ⟨(rlN ws free k).g,(rlN ws free k).p,-1⟩ ws.length=rlN ws free (k+1):=rfl
   rw [e0,e1] at hx
   have ih':=ih (k+1)
   simp only [go_sem,simprocAttr,Try.f142,ciH,Int.ofNat_zero,Int.natCast_zero] at hx
   simp only [go_sem,simprocAttr,Try.f142,ciH] at ih' ⊢
   rw [exec_loop]
   simp only [go_sem,simprocAttr,hd]
   rw [hx]
   simp only [go_sem,simprocAttr,z00 (show k < 2 ^ 63 - 1 by omega)]
   exact ih' _ _ _ _ _ _ _ _ _ _ _ _ _ _ _ _ _ _ _ _ _ _ _ _ _ _ _ _ _ _ _ _ _ _ _ _ _ _ _ _ _ _ _ _ _ _ _ _ _ _ _ _ _ _ _ _ _ _ _ _ _ _ _ _ _ _ _ _ _ _ _ _ _ _ _ _ _ _ _ _ _ _ _ _ _ _ _ _ _ _ _ _ _ _ _ _ _ _ _ _ _ _ _ _ _ _ _ _ _ _ _ _ _ _ _ _ (by omega)
theorem zPA {ws:List Res} {n:Nat} {cl:Bool} {s:Rl} {u:Nat} (hp:∀ j,(0≤s.p (z09 ws s u j)∧(s.p (z09 ws s u j)).toNat < ws.length)∧z09 ws s u j < n) (hn':n < 1000):∀ (d k:Nat) (j2 j3 j4 j5 j6 j7 j10 j12 j13 j14 j16 j17 j18 j19 j20 j21 j22 j23 j24 j25 j26 j27 j28 j29 j30 j31 j32 j33 j34 j35 j36 j37 j38 j39 j40 j41 j42 j43 j44 j45 j46 j47 j48 j49 j50 j51 j52 j53 j54 j55 j56 j57 j58 j59 j60 j61 j62 j63 j64 j65 j66 j67 j68 j69 j70 j71 j72 j73 j74 j75 j76 j77 j78 j79 j80 j81 j82 j83 j84 j85 j86 j87 j88 j89 j90 j91 j92 j93 j94 j95 j96 j97 j98 j99 j100 j101 j102 j103 j104 j105 j106 j107 j108 j109 j110 j111 j112 j113 j114 j115 j116 j117 j118 j119 j120 j121 j122:AVal),k+d=n →
    Goes (execT env (Try.f142.at [1,1,1,1,1,1,0,1,0]) ⟨[.lit cl 4 (ws.map stpV),.int .i64 n,j2,j3,j4,j5,j6,j7,.ref 0 n 0 n false,.ref 1 n 0 n false,j10,.int .i64 (z09 ws s u k),j12,j13,j14,.int .i64 k,j16,j17,j18,j19,j20,j21,j22,j23,j24,j25,j26,j27,j28,j29,j30,j31,j32,j33,j34,j35,j36,j37,j38,j39,j40,j41,j42,j43,j44,j45,j46,j47,j48,j49,j50,j51,j52,j53,j54,j55,j56,j57,j58,j59,j60,j61,j62,j63,j64,j65,j66,j67,j68,j69,j70,j71,j72,j73,j74,j75,j76,j77,j78,j79,j80,j81,j82,j83,j84,j85,j86,j87,j88,j89,j90,j91,j92,j93,j94,j95,j96,j97,j98,j99,j100,j101,j102,j103,j104,j105,j106,j107,j108,j109,j110,j111,j112,j113,j114,j115,j116,j117,j118,j119,j120,j121,j122],ciH n s,[],0,[8,9,16]⟩) fun ex st=>
     ex=.exit 6∧FrP 123 [(0,.lit cl 4 (ws.map stpV)),(1,.int .i64 n),(8,.ref 0 n 0 n false),(9,.ref 1 n 0 n false),(11,.int .i64 (z09 ws s u n))] (ciH n s) [] 0 [8,9,16] st:=by
 intro d
 induction d with
 | zero=>
   intro k;intros;rename_i hk
   have hd:decide ((k:Int) < (n:Int))=false:=by simp;omega
   have hk':k=n:=by omega
   subst hk'
   simp only [go_sem,simprocAttr,Try.f142]
   rw [exec_loop]
   simp only [go_sem,simprocAttr,hd]
   exact frP (by kernel_rfl)
 | succ d ih=>
   intro k;intros;rename_i hk
   have hd:decide ((k:Int) < (n:Int))=true:=by simp;omega
   obtain ⟨⟨p0,p1⟩,p2⟩:=hp k
   have gp:(intsV n s.p)[z09 ws s u k]?=some (.int .i64 (s.p (z09 ws s u k))):=z0b p2
   have c0:(0:Int)≤(z09 ws s u k:Int):=by omega
   have dc:decide ((z09 ws s u k:Int) < (n:Int))=true:=by simp;omega
   have hgw:(ws.map stpV)[(s.p (z09 ws s u k)).toNat]?=some (stpV (byW ws s (z09 ws s u k))):=by
    unfold byW
    rw [List.getElem?_map,List.getD_eq_getElem?_getD,List.getElem?_eq_getElem p1];rfl
   have ih':=ih (k+1)
   rw [z6a] at ih'
   simp only [stpV,arcA] at hgw
   simp only [go_sem,simprocAttr,Try.f142,ciH] at ih' ⊢
   rw [exec_loop]
   simp only [go_sem,simprocAttr,hd,gp,c0,dc,Int.toNat_natCast,p0,hgw,z00 (show k < 2 ^ 63 - 1 by omega)]
   exact ih' _ _ _ _ _ _ _ _ _ _ _ _ _ _ _ _ _ _ _ _ _ _ _ _ _ _ _ _ _ _ _ _ _ _ _ _ _ _ _ _ _ _ _ _ _ _ _ _ _ _ _ _ _ _ _ _ _ _ _ _ _ _ _ _ _ _ _ _ _ _ _ _ _ _ _ _ _ _ _ _ _ _ _ _ _ _ _ _ _ _ _ _ _ _ _ _ _ _ _ _ _ _ _ _ _ _ _ _ _ _ _ _ _ _ _ _ _ (by omega)
theorem zJP {ws:List Res} {n:Nat} {cl:Bool} {s:Rl} {v d:Nat} (hp:∀ j,(0≤s.p (z09 ws s v j)∧(s.p (z09 ws s v j)).toNat < ws.length)∧z09 ws s v j < n) (hd0:0 < d) (hdn:d < 1000) (hb:z09 ws s v d=v) (hm:∀ j,0 < j→j < d→z09 ws s v j ≠ v):∀ (e j:Nat) (j1 j2 j3 j4 j5 j6 j7 j8 j10 j12 j13 j14 j15 j18 j19 j20 j21 j22 j23 j24 j25 j26 j27 j28 j29 j30 j31 j32 j33 j34 j35 j36 j37 j38 j39 j40 j41 j42 j43 j44 j45 j46 j47 j48 j49 j50 j51 j52 j53 j54 j55 j56 j57 j58 j59 j60 j61 j62 j63 j64 j65 j66 j67 j68 j69 j70 j71 j72 j73 j74 j75 j76 j77 j78 j79 j80 j81 j82 j83 j84 j85 j86 j87 j88 j89 j90 j91 j92 j93 j94 j95 j96 j97 j98 j99 j100 j101 j102 j103 j104 j105 j106 j107 j108 j109 j110 j111 j112 j113 j114 j115 j116 j117 j118 j119 j120 j121 j122:AVal),j+e=d →
    Goes (execT env (Try.f142.at [1,1,1,1,1,1,1,1,1,0,0]) ⟨[.lit cl 4 (ws.map stpV),j1,j2,j3,j4,j5,j6,j7,j8,.ref 1 n 0 n false,j10,.int .i64 v,j12,j13,j14,j15,.ref 2 j 0 j false,.int .i64 (z09 ws s v j),j18,j19,j20,j21,j22,j23,j24,j25,j26,j27,j28,j29,j30,j31,j32,j33,j34,j35,j36,j37,j38,j39,j40,j41,j42,j43,j44,j45,j46,j47,j48,j49,j50,j51,j52,j53,j54,j55,j56,j57,j58,j59,j60,j61,j62,j63,j64,j65,j66,j67,j68,j69,j70,j71,j72,j73,j74,j75,j76,j77,j78,j79,j80,j81,j82,j83,j84,j85,j86,j87,j88,j89,j90,j91,j92,j93,j94,j95,j96,j97,j98,j99,j100,j101,j102,j103,j104,j105,j106,j107,j108,j109,j110,j111,j112,j113,j114,j115,j116,j117,j118,j119,j120,j121,j122],ciH n s++[accJ j fun k=>s.p (z09 ws s v k)],[],0,[8,9,16]⟩) fun ex st=>
     ex=.exit 8∧FrP 123 [(16,.ref 2 d 0 d false)] (ciH n s++[accJ d fun k=>s.p (z09 ws s v k)]) [] 0 [8,9,16] st:=by
 intro e
 induction e with
 | zero=>
   intro j;intros;rename_i hj
   have hj':j=d:=by omega
   have h1:decide ((d:Int)=0)=false:=by simp;omega
   have h2:decide ((v:Int)=(v:Int))=true:=decide_eq_true rfl
   rw [hj',hb]
   simp only [go_sem,simprocAttr,Try.f142,ciH,List.cons_append,List.nil_append]
   rw [exec_loop]
   simp only [go_sem,simprocAttr,h1,h2]
   exact frP (by kernel_rfl)
 | succ e ih=>
   intro j;intros;rename_i hj
   obtain ⟨⟨p0,p1⟩,p2⟩:=hp j
   have gp:(intsV n s.p)[z09 ws s v j]?=some (.int .i64 (s.p (z09 ws s v j))):=z0b p2
   have c0:(0:Int)≤(z09 ws s v j:Int):=by omega
   have dc:decide ((z09 ws s v j:Int) < (n:Int))=true:=by simp;omega
   have hgw:(ws.map stpV)[(s.p (z09 ws s v j)).toNat]?=some (stpV (byW ws s (z09 ws s v j))):=by
    unfold byW
    rw [List.getElem?_map,List.getD_eq_getElem?_getD,List.getElem?_eq_getElem p1];rfl
   have ap:=z2f (H:=ciH n s++[accJ j fun k=>s.p (z09 ws s v k)]) (id:=2) (n:=j) (f:=fun k=>s.p (z09 ws s v k)) (g:=fun k=>s.p (z09 ws s v k)) (v:=s.p (z09 ws s v j)) rfl (z61 _ _) (by omega) 3
   have ih':=ih (j+1)
   rw [z6a] at ih'
   simp only [stpV,arcA] at hgw
   simp only [go_sem,simprocAttr,Try.f142,ciH,List.cons_append,List.nil_append] at ih' ap ⊢
   rw [exec_loop]
   cases j with
   | zero=>
     have h1:decide (((0:Nat):Int)=0)=true:=rfl
     simp only [Int.ofNat_zero,Int.natCast_zero] at h1
     simp only [go_sem,simprocAttr,h1,Int.ofNat_zero,Int.natCast_zero,gp,c0,dc,Int.toNat_natCast,p0,hgw,ap]
     exact ih' _ _ _ _ _ _ _ _ _ _ _ _ _ _ _ _ _ _ _ _ _ _ _ _ _ _ _ _ _ _ _ _ _ _ _ _ _ _ _ _ _ _ _ _ _ _ _ _ _ _ _ _ _ _ _ _ _ _ _ _ _ _ _ _ _ _ _ _ _ _ _ _ _ _ _ _ _ _ _ _ _ _ _ _ _ _ _ _ _ _ _ _ _ _ _ _ _ _ _ _ _ _ _ _ _ _ _ _ _ _ _ _ _ _ _ _ _ _ (by omega)
   | succ j=>
     have h1:decide (((j+1:Nat):Int)=0)=false:=by simp;omega
     have h2:decide ((z09 ws s v (j+1):Int)=(v:Int))=false:=by
      have:=hm (j+1) (by omega) (by omega)
      simp only [decide_eq_false_iff_not];omega
     simp only [go_sem,simprocAttr,h1,h2,gp,c0,dc,Int.toNat_natCast,p0,hgw,ap]
     exact ih' _ _ _ _ _ _ _ _ _ _ _ _ _ _ _ _ _ _ _ _ _ _ _ _ _ _ _ _ _ _ _ _ _ _ _ _ _ _ _ _ _ _ _ _ _ _ _ _ _ _ _ _ _ _ _ _ _ _ _ _ _ _ _ _ _ _ _ _ _ _ _ _ _ _ _ _ _ _ _ _ _ _ _ _ _ _ _ _ _ _ _ _ _ _ _ _ _ _ _ _ _ _ _ _ _ _ _ _ _ _ _ _ _ _ _ _ _ _ (by omega)
theorem zJS {ws:List Res} {n:Nat} {free:Int} {cl:Bool} (hn:∀ w ∈ ws,w.start < n∧w.to < n) (hse:∀ w ∈ ws,w.start ≠ w.to) (hg:∀ w ∈ ws,-1≤w.gain∧w.gain≤1) (hl:ws.length < 1000) (hn':n < 1000) (hn0:0 < n):
    ((∃ P:Nat→Int,∀ w ∈ ws,free≤w.room→P w.start+w.gain≤P w.to)∧∀ ro H nx,callT env 142 [.lit cl 4 (ws.map stpV),.int .i64 n,.int .i64 free] ro H nx=some (.ret (.tuple [.lit true 0 [],.bool false]),.ups [])) ∨
      ∃ (l:List Res) (js:List Nat) (v:Nat),(RChain v l v∧(l.map (·.start)).Nodup∧(∀ w ∈ l,w ∈ ws∧free≤w.room)∧0 < gsum l∧0 < l.length∧l.length≤n)∧(l=js.map fun j=>ws.getD j default)∧(∀ j ∈ js,j < ws.length) ∧
       ∀ ro H nx,callT env 142 [.lit cl 4 (ws.map stpV),.int .i64 n,.int .i64 free] ro H nx=some (.ret (.tuple [.lit false 1 (js.map fun j=>.int .i64 (j:Nat)),.bool true]),.ups []):=by
 have hu:underL 0 [.lit cl 4 (ws.map stpV),.int .i64 n,.int .i64 free]=true:=by
  have:underL 0 (ws.map stpV)=true:=z4l (fun _ _=>rfl) _ 0
  simp [underL,AVal.under,this]
 obtain ⟨ex,st,hx,hp⟩:=zPB (v0:=.lit cl 4 (ws.map stpV)) (v2:=.int .i64 free) hn' n 0 _ _ _ _ _ _ _ _ _ _ _ _ _ _ _ _ _ _ _ _ _ _ _ _ _ _ _ _ _ _ _ _ _ _ _ _ _ _ _ _ _ _ _ _ _ _ _ _ _ _ _ _ _ _ _ _ _ _ _ _ _ _ _ _ _ _ _ _ _ _ _ _ _ _ _ _ _ _ _ _ _ _ _ _ _ _ _ _ _ _ _ _ _ _ _ _ _ _ _ _ _ _ _ _ _ _ _ _ _ _ _ _ _ _ _ _ _ (by omega)
 obtain ⟨rfl,jp,rfl⟩:=hp
 obtain ⟨ex2,st2,hx2,hp2⟩:=zJQ (cl:=cl) (free:=free) hn hg hl hn' (n+1) 0 _ _ _ _ _ _ _ _ _ _ _ _ _ _ _ _ _ _ _ _ _ _ _ _ _ _ _ _ _ _ _ _ _ _ _ _ _ _ _ _ _ _ _ _ _ _ _ _ _ _ _ _ _ _ _ _ _ _ _ _ _ _ _ _ _ _ _ _ _ _ _ _ _ _ _ _ _ _ _ _ _ _ _ _ _ _ _ _ _ _ _ _ _ _ _ _ _ _ _ _ _ _ _ _ _ _ _ _ _ _ _ _ _ _ _ _ (by omega)
 obtain ⟨rfl,jq,rfl⟩:=hp2
 have a0:accJ 0 cz=.cells 0 0 false []:=rfl
 have a1:accJ 0 cm1=.cells 0 0 false []:=rfl
 have a2:accJ n cz=.cells n 1 true (intsV n cz):=z7z _ hn0
 have a3:accJ n cm1=.cells n 1 true (intsV n cm1):=z7z _ hn0
 have b0:rlN ws free 0=⟨cz,cm1,-1⟩:=rfl
 rw [a0,a1,a2,a3] at hx
 rw [b0] at hx2
 by_cases hlast:(rlN ws free (n+1)).last < 0
 · refine .inl ⟨zIK hlast,fun ro H nx=>?_⟩
   have dl:decide ((rlN ws free (n+1)).last < 0)=true:=decide_eq_true hlast
   have:∃ H',runT env 142 [.lit cl 4 (ws.map stpV),.int .i64 n,.int .i64 free] [] 0=some (.ret (.tuple [.lit true 0 [],.bool false]),H'):=by
    simp only [go_sem,simprocAttr,Try.f142,ciH,Int.ofNat_zero,Int.natCast_zero] at hx hx2
    rw [run_unfold fn142 rfl]
    simp only [go_sem,simprocAttr,Try.f142]
    rw [hx]
    simp only [go_sem,simprocAttr]
    rw [hx2]
    simp only [go_sem,simprocAttr,dl,unwind,modeEx,resultsOf,one]
    exact ⟨_,rfl⟩
   obtain ⟨H',h⟩:=this
   exact call_pure rfl rfl rfl hu h rfl ro H nx
 · obtain ⟨w,hw,hwl,_⟩:=zBl hlast
   obtain ⟨hchain,d,hdn,hE⟩:=zIL hn hse (free:=free) (n:=n) (u:=w.to) hwl
   obtain ⟨s,hs⟩:∃ s,s=rlN ws free (n+1):=⟨_,rfl⟩
   obtain ⟨v,hv⟩:∃ v,v=z09 ws s w.to n:=⟨_,rfl⟩
   rw [← hs] at hchain hwl hlast hx2 hE
   rw [← hv] at hE
   have hch2:∀ j,(0≤s.p (z09 ws s v j)∧(s.p (z09 ws s v j)).toNat < ws.length)∧z09 ws s v j < n:=fun j=>by
    rw [hv,← z1i];exact hchain _
   have hd1:=hE.d1
   have hbk:z09 ws s v d=v:=by rw [hs];exact hE.back
   have hmt:∀ j,0 < j→j < d→z09 ws s v j ≠ v:=by rw [hs];exact hE.met
   have hcl:(cycS ws s v d).length=d:=by
    have:=congrArg List.length (z86 ws s d v)
    simpa using this
   have hcj:cycS ws s v d=((List.range d).map fun j=>(s.p (z09 ws s v j)).toNat).map fun j=>ws.getD j default:=by
    have gen:∀ (d v:Nat),cycS ws s v d=((List.range d).map fun j=>(s.p (z09 ws s v j)).toNat).map fun j=>ws.getD j default:=by
     intro d
     induction d with
     | zero=>intro v;rfl
     | succ d ih=>
       intro v
       rw [List.range_succ_eq_map,List.map_cons,List.map_map,List.map_cons]
       show byW ws s v :: cycS ws s (byW ws s v).start d=_
       rw [ih];rfl
    exact gen d v
   refine .inr ⟨cycS ws s v d,(List.range d).map fun j=>(s.p (z09 ws s v j)).toNat,v,⟨?_,?_,?_,?_,by rw [hcl];exact hd1,by rw [hcl];exact hdn⟩,hcj,fun j hj=>?_,fun ro H nx=>?_⟩
   · rw [hs];exact hE.chain
   · rw [hs];exact hE.nodup
   · rw [hs];exact hE.free_
   · rw [hs];exact hE.gain
   · obtain ⟨k,_,rfl⟩:=List.mem_map.1 hj
     exact (hch2 k).1.2
   · obtain ⟨ex3,st3,hx3,hp3⟩:=zPA (cl:=cl) hchain hn' n 0 _ _ _ _ _ _ _ _ _ _ _ _ _ _ _ _ _ _ _ _ _ _ _ _ _ _ _ _ _ _ _ _ _ _ _ _ _ _ _ _ _ _ _ _ _ _ _ _ _ _ _ _ _ _ _ _ _ _ _ _ _ _ _ _ _ _ _ _ _ _ _ _ _ _ _ _ _ _ _ _ _ _ _ _ _ _ _ _ _ _ _ _ _ _ _ _ _ _ _ _ _ _ _ _ _ _ _ _ _ _ _ _ _ _ _ _ _ (by omega)
     obtain ⟨rfl,jr,rfl⟩:=hp3
     rw [← hv] at hx3
     obtain ⟨ex4,st4,hx4,hp4⟩:=zJP (cl:=cl) hch2 hd1 (by omega) hbk hmt d 0 _ _ _ _ _ _ _ _ _ _ _ _ _ _ _ _ _ _ _ _ _ _ _ _ _ _ _ _ _ _ _ _ _ _ _ _ _ _ _ _ _ _ _ _ _ _ _ _ _ _ _ _ _ _ _ _ _ _ _ _ _ _ _ _ _ _ _ _ _ _ _ _ _ _ _ _ _ _ _ _ _ _ _ _ _ _ _ _ _ _ _ _ _ _ _ _ _ _ _ _ _ _ _ _ _ _ _ _ _ _ _ _ _ _ _ _ _ _ (by omega)
     obtain ⟨rfl,jt,rfl⟩:=hp4
     have dl:decide (s.last < 0)=false:=decide_eq_false hlast
     rw [hwl] at dl
     have c0:z09 ws s w.to 0=w.to:=rfl
     have c1:z09 ws s v 0=v:=rfl
     have a4:accJ 0 (fun k=>s.p (z09 ws s v k))=.cells 0 0 false []:=rfl
     have a5:accJ d (fun k=>s.p (z09 ws s v k))=.cells d 1 true (intsV d fun k=>s.p (z09 ws s v k)):=z7z _ hd1
     rw [c0] at hx3
     rw [c1,a4,a5] at hx4
     have hrun:∃ X,runT env 142 [.lit cl 4 (ws.map stpV),.int .i64 n,.int .i64 free] [] 0=some (.ret (.tuple [.ref 2 d 0 d false,.bool true]),X)∧X[2]?=some (.cells d 1 true (intsV d fun k=>s.p (z09 ws s v k))):=by
      simp only [go_sem,simprocAttr,Try.f142,ciH,Int.ofNat_zero,Int.natCast_zero,List.cons_append,List.nil_append] at hx hx2 hx3 hx4
      rw [run_unfold fn142 rfl]
      simp only [go_sem,simprocAttr,Try.f142]
      rw [hx]
      simp only [go_sem,simprocAttr]
      rw [hx2]
      simp only [go_sem,simprocAttr,dl,hwl]
      rw [hx3]
      simp only [go_sem,simprocAttr]
      rw [hx4]
      simp only [go_sem,simprocAttr,unwind,modeEx,resultsOf,one]
      exact ⟨_,rfl,rfl⟩
     obtain ⟨X,hr,hX⟩:=hrun
     have ev:(intsV d fun k=>s.p (z09 ws s v k))=((List.range d).map fun j=>(s.p (z09 ws s v j)).toNat).map fun j=>.int .i64 ((j:Nat):Int):=by
      unfold intsV vecA
      rw [List.map_map]
      refine List.map_congr_left fun j _=>?_
      have:=(hch2 j).1.1
      show AVal.int .i64 (s.p (z09 ws s v j))=AVal.int .i64 (((s.p (z09 ws s v j)).toNat:Nat):Int)
      rw [Int.toNat_of_nonneg this]
     have htk:(intsV d fun k=>s.p (z09 ws s v k)).take d=intsV d fun k=>s.p (z09 ws s v k):=z62 _ _
     have hnr:noRef (.tuple [.lit false 1 (intsV d fun k=>s.p (z09 ws s v k)),.bool true])=true:=by
      simp [noRef,AVal.under,underL,zG3]
     rw [← ev]
     exact z0o rfl rfl rfl hu hr (by simp [handBack,mapO,toLit,noRef,AVal.under,hX,htk,z0F]) hnr ro H nx
set_option maxRecDepth 10000
set_option maxHeartbeats 4000000
theorem zE3 (d:Int) (w:Res):∀ (l:List Res) (f:Nat→Int),push f d (l++[w])=updF (push f d l) w.arc (if w.back then push f d l w.arc - d else push f d l w.arc+d)
 | [],_=>rfl
 | a :: l,f=>by
   show push (updF f a.arc _) d (l++[w])=_
   rw [zE3 d w l];rfl
theorem zKg {d:Int} (hd:0≤d):∀ (l:List Res) (f:Nat→Int) (j:Nat),f j - l.length * d≤push f d l j∧push f d l j≤f j+l.length * d
 | [],f,j=>by simp [push]
 | w :: l,f,j=>by
   have ih:=zKg hd l (updF f w.arc (if w.back then f w.arc - d else f w.arc+d)) j
   have e:push f d (w :: l) j=push (updF f w.arc (if w.back then f w.arc - d else f w.arc+d)) d l j:=rfl
   have h1:f j - d≤updF f w.arc (if w.back then f w.arc - d else f w.arc+d) j∧updF f w.arc (if w.back then f w.arc - d else f w.arc+d) j≤f j+d:=by
    unfold updF
    by_cases e:j=w.arc
    · rw [if_pos e,e]
      split <;> omega
    · rw [if_neg e];omega
   have hl:(((w :: l).length:Nat):Int) * d=(l.length:Int) * d+d:=by
    rw [List.length_cons,Int.natCast_add,Int.add_mul];simp
   rw [e,hl]
   generalize (l.length:Int) * d=z at ih ⊢
   omega
theorem zL2 {t:Tab} {f g:Nat→Int} {w:Res} (h:w ∈ z5E t f g):
    (∃ i k,i < t.R∧k < t.C∧w.start=i∧w.to=t.R+k∧w.arc=i * t.C+k∧w.back=false) ∨ (∃ i k,i < t.R∧k < t.C∧w.start=t.R+k∧w.to=i∧w.arc=i * t.C+k∧w.back=true) ∨
      (t.R * t.C≤w.arc∧(w.start < t.R→t.R≤w.to→¬ w.to < t.R+t.C)∧(w.to < t.R→t.R≤w.start→¬ w.start < t.R+t.C)):=by
 obtain ⟨x,hx,rfl⟩:=List.mem_map.1 h
 obtain ⟨j,hj,h⟩:=z68.1 hx
 have hj:j < t.R * t.C+t.R+t.C:=hj
 have z0:rnN (t.R+t.C) 0=t.R+t.C:=rfl
 have zr:∀ i,rnN (t.R+t.C) (1+i)=i:=fun i=>by unfold rnN;rw [if_neg (by omega)];omega
 have zc:∀ k,rnN (t.R+t.C) (1+t.R+k)=t.R+k:=fun k=>by unfold rnN;rw [if_neg (by omega)];omega
 by_cases h1:j < t.R * t.C
 · obtain ⟨e1,e2,_⟩:=t.net_cell (z6O h1) (z4x h1)
   have e0:j / t.C * t.C+j % t.C=j:=by rw [Nat.mul_comm,Nat.div_add_mod]
   rw [e0] at e1 e2
   rcases h with rfl | rfl
   · exact .inl ⟨j / t.C,j % t.C,z6O h1,z4x h1,by show rnN _ (t.net.fr j)=_;rw [e1,zr],by show rnN _ (t.net.to j)=_;rw [e2,zc],e0.symm,rfl⟩
   · exact .inr (.inl ⟨j / t.C,j % t.C,z6O h1,z4x h1,by show rnN _ (t.net.to j)=_;rw [e2,zc],by show rnN _ (t.net.fr j)=_;rw [e1,zr],e0.symm,rfl⟩)
 · refine .inr (.inr ?_)
   by_cases h2:j < t.R * t.C+t.R
   · obtain ⟨e1,e2,_⟩:=t.net_row (i:=j - t.R * t.C) (by omega)
     rw [show t.R * t.C+(j - t.R * t.C)=j by omega] at e1 e2
     rcases h with rfl | rfl
     · refine ⟨by show t.R * t.C≤j;omega,?_,?_⟩
       · show rnN _ (t.net.fr j) < _→_
         rw [e1,z0];omega
       · show _→t.R≤rnN _ (t.net.fr j)→¬ rnN _ (t.net.fr j) < _
         rw [e1,z0];omega
     · refine ⟨by show t.R * t.C≤j;omega,?_,?_⟩
       · show _→t.R≤rnN _ (t.net.fr j)→¬ rnN _ (t.net.fr j) < _
         rw [e1,z0];omega
       · show rnN _ (t.net.fr j) < _→_
         rw [e1,z0];omega
   · obtain ⟨e1,e2,_⟩:=t.net_col (k:=j - t.R * t.C - t.R)
     rw [show t.R * t.C+t.R+(j - t.R * t.C - t.R)=j by omega] at e1 e2
     rcases h with rfl | rfl
     · refine ⟨by show t.R * t.C≤j;omega,?_,?_⟩
       · show rnN _ (t.net.fr j) < _→_
         rw [e1,zc];omega
       · show rnN _ (t.net.to j) < _→_
         rw [e2,z0];omega
     · refine ⟨by show t.R * t.C≤j;omega,?_,?_⟩
       · show rnN _ (t.net.to j) < _→_
         rw [e2,z0];omega
       · show rnN _ (t.net.fr j) < _→_
         rw [e1,zc];intro h;omega
theorem zKP {t:Tab} {f:Nat→Int} {i k:Nat} (hk:k < t.C) (v:Int) {i' k':Nat} (hk':k' < t.C):t.mat (updF f (i * t.C+k) v) i' k'=if i'=i∧k'=k then v else t.mat f i' k':=by
 unfold Tab.mat updF
 by_cases h:i'=i∧k'=k
 · rw [if_pos h,if_pos (by rw [h.1,h.2])]
 · rw [if_neg h,if_neg (fun e=>h ?_)]
   have e1:=congrArg (· / t.C) e
   have e2:=congrArg (· % t.C) e
   simp only [z5t hk,z5t hk',z91 hk,z91 hk'] at e1 e2
   exact ⟨e1,e2⟩
theorem zPr {t:Tab} {f:Nat→Int} {a:Nat} (ha:t.R * t.C≤a) (v:Int) {i' k':Nat} (hi':i' < t.R) (hk':k' < t.C):t.mat (updF f a v) i' k'=t.mat f i' k':=by
 unfold Tab.mat updF
 have:=z3P hi' hk'
 rw [if_neg (by omega)]
def lstW (l:List Res) (b:Int):Int:=l.foldl (fun b w=>min b w.room) b
theorem zKJ (l:List Res) (w:Res) (b:Int):lstW (l++[w]) b=min (lstW l b) w.room:=by unfold lstW;rw [List.foldl_append];rfl
theorem zKI:∀ (l:List Res) (b:Int),lstW l b≤b∧(∀ w ∈ l,lstW l b≤w.room)∧(1≤b→(∀ w ∈ l,1≤w.room)→1≤lstW l b)
 | [],b=>⟨Int.le_refl _,(fun w h=>by cases h),fun h _=>h⟩
 | w :: l,b=>by
   obtain ⟨h1,h2,h3⟩:=zKI l (min b w.room)
   have e:lstW (w :: l) b=lstW l (min b w.room):=rfl
   rw [e]
   refine ⟨by omega,fun x hx=>?_,fun hb hw=>h3 ?_ fun x hx=>hw x (by simp [hx])⟩
   · rcases List.mem_cons.1 hx with rfl | hx
     · omega
     · exact h2 x hx
   · have:=hw w (by simp)
     omega
structure GrAt (T:TabV) (c:CutA) (H:Heap) (P C':Nat) (x:Nat→Nat→Int):Prop where
 own:H[0]?=some (.cells 0 3 false [T.v])
 cut:H[1]?=some (.cells 0 2 false [c.v])
 mat:MatAt H P T.tab.R C' x
 len:P+1+T.tab.R≤H.length
 big:1 < P
theorem GrAt.upd {T:TabV} {c:CutA} {H:Heap} {P C':Nat} {x:Nat→Nat→Int} (h:GrAt T c H P C' x) {i k:Nat} {v:Int} {x':Nat→Nat→Int} (hi:i < T.tab.R) (hx:∀ i' k',i' < T.tab.R→k' < C'+1→x' i' k'=if i'=i∧k'=k then v else x i' k'):
    GrAt T c (H.set (P+1+i) (.cells C' 1 true ((intsV (C'+1) (x i)).set k (.int .i64 v)))) P C' x':=by
 have hl:=h.len
 have hb:=h.big
 refine ⟨by rw [List.getElem?_set_ne (by omega)];exact h.own,by rw [List.getElem?_set_ne (by omega)];exact h.cut,⟨by rw [List.getElem?_set_ne (by omega)];exact h.mat.acc,fun j hj=>?_⟩,by rw [List.length_set];exact hl,hb⟩
 by_cases e:j=i
 · subst e
   rw [List.getElem?_set_self (by omega)]
   congr 2
   exact z2D fun m hm=>by
    rw [hx j m hj hm]
    by_cases e2:m=k
    · rw [if_pos ⟨rfl,e2⟩,if_pos e2]
    · rw [if_neg (fun h=>e2 h.2),if_neg e2]
 · rw [List.getElem?_set_ne (by omega),h.mat.row j hj]
   congr 2
   exact z0k fun m hm=>by rw [hx j m hj hm,if_neg (fun h=>e h.1)]
theorem GrAt.more {T:TabV} {c:CutA} {H:Heap} {P C':Nat} {x:Nat→Nat→Int} (h:GrAt T c H P C' x) (Z:Heap):GrAt T c (H++Z) P C' x:=by
 have hl:=h.len
 have hb:=h.big
 have e:∀ j,j < P+1+T.tab.R→(H++Z)[j]?=H[j]?:=fun j hj=>List.getElem?_append_left (by omega)
 exact ⟨by rw [e 0 (by omega)];exact h.own,by rw [e 1 (by omega)];exact h.cut,⟨by rw [e P (by omega)];exact h.mat.acc,fun j hj=>by rw [e _ (by omega)];exact h.mat.row j hj⟩,by rw [List.length_append];omega,hb⟩
theorem GrAt.same {T:TabV} {c:CutA} {H:Heap} {P C':Nat} {x x':Nat→Nat→Int} (h:GrAt T c H P C' x) (hx:∀ i k,i < T.tab.R→k < C'+1→x' i k=x i k):GrAt T c H P C' x':=
 ⟨h.own,h.cut,⟨h.mat.acc,fun j hj=>by rw [h.mat.row j hj,z0k fun m hm=>(hx j m hj hm).symm]⟩,h.len,h.big⟩
set_option maxRecDepth 10000
set_option maxHeartbeats 4000000
theorem zEd {α:Type} {l:List α} {i:Nat} {a:α} (h:l[i]?=some a):l.take (i+1)=l.take i++[a]:=by
 rw [List.take_add_one,h];rfl
structure Round (ws:List Res) (js:List Nat) (l:List Res):Prop where
 eq:l=js.map fun j=>ws.getD j default
 lt:∀ j ∈ js,j < ws.length
 short:l.length < 1000
theorem Round.at {ws:List Res} {js:List Nat} {l:List Res} (h:Round ws js l) {i:Nat} (hi:i < l.length):∃ (j:Nat) (w:Res),(js.map fun j=>AVal.int .i64 ((j:Nat):Int))[i]?=some (.int .i64 (j:Int))∧(ws.map stpV)[j]?=some (stpV w)∧l[i]?=some w:=by
 have hl:l.length=js.length:=by rw [h.eq,List.length_map]
 have hij:i < js.length:=by omega
 obtain ⟨j,hj⟩:∃ j,js[i]?=some j:=⟨_,List.getElem?_eq_getElem hij⟩
 have hjl:=h.lt j (List.mem_of_getElem? hj)
 refine ⟨j,ws.getD j default,by rw [List.getElem?_map,hj];rfl,?_,by rw [h.eq,List.getElem?_map,hj];rfl⟩
 rw [List.getElem?_map,List.getD_eq_getElem?_getD,List.getElem?_eq_getElem hjl];rfl
theorem zSR {ws:List Res} {js:List Nat} {l:List Res} (hR:Round ws js l) {v2 v3 v5 v6 v7:AVal} {H:Heap}:∀ (n i:Nat) (j0 j1 j4 j10 j13 j14 j15 j16 j17 j18 j19 j20 j21 j22 j23 j24 j25 j26 j27 j28 j29 j30 j31 j32 j33 j34 j35 j36 j37 j38 j39 j40 j41 j42 j43 j44 j45 j46 j47 j48 j49 j50 j51 j52 j53 j54 j55 j56 j57 j58 j59 j60 j61 j62 j63 j64 j65 j66 j67 j68 j69 j70 j71 j72 j73 j74 j75 j76 j77 j78 j79 j80 j81 j82 j83 j84 j85 j86 j87 j88 j89 j90 j91 j92 j93 j94 j95 j96 j97 j98 j99 j100 j101 j102 j103 j104 j105 j106 j107 j108 j109 j110 j111 j112 j113 j114 j115 j116 j117 j118 j119 j120 j121 j122 j123 j124 j125 j126 j127 j128 j129 j130 j131 j132 j133 j134 j135 j136 j137 j138 j139 j140 j141 j142 j143 j144 j145 j146 j147 j148 j149 j150 j151 j152 j153 j154 j155 j156 j157 j158 j159 j160 j161 j162 j163 j164 j165 j166 j167 j168:AVal),i+n=l.length →
    Goes (execT env (Try.f128.at [1,1,1,1,0,0,0,1,0,1,1,1,1,0,1,0]) ⟨[j0,j1,v2,v3,j4,v5,v6,v7,.lit false 4 (ws.map stpV),.lit false 1 (js.map fun j=>.int .i64 ((j:Nat):Int)),j10,.int .i64 (lstW (l.take i) (2 ^ 31)),.int .i64 i,j13,j14,j15,j16,j17,j18,j19,j20,j21,j22,j23,j24,j25,j26,j27,j28,j29,j30,j31,j32,j33,j34,j35,j36,j37,j38,j39,j40,j41,j42,j43,j44,j45,j46,j47,j48,j49,j50,j51,j52,j53,j54,j55,j56,j57,j58,j59,j60,j61,j62,j63,j64,j65,j66,j67,j68,j69,j70,j71,j72,j73,j74,j75,j76,j77,j78,j79,j80,j81,j82,j83,j84,j85,j86,j87,j88,j89,j90,j91,j92,j93,j94,j95,j96,j97,j98,j99,j100,j101,j102,j103,j104,j105,j106,j107,j108,j109,j110,j111,j112,j113,j114,j115,j116,j117,j118,j119,j120,j121,j122,j123,j124,j125,j126,j127,j128,j129,j130,j131,j132,j133,j134,j135,j136,j137,j138,j139,j140,j141,j142,j143,j144,j145,j146,j147,j148,j149,j150,j151,j152,j153,j154,j155,j156,j157,j158,j159,j160,j161,j162,j163,j164,j165,j166,j167,j168],H,[],0,[]⟩) fun ex st=>
     ex=.exit 2∧FrP 169 [(2,v2),(3,v3),(5,v5),(6,v6),(7,v7),(8,.lit false 4 (ws.map stpV)),(9,.lit false 1 (js.map fun j=>.int .i64 ((j:Nat):Int))),(11,.int .i64 (lstW l (2 ^ 31)))] H [] 0 [] st:=by
 have hl:(js.map fun j=>AVal.int .i64 ((j:Nat):Int)).length=l.length:=by rw [hR.eq,List.length_map,List.length_map]
 have hs:=hR.short
 intro n
 induction n with
 | zero=>
   intro i;intros;rename_i hi
   have hd:decide ((i:Int) < (l.length:Int))=false:=by simp;omega
   have hi':i=l.length:=by omega
   have et:l.take i=l:=by rw [hi'];exact List.take_of_length_le (Nat.le_refl _)
   rw [et]
   simp only [go_sem,simprocAttr,Try.f128]
   rw [exec_loop]
   simp only [go_sem,simprocAttr,hl,hd]
   exact frP (by kernel_rfl)
 | succ n ih=>
   intro i;intros;rename_i hi
   have hil:i < l.length:=by omega
   have hd:decide ((i:Int) < (l.length:Int))=true:=by simp;omega
   have i0:(0:Int)≤(i:Int):=by omega
   obtain ⟨j,w,g1,g2,g3⟩:=hR.at hil
   have j0:(0:Int)≤(j:Int):=by omega
   have et:=zEd g3
   have ih':=ih (i+1)
   rw [et,zKJ] at ih'
   simp only [stpV,arcA] at g2
   simp only [go_sem,simprocAttr,Try.f128] at ih' ⊢
   rw [exec_loop]
   simp only [go_sem,simprocAttr,hl,hd,i0,j0,Int.toNat_natCast,g1,g2,z6A,z00 (show i < 2 ^ 63 - 1 by omega)]
   exact ih' _ _ _ _ _ _ _ _ _ _ _ _ _ _ _ _ _ _ _ _ _ _ _ _ _ _ _ _ _ _ _ _ _ _ _ _ _ _ _ _ _ _ _ _ _ _ _ _ _ _ _ _ _ _ _ _ _ _ _ _ _ _ _ _ _ _ _ _ _ _ _ _ _ _ _ _ _ _ _ _ _ _ _ _ _ _ _ _ _ _ _ _ _ _ _ _ _ _ _ _ _ _ _ _ _ _ _ _ _ _ _ _ _ _ _ _ _ _ _ _ _ _ _ _ _ _ _ _ _ _ _ _ _ _ _ _ _ _ _ _ _ _ _ _ _ _ _ _ _ _ _ _ _ _ _ _ _ _ _ _ (by omega)
theorem z2z {N:Nat} {v:AVal} (h:v.under N=true):scrub N v=v:=if_pos h
set_option maxRecDepth 10000
set_option maxHeartbeats 4000000
theorem zAd {N:Nat} {H:Heap} {b:Blk} {V:List Nat} (hN:H.length=N):(∀ Tm,trunc N ⟨Tm,H++[b],[],0,V⟩=⟨Tm,H++[b],[],0,V⟩) ∨ ∀ Tm,trunc N ⟨Tm,H++[b],[],0,V⟩=⟨Tm.map (scrub N),H,[],0,V⟩:=by
 have h1:¬ ((H++[b]).length≤N):=by rw [List.length_append,hN,List.length_singleton];omega
 unfold trunc
 simp only [h1,if_false]
 by_cases h:((H++[b]).take N).all (underB N)=true
 · right
   intro Tm
   simp only [h,Bool.true_and,List.all_nil,if_true]
   congr 1
   exact List.take_left' hN
 · left
   intro Tm
   simp [h]
def z8i:List Foot:=[⟨0,[],[]⟩,⟨1,[],[]⟩,⟨2,[0],[]⟩,⟨3,[0],[]⟩,⟨4,[0],[]⟩,⟨5,[],[]⟩,⟨6,[0],[]⟩,⟨7,[],[]⟩,⟨8,[],[]⟩,⟨9,[1],[]⟩,⟨10,[1],[]⟩,⟨11,[],[]⟩,⟨12,[],[]⟩,⟨13,[1],[]⟩,⟨14,[1],[1]⟩]
def fG (r y:Nat):Nat:=if y=r then 1 else 0
theorem fG_r (r:Nat):fG r r=1:=if_pos rfl
theorem fG_o {r y:Nat} (h:y ≠ r):fG r y=0:=if_neg h
theorem zPZ {T:TabV} (hO:T.tab.Mild) {c:CutA} {ws:List Res} {js:List Nat} {l:List Res} (hR:Round ws js l) {g:Nat→Int} {x:Nat→Nat→Int} (hws:∀ w ∈ l,w ∈ z5E T.tab (T.tab.flow x) g) (hbx:∀ i k,i < T.tab.R→k < T.tab.C→-(2 ^ 34)≤x i k∧x i k≤2 ^ 34) {d:Int} (hd0:0≤d) (hd1:d≤2 ^ 31) {P C':Nat} (hC':T.tab.C=C'+1) {v7:AVal}:∀ (n i:Nat) (H:Heap) (j0 j1 j4 j10 j12 j14 j15 j16 j17 j18 j19 j20 j21 j22 j23 j24 j25 j26 j27 j28 j29 j30 j31 j32 j33 j34 j35 j36 j37 j38 j39 j40 j41 j42 j43 j44 j45 j46 j47 j48 j49 j50 j51 j52 j53 j54 j55 j56 j57 j58 j59 j60 j61 j62 j63 j64 j65 j66 j67 j68 j69 j70 j71 j72 j73 j74 j75 j76 j77 j78 j79 j80 j81 j82 j83 j84 j85 j86 j87 j88 j89 j90 j91 j92 j93 j94 j95 j96 j97 j98 j99 j100 j101 j102 j103 j104 j105 j106 j107 j108 j109 j110 j111 j112 j113 j114 j115 j116 j117 j118 j119 j120 j121 j122 j123 j124 j125 j126 j127 j128 j129 j130 j131 j132 j133 j134 j135 j136 j137 j138 j139 j140 j141 j142 j143 j144 j145 j146 j147 j148 j149 j150 j151 j152 j153 j154 j155 j156 j157 j158 j159 j160 j161 j162 j163 j164 j165 j166 j167 j168:AVal),i+n=l.length→(∀ N,v7.under N=true)→GrAt T c H P C' (T.tab.mat (push (T.tab.flow x) d (l.take i))) →
    Goes (execT env (Try.f128.at [1,1,1,1,0,0,0,1,0,1,1,1,1,1,1,0]) ⟨[j0,j1,.ptr 0 0 0 0,.ptr 1 0 0 0,j4,.ref P T.tab.R 0 T.tab.R false,.int .i64 T.tab.R,v7,.lit false 4 (ws.map stpV),.lit false 1 (js.map fun j=>.int .i64 ((j:Nat):Int)),j10,.int .i64 d,j12,.int .i64 i,j14,j15,j16,j17,j18,j19,j20,j21,j22,j23,j24,j25,j26,j27,j28,j29,j30,j31,j32,j33,j34,j35,j36,j37,j38,j39,j40,j41,j42,j43,j44,j45,j46,j47,j48,j49,j50,j51,j52,j53,j54,j55,j56,j57,j58,j59,j60,j61,j62,j63,j64,j65,j66,j67,j68,j69,j70,j71,j72,j73,j74,j75,j76,j77,j78,j79,j80,j81,j82,j83,j84,j85,j86,j87,j88,j89,j90,j91,j92,j93,j94,j95,j96,j97,j98,j99,j100,j101,j102,j103,j104,j105,j106,j107,j108,j109,j110,j111,j112,j113,j114,j115,j116,j117,j118,j119,j120,j121,j122,j123,j124,j125,j126,j127,j128,j129,j130,j131,j132,j133,j134,j135,j136,j137,j138,j139,j140,j141,j142,j143,j144,j145,j146,j147,j148,j149,j150,j151,j152,j153,j154,j155,j156,j157,j158,j159,j160,j161,j162,j163,j164,j165,j166,j167,j168],H,[],0,[]⟩) fun ex st=>
     ex=.exit 4∧∃ H,GrAt T c H P C' (T.tab.mat (push (T.tab.flow x) d l))∧FrP 169 [(2,.ptr 0 0 0 0),(3,.ptr 1 0 0 0),(5,.ref P T.tab.R 0 T.tab.R false),(6,.int .i64 T.tab.R),(7,v7)] H [] 0 [] st:=by
 have hR8:=hO.R8
 have hC8:=hO.C8
 have hl:(js.map fun j=>AVal.int .i64 ((j:Nat):Int)).length=l.length:=by rw [hR.eq,List.length_map,List.length_map]
 have hs:=hR.short
 have lc:(T.cols.l.map spV).length=T.tab.C:=by rw [List.length_map];rfl
 intro n
 induction n with
 | zero=>
   intro i H;intros;rename_i hi hv7 hA
   have hd:decide ((i:Int) < (l.length:Int))=false:=by simp;omega
   have hi':i=l.length:=by omega
   have et:l.take i=l:=by rw [hi'];exact List.take_of_length_le (Nat.le_refl _)
   rw [et] at hA
   simp only [go_sem,simprocAttr,Try.f128]
   rw [exec_loop]
   simp only [go_sem,simprocAttr,hl,hd]
   exact ⟨H,hA,frP (by kernel_rfl)⟩
 | succ n ih=>
   intro i H;intros;rename_i hi hv7 hA
   have hil:i < l.length:=by omega
   have hd:decide ((i:Int) < (l.length:Int))=true:=by simp;omega
   have i0:(0:Int)≤(i:Int):=by omega
   obtain ⟨j,w,g1,g2,g3⟩:=hR.at hil
   have j0:(0:Int)≤(j:Int):=by omega
   have et:=zEd g3
   have hwm:=List.mem_of_getElem? g3
   have hkind:=zL2 (hws w hwm)
   have htl:(l.take i).length=i:=List.length_take_of_le (by omega)
   have hb:=fun a=>zKg hd0 (l.take i) (T.tab.flow x) a
   rw [htl] at hb
   have hmul:(i:Int) * d≤1000 * 2 ^ 31:=Int.mul_le_mul (by omega) hd1 hd0 (by omega)
   generalize hz:(i:Int) * d=z at hb hmul
   have hz0:0≤z:=by rw [← hz];exact Int.mul_nonneg (by omega) hd0
   have hcur:∀ a b,a < T.tab.R→b < T.tab.C→-(2 ^ 43)≤T.tab.mat (push (T.tab.flow x) d (l.take i)) a b∧T.tab.mat (push (T.tab.flow x) d (l.take i)) a b≤2 ^ 43:=fun a b ha hb'=>by
    have h1:=hb (a * T.tab.C+b)
    rw [T.tab.flow_cell x ha hb'] at h1
    have h2:=hbx a b ha hb'
    show _≤push (T.tab.flow x) d (l.take i) (a * T.tab.C+b)∧push (T.tab.flow x) d (l.take i) (a * T.tab.C+b)≤_
    omega
   have eN:push (T.tab.flow x) d (l.take (i+1))=updF (push (T.tab.flow x) d (l.take i)) w.arc (if w.back then push (T.tab.flow x) d (l.take i) w.arc - d else push (T.tab.flow x) d (l.take i) w.arc+d):=by rw [et,zE3]
   obtain ⟨N,hN⟩:∃ N,H.length=N:=⟨_,rfl⟩
   have hAl:=hA.len
   have hAb:=hA.big
   have lo:∀ y a,a < P+1+T.tab.R→(H++[y])[a]?=H[a]?:=fun y a ha=>List.getElem?_append_left (by omega)
   have hL:∀ y,(H++[y]).length=N+1:=fun y=>z06 hN y
   have gN:=fun y:Blk=>z07 hN y
   have sN:=fun y y':Blk=>z0W hN y y'
   have zN:(N < N+1)=True:=eq_true (by omega)
   have e0:=fun y=>(lo y 0 (by omega)).trans hA.own
   have eP:=fun y=>(lo y P (by omega)).trans hA.mat.acc
   have wRC:IntKind.i64.wrap ((T.tab.R:Int)+(T.tab.C:Int))=((T.tab.R+T.tab.C:Nat):Int):=by rw [i64_in _ (by omega)];omega
   have wi:IntKind.i64.wrap ((i:Int)+1)=((i+1:Nat):Int):=z00 (by omega)
   have wr:z0J (.agg [.int .i64 0,.int .i64 0,.int .i64 0,.int .i64 0]) 0 (.agg [.int .i64 w.start,.int .i64 w.to,.int .i64 w.room,.int .i64 w.gain])=some (.agg [.int .i64 w.start,.int .i64 w.to,.int .i64 w.room,.int .i64 w.gain]):=rfl
   have yN:decide (N < N+1)=true:=decide_eq_true (by omega)
   have yP:decide (P < N+1)=true:=decide_eq_true (by omega)
   have sc0:scrub N (.ptr 0 0 0 0)=.ptr 0 0 0 0:=z2z (by simp [AVal.under];omega)
   have sc1:scrub N (.ptr 1 0 0 0)=.ptr 1 0 0 0:=z2z (by simp [AVal.under];omega)
   have sc2:scrub N (.ref P T.tab.R 0 T.tab.R false)=.ref P T.tab.R 0 T.tab.R false:=z2z (by simp [AVal.under];omega)
   have sc3:∀ (k:IntKind) (y:Int),scrub N (.int k y)=.int k y:=fun _ _=>z2z rfl
   have sc4:scrub N v7=v7:=z2z (hv7 N)
   have sc5:scrub N (.lit false 4 (ws.map stpV))=.lit false 4 (ws.map stpV):=z2z (by
    have:underL N (ws.map stpV)=true:=z4l (fun _ _=>rfl) _ N
    simpa [AVal.under] using this)
   have sc6:scrub N (.lit false 1 (js.map fun j=>.int .i64 ((j:Nat):Int)))=.lit false 1 (js.map fun j=>.int .i64 ((j:Nat):Int)):=z2z (by
    have:underL N (js.map fun j=>AVal.int .i64 ((j:Nat):Int))=true:=z4l (fun _ _=>rfl) _ N
    simpa [AVal.under] using this)
   have ih':=ih (i+1)
   rw [eN] at ih'
   simp only [stpV,arcA] at g2
   rcases hkind with ⟨a,b,ha,hb',e1,e2,e3,e4⟩ | ⟨a,b,ha,hb',e1,e2,e3,e4⟩ | ⟨e3,h1,h2⟩
   · have ex:∀ i' k',i' < T.tab.R→k' < C'+1→T.tab.mat (updF (push (T.tab.flow x) d (l.take i)) w.arc (if w.back then push (T.tab.flow x) d (l.take i) w.arc - d else push (T.tab.flow x) d (l.take i) w.arc+d)) i' k'=if i'=a∧k'=b then T.tab.mat (push (T.tab.flow x) d (l.take i)) a b+d else T.tab.mat (push (T.tab.flow x) d (l.take i)) i' k':=fun i' k' hi' hk'=>by
       rw [e3,e4,zKP hb' _ (by omega)];rfl
     have hc0:=hcur a b ha hb'
     have hrow:=hA.mat.row a ha
     have hA2:=hA.upd (v:=T.tab.mat (push (T.tab.flow x) d (l.take i)) a b+d) ha ex
     generalize T.tab.mat (updF (push (T.tab.flow x) d (l.take i)) w.arc (if w.back then push (T.tab.flow x) d (l.take i) w.arc - d else push (T.tab.flow x) d (l.take i) w.arc+d))=x2 at ih' hA2 ex
     generalize T.tab.mat (push (T.tab.flow x) d (l.take i))=x1 at hA hA2 hc0 hrow
     have hva:(vecA T.tab.R fun j=>AVal.ref (P+1+j) C' 0 (C'+1) false)[a]?=some (.ref (P+1+a) C' 0 (C'+1) false):=vecA_get _ ha
     have hgx:(intsV (C'+1) (x1 a))[b]?=some (.int .i64 (x1 a b)):=z0b (by omega)
     have er:=fun y=>(lo y (P+1+a) (by omega)).trans hrow
     have d1:decide ((w.start:Int) < (T.tab.R:Int))=true:=by simp;omega
     have d2:decide ((T.tab.R:Int)≤(w.to:Int))=true:=by simp;omega
     have d3:decide ((w.to:Int) < ((T.tab.R+T.tab.C:Nat):Int))=true:=by simp only [decide_eq_true_eq];omega
     have d4:decide ((w.to:Int) < (T.tab.R:Int))=false:=by simp;omega
     have wk:IntKind.i64.wrap ((w.to:Int) - (T.tab.R:Int))=(b:Int):=by rw [i64_in _ (by omega)];omega
     have wv:IntKind.i64.wrap (x1 a b+d)=x1 a b+d:=i64_in _ (by omega)
     have a0:(0:Int)≤(w.start:Int):=by omega
     have aN:Int.toNat (w.start:Int)=a:=by omega
     have b0:(0:Int)≤(b:Int):=by omega
     have dB:decide ((b:Int) < ((C'+1:Nat):Int))=true:=by simp;omega
     have yr:decide (P+1+a < N+1)=true:=decide_eq_true (by omega)
     have zr:(P+1+a < N+1)=True:=eq_true (by omega)
     have bC:(b < C'+1)=True:=eq_true (by omega)
     obtain ⟨rb,hrb⟩:∃ rb,rb=Blk.cells C' 1 true ((intsV (C'+1) (x1 a)).set b (.int .i64 (x1 a b+d))):=⟨_,rfl⟩
     rw [← hrb] at hA2
     have hset:∀ y,(H++[y]).set (P+1+a) rb=H.set (P+1+a) rb++[y]:=fun y=>List.set_append_left _ _ (by omega)
     have hN2:(H.set (P+1+a) rb).length=N:=by rw [List.length_set];exact hN
     have gN2:=fun y:Blk=>z07 hN2 y
     have hL2:∀ y,(H.set (P+1+a) rb++[y]).length=N+1:=fun y=>z06 hN2 y
     have f0:fG (P+1+a) N=0:=fG_o (by omega)
     have f1:fG (P+1+a) P=0:=fG_o (by omega)
     have f2:=fG_r (P+1+a)
     rcases zAd (V:=[]) (b:=.cells 0 4 true [.agg [.int .i64 w.start,.int .i64 w.to,.int .i64 w.room,.int .i64 w.gain]]) hN2 with tr | tr
     · simp only [go_sem,simprocAttr,Try.f128] at ih' ⊢
       rw [exec_loop]
       simp only [go_sem,simprocAttr,hl,hd,i0,j0,Int.toNat_natCast,g1,g2,hN,hL,gN,sN,zN,e0,eP,er,lc,wRC,wr,Nat.zero_le,yN,yP,d1,d2,d3,d4,wk,wv,a0,aN,b0,dB,ha,hva,hgx,bC,yr,zr,← hrb,z0F]
       rw [apart_ok (z1S (f:=fG (P+1+a)) (l':=z8i) (by simp [CovF,z8i,f0,f1,f2]) (z0C (by kernel_rfl)))]
       simp only [go_sem,simprocAttr,hset,gN2,hL2,d1,d2,d3,d4,wi,tr,lc,e0,wRC]
       exact ih' _ _ _ _ _ _ _ _ _ _ _ _ _ _ _ _ _ _ _ _ _ _ _ _ _ _ _ _ _ _ _ _ _ _ _ _ _ _ _ _ _ _ _ _ _ _ _ _ _ _ _ _ _ _ _ _ _ _ _ _ _ _ _ _ _ _ _ _ _ _ _ _ _ _ _ _ _ _ _ _ _ _ _ _ _ _ _ _ _ _ _ _ _ _ _ _ _ _ _ _ _ _ _ _ _ _ _ _ _ _ _ _ _ _ _ _ _ _ _ _ _ _ _ _ _ _ _ _ _ _ _ _ _ _ _ _ _ _ _ _ _ _ _ _ _ _ _ _ _ _ _ _ _ _ _ _ _ _ _ _ _ (by omega) hv7 (hA2.more _)
     · simp only [go_sem,simprocAttr,Try.f128] at ih' ⊢
       rw [exec_loop]
       simp only [go_sem,simprocAttr,hl,hd,i0,j0,Int.toNat_natCast,g1,g2,hN,hL,gN,sN,zN,e0,eP,er,lc,wRC,wr,Nat.zero_le,yN,yP,d1,d2,d3,d4,wk,wv,a0,aN,b0,dB,ha,hva,hgx,bC,yr,zr,← hrb,z0F]
       rw [apart_ok (z1S (f:=fG (P+1+a)) (l':=z8i) (by simp [CovF,z8i,f0,f1,f2]) (z0C (by kernel_rfl)))]
       simp only [go_sem,simprocAttr,hset,gN2,hL2,d1,d2,d3,d4,wi,tr,lc,e0,wRC,List.map_cons,List.map_nil,sc0,sc1,sc2,sc3,sc4,sc5,sc6]
       exact ih' _ _ _ _ _ _ _ _ _ _ _ _ _ _ _ _ _ _ _ _ _ _ _ _ _ _ _ _ _ _ _ _ _ _ _ _ _ _ _ _ _ _ _ _ _ _ _ _ _ _ _ _ _ _ _ _ _ _ _ _ _ _ _ _ _ _ _ _ _ _ _ _ _ _ _ _ _ _ _ _ _ _ _ _ _ _ _ _ _ _ _ _ _ _ _ _ _ _ _ _ _ _ _ _ _ _ _ _ _ _ _ _ _ _ _ _ _ _ _ _ _ _ _ _ _ _ _ _ _ _ _ _ _ _ _ _ _ _ _ _ _ _ _ _ _ _ _ _ _ _ _ _ _ _ _ _ _ _ _ _ _ (by omega) hv7 hA2
   · have ex:∀ i' k',i' < T.tab.R→k' < C'+1→T.tab.mat (updF (push (T.tab.flow x) d (l.take i)) w.arc (if w.back then push (T.tab.flow x) d (l.take i) w.arc - d else push (T.tab.flow x) d (l.take i) w.arc+d)) i' k'=if i'=a∧k'=b then T.tab.mat (push (T.tab.flow x) d (l.take i)) a b - d else T.tab.mat (push (T.tab.flow x) d (l.take i)) i' k':=fun i' k' hi' hk'=>by
       rw [e3,e4,zKP hb' _ (by omega)];rfl
     have hc0:=hcur a b ha hb'
     have hrow:=hA.mat.row a ha
     have hA2:=hA.upd (v:=T.tab.mat (push (T.tab.flow x) d (l.take i)) a b - d) ha ex
     generalize T.tab.mat (updF (push (T.tab.flow x) d (l.take i)) w.arc (if w.back then push (T.tab.flow x) d (l.take i) w.arc - d else push (T.tab.flow x) d (l.take i) w.arc+d))=x2 at ih' hA2 ex
     generalize T.tab.mat (push (T.tab.flow x) d (l.take i))=x1 at hA hA2 hc0 hrow
     have hva:(vecA T.tab.R fun j=>AVal.ref (P+1+j) C' 0 (C'+1) false)[a]?=some (.ref (P+1+a) C' 0 (C'+1) false):=vecA_get _ ha
     have hgx:(intsV (C'+1) (x1 a))[b]?=some (.int .i64 (x1 a b)):=z0b (by omega)
     have er:=fun y=>(lo y (P+1+a) (by omega)).trans hrow
     have d1:decide ((w.start:Int) < (T.tab.R:Int))=false:=by simp;omega
     have d2:decide ((w.to:Int) < (T.tab.R:Int))=true:=by simp;omega
     have d3:decide ((T.tab.R:Int)≤(w.start:Int))=true:=by simp;omega
     have d4:decide ((w.start:Int) < ((T.tab.R+T.tab.C:Nat):Int))=true:=by simp only [decide_eq_true_eq];omega
     have wk:IntKind.i64.wrap ((w.start:Int) - (T.tab.R:Int))=(b:Int):=by rw [i64_in _ (by omega)];omega
     have wv:IntKind.i64.wrap (x1 a b - d)=x1 a b - d:=i64_in _ (by omega)
     have a0:(0:Int)≤(w.to:Int):=by omega
     have aN:Int.toNat (w.to:Int)=a:=by omega
     have b0:(0:Int)≤(b:Int):=by omega
     have dB:decide ((b:Int) < ((C'+1:Nat):Int))=true:=by simp;omega
     have yr:decide (P+1+a < N+1)=true:=decide_eq_true (by omega)
     have zr:(P+1+a < N+1)=True:=eq_true (by omega)
     have bC:(b < C'+1)=True:=eq_true (by omega)
     obtain ⟨rb,hrb⟩:∃ rb,rb=Blk.cells C' 1 true ((intsV (C'+1) (x1 a)).set b (.int .i64 (x1 a b - d))):=⟨_,rfl⟩
     rw [← hrb] at hA2
     have hset:∀ y,(H++[y]).set (P+1+a) rb=H.set (P+1+a) rb++[y]:=fun y=>List.set_append_left _ _ (by omega)
     have hN2:(H.set (P+1+a) rb).length=N:=by rw [List.length_set];exact hN
     have gN2:=fun y:Blk=>z07 hN2 y
     have hL2:∀ y,(H.set (P+1+a) rb++[y]).length=N+1:=fun y=>z06 hN2 y
     have f0:fG (P+1+a) N=0:=fG_o (by omega)
     have f1:fG (P+1+a) P=0:=fG_o (by omega)
     have f2:=fG_r (P+1+a)
     rcases zAd (V:=[]) (b:=.cells 0 4 true [.agg [.int .i64 w.start,.int .i64 w.to,.int .i64 w.room,.int .i64 w.gain]]) hN2 with tr | tr
     · simp only [go_sem,simprocAttr,Try.f128] at ih' ⊢
       rw [exec_loop]
       simp only [go_sem,simprocAttr,hl,hd,i0,j0,Int.toNat_natCast,g1,g2,hN,hL,gN,sN,zN,e0,eP,er,lc,wRC,wr,Nat.zero_le,yN,yP,d1,d2,d3,d4,wk,wv,a0,aN,b0,dB,ha,hva,hgx,bC,yr,zr,← hrb,z0F]
       rw [apart_ok (z1S (f:=fG (P+1+a)) (l':=z8i) (by simp [CovF,z8i,f0,f1,f2]) (z0C (by kernel_rfl)))]
       simp only [go_sem,simprocAttr,hset,gN2,hL2,d1,d2,d3,d4,wi,tr,lc,e0,wRC]
       exact ih' _ _ _ _ _ _ _ _ _ _ _ _ _ _ _ _ _ _ _ _ _ _ _ _ _ _ _ _ _ _ _ _ _ _ _ _ _ _ _ _ _ _ _ _ _ _ _ _ _ _ _ _ _ _ _ _ _ _ _ _ _ _ _ _ _ _ _ _ _ _ _ _ _ _ _ _ _ _ _ _ _ _ _ _ _ _ _ _ _ _ _ _ _ _ _ _ _ _ _ _ _ _ _ _ _ _ _ _ _ _ _ _ _ _ _ _ _ _ _ _ _ _ _ _ _ _ _ _ _ _ _ _ _ _ _ _ _ _ _ _ _ _ _ _ _ _ _ _ _ _ _ _ _ _ _ _ _ _ _ _ _ (by omega) hv7 (hA2.more _)
     · simp only [go_sem,simprocAttr,Try.f128] at ih' ⊢
       rw [exec_loop]
       simp only [go_sem,simprocAttr,hl,hd,i0,j0,Int.toNat_natCast,g1,g2,hN,hL,gN,sN,zN,e0,eP,er,lc,wRC,wr,Nat.zero_le,yN,yP,d1,d2,d3,d4,wk,wv,a0,aN,b0,dB,ha,hva,hgx,bC,yr,zr,← hrb,z0F]
       rw [apart_ok (z1S (f:=fG (P+1+a)) (l':=z8i) (by simp [CovF,z8i,f0,f1,f2]) (z0C (by kernel_rfl)))]
       simp only [go_sem,simprocAttr,hset,gN2,hL2,d1,d2,d3,d4,wi,tr,lc,e0,wRC,List.map_cons,List.map_nil,sc0,sc1,sc2,sc3,sc4,sc5,sc6]
       exact ih' _ _ _ _ _ _ _ _ _ _ _ _ _ _ _ _ _ _ _ _ _ _ _ _ _ _ _ _ _ _ _ _ _ _ _ _ _ _ _ _ _ _ _ _ _ _ _ _ _ _ _ _ _ _ _ _ _ _ _ _ _ _ _ _ _ _ _ _ _ _ _ _ _ _ _ _ _ _ _ _ _ _ _ _ _ _ _ _ _ _ _ _ _ _ _ _ _ _ _ _ _ _ _ _ _ _ _ _ _ _ _ _ _ _ _ _ _ _ _ _ _ _ _ _ _ _ _ _ _ _ _ _ _ _ _ _ _ _ _ _ _ _ _ _ _ _ _ _ _ _ _ _ _ _ _ _ _ _ _ _ _ (by omega) hv7 hA2
   · have ex:∀ i' k',i' < T.tab.R→k' < C'+1→T.tab.mat (updF (push (T.tab.flow x) d (l.take i)) w.arc (if w.back then push (T.tab.flow x) d (l.take i) w.arc - d else push (T.tab.flow x) d (l.take i) w.arc+d)) i' k'=T.tab.mat (push (T.tab.flow x) d (l.take i)) i' k':=fun i' k' hi' hk'=>zPr e3 _ hi' (by omega)
     have hA2:=hA.same ex
     generalize T.tab.mat (updF (push (T.tab.flow x) d (l.take i)) w.arc (if w.back then push (T.tab.flow x) d (l.take i) w.arc - d else push (T.tab.flow x) d (l.take i) w.arc+d))=x2 at ih' hA2 ex
     have n1:(decide ((w.start:Int) < (T.tab.R:Int))=false) ∨ (decide ((w.start:Int) < (T.tab.R:Int))=true∧decide ((T.tab.R:Int)≤(w.to:Int))=false) ∨ (decide ((w.start:Int) < (T.tab.R:Int))=true∧decide ((T.tab.R:Int)≤(w.to:Int))=true∧decide ((w.to:Int) < ((T.tab.R+T.tab.C:Nat):Int))=false):=by
      simp only [decide_eq_true_eq,decide_eq_false_iff_not]
      omega
     have n2:(decide ((w.to:Int) < (T.tab.R:Int))=false) ∨ (decide ((w.to:Int) < (T.tab.R:Int))=true∧decide ((T.tab.R:Int)≤(w.start:Int))=false) ∨ (decide ((w.to:Int) < (T.tab.R:Int))=true∧decide ((T.tab.R:Int)≤(w.start:Int))=true∧decide ((w.start:Int) < ((T.tab.R+T.tab.C:Nat):Int))=false):=by
      simp only [decide_eq_true_eq,decide_eq_false_iff_not]
      omega
     rcases zAd (V:=[]) (b:=.cells 0 4 true [.agg [.int .i64 w.start,.int .i64 w.to,.int .i64 w.room,.int .i64 w.gain]]) hN with tr | tr
     · rcases n1 with d1 | ⟨d1,d2⟩ | ⟨d1,d2,d3⟩
       · rcases n2 with q1 | ⟨q1,q2⟩ | ⟨q1,q2,q3⟩
         · simp only [go_sem,simprocAttr,Try.f128] at ih' ⊢
           rw [exec_loop]
           simp only [go_sem,simprocAttr,hl,hd,i0,j0,Int.toNat_natCast,g1,g2,hN,hL,gN,sN,zN,e0,lc,wRC,wr,Nat.zero_le,wi,tr,d1,q1]
           exact ih' _ _ _ _ _ _ _ _ _ _ _ _ _ _ _ _ _ _ _ _ _ _ _ _ _ _ _ _ _ _ _ _ _ _ _ _ _ _ _ _ _ _ _ _ _ _ _ _ _ _ _ _ _ _ _ _ _ _ _ _ _ _ _ _ _ _ _ _ _ _ _ _ _ _ _ _ _ _ _ _ _ _ _ _ _ _ _ _ _ _ _ _ _ _ _ _ _ _ _ _ _ _ _ _ _ _ _ _ _ _ _ _ _ _ _ _ _ _ _ _ _ _ _ _ _ _ _ _ _ _ _ _ _ _ _ _ _ _ _ _ _ _ _ _ _ _ _ _ _ _ _ _ _ _ _ _ _ _ _ _ _ (by omega) hv7 (hA2.more _)
         · simp only [go_sem,simprocAttr,Try.f128] at ih' ⊢
           rw [exec_loop]
           simp only [go_sem,simprocAttr,hl,hd,i0,j0,Int.toNat_natCast,g1,g2,hN,hL,gN,sN,zN,e0,lc,wRC,wr,Nat.zero_le,wi,tr,d1,q1,q2]
           exact ih' _ _ _ _ _ _ _ _ _ _ _ _ _ _ _ _ _ _ _ _ _ _ _ _ _ _ _ _ _ _ _ _ _ _ _ _ _ _ _ _ _ _ _ _ _ _ _ _ _ _ _ _ _ _ _ _ _ _ _ _ _ _ _ _ _ _ _ _ _ _ _ _ _ _ _ _ _ _ _ _ _ _ _ _ _ _ _ _ _ _ _ _ _ _ _ _ _ _ _ _ _ _ _ _ _ _ _ _ _ _ _ _ _ _ _ _ _ _ _ _ _ _ _ _ _ _ _ _ _ _ _ _ _ _ _ _ _ _ _ _ _ _ _ _ _ _ _ _ _ _ _ _ _ _ _ _ _ _ _ _ _ (by omega) hv7 (hA2.more _)
         · simp only [go_sem,simprocAttr,Try.f128] at ih' ⊢
           rw [exec_loop]
           simp only [go_sem,simprocAttr,hl,hd,i0,j0,Int.toNat_natCast,g1,g2,hN,hL,gN,sN,zN,e0,lc,wRC,wr,Nat.zero_le,wi,tr,d1,q1,q2,q3]
           exact ih' _ _ _ _ _ _ _ _ _ _ _ _ _ _ _ _ _ _ _ _ _ _ _ _ _ _ _ _ _ _ _ _ _ _ _ _ _ _ _ _ _ _ _ _ _ _ _ _ _ _ _ _ _ _ _ _ _ _ _ _ _ _ _ _ _ _ _ _ _ _ _ _ _ _ _ _ _ _ _ _ _ _ _ _ _ _ _ _ _ _ _ _ _ _ _ _ _ _ _ _ _ _ _ _ _ _ _ _ _ _ _ _ _ _ _ _ _ _ _ _ _ _ _ _ _ _ _ _ _ _ _ _ _ _ _ _ _ _ _ _ _ _ _ _ _ _ _ _ _ _ _ _ _ _ _ _ _ _ _ _ _ (by omega) hv7 (hA2.more _)
       · rcases n2 with q1 | ⟨q1,q2⟩ | ⟨q1,q2,q3⟩
         · simp only [go_sem,simprocAttr,Try.f128] at ih' ⊢
           rw [exec_loop]
           simp only [go_sem,simprocAttr,hl,hd,i0,j0,Int.toNat_natCast,g1,g2,hN,hL,gN,sN,zN,e0,lc,wRC,wr,Nat.zero_le,wi,tr,d1,d2,q1]
           exact ih' _ _ _ _ _ _ _ _ _ _ _ _ _ _ _ _ _ _ _ _ _ _ _ _ _ _ _ _ _ _ _ _ _ _ _ _ _ _ _ _ _ _ _ _ _ _ _ _ _ _ _ _ _ _ _ _ _ _ _ _ _ _ _ _ _ _ _ _ _ _ _ _ _ _ _ _ _ _ _ _ _ _ _ _ _ _ _ _ _ _ _ _ _ _ _ _ _ _ _ _ _ _ _ _ _ _ _ _ _ _ _ _ _ _ _ _ _ _ _ _ _ _ _ _ _ _ _ _ _ _ _ _ _ _ _ _ _ _ _ _ _ _ _ _ _ _ _ _ _ _ _ _ _ _ _ _ _ _ _ _ _ (by omega) hv7 (hA2.more _)
         · simp only [go_sem,simprocAttr,Try.f128] at ih' ⊢
           rw [exec_loop]
           simp only [go_sem,simprocAttr,hl,hd,i0,j0,Int.toNat_natCast,g1,g2,hN,hL,gN,sN,zN,e0,lc,wRC,wr,Nat.zero_le,wi,tr,d1,d2,q1,q2]
           exact ih' _ _ _ _ _ _ _ _ _ _ _ _ _ _ _ _ _ _ _ _ _ _ _ _ _ _ _ _ _ _ _ _ _ _ _ _ _ _ _ _ _ _ _ _ _ _ _ _ _ _ _ _ _ _ _ _ _ _ _ _ _ _ _ _ _ _ _ _ _ _ _ _ _ _ _ _ _ _ _ _ _ _ _ _ _ _ _ _ _ _ _ _ _ _ _ _ _ _ _ _ _ _ _ _ _ _ _ _ _ _ _ _ _ _ _ _ _ _ _ _ _ _ _ _ _ _ _ _ _ _ _ _ _ _ _ _ _ _ _ _ _ _ _ _ _ _ _ _ _ _ _ _ _ _ _ _ _ _ _ _ _ (by omega) hv7 (hA2.more _)
         · simp only [go_sem,simprocAttr,Try.f128] at ih' ⊢
           rw [exec_loop]
           simp only [go_sem,simprocAttr,hl,hd,i0,j0,Int.toNat_natCast,g1,g2,hN,hL,gN,sN,zN,e0,lc,wRC,wr,Nat.zero_le,wi,tr,d1,d2,q1,q2,q3]
           exact ih' _ _ _ _ _ _ _ _ _ _ _ _ _ _ _ _ _ _ _ _ _ _ _ _ _ _ _ _ _ _ _ _ _ _ _ _ _ _ _ _ _ _ _ _ _ _ _ _ _ _ _ _ _ _ _ _ _ _ _ _ _ _ _ _ _ _ _ _ _ _ _ _ _ _ _ _ _ _ _ _ _ _ _ _ _ _ _ _ _ _ _ _ _ _ _ _ _ _ _ _ _ _ _ _ _ _ _ _ _ _ _ _ _ _ _ _ _ _ _ _ _ _ _ _ _ _ _ _ _ _ _ _ _ _ _ _ _ _ _ _ _ _ _ _ _ _ _ _ _ _ _ _ _ _ _ _ _ _ _ _ _ (by omega) hv7 (hA2.more _)
       · rcases n2 with q1 | ⟨q1,q2⟩ | ⟨q1,q2,q3⟩
         · simp only [go_sem,simprocAttr,Try.f128] at ih' ⊢
           rw [exec_loop]
           simp only [go_sem,simprocAttr,hl,hd,i0,j0,Int.toNat_natCast,g1,g2,hN,hL,gN,sN,zN,e0,lc,wRC,wr,Nat.zero_le,wi,tr,d1,d2,d3,q1]
           exact ih' _ _ _ _ _ _ _ _ _ _ _ _ _ _ _ _ _ _ _ _ _ _ _ _ _ _ _ _ _ _ _ _ _ _ _ _ _ _ _ _ _ _ _ _ _ _ _ _ _ _ _ _ _ _ _ _ _ _ _ _ _ _ _ _ _ _ _ _ _ _ _ _ _ _ _ _ _ _ _ _ _ _ _ _ _ _ _ _ _ _ _ _ _ _ _ _ _ _ _ _ _ _ _ _ _ _ _ _ _ _ _ _ _ _ _ _ _ _ _ _ _ _ _ _ _ _ _ _ _ _ _ _ _ _ _ _ _ _ _ _ _ _ _ _ _ _ _ _ _ _ _ _ _ _ _ _ _ _ _ _ _ (by omega) hv7 (hA2.more _)
         · simp only [go_sem,simprocAttr,Try.f128] at ih' ⊢
           rw [exec_loop]
           simp only [go_sem,simprocAttr,hl,hd,i0,j0,Int.toNat_natCast,g1,g2,hN,hL,gN,sN,zN,e0,lc,wRC,wr,Nat.zero_le,wi,tr,d1,d2,d3,q1,q2]
           exact ih' _ _ _ _ _ _ _ _ _ _ _ _ _ _ _ _ _ _ _ _ _ _ _ _ _ _ _ _ _ _ _ _ _ _ _ _ _ _ _ _ _ _ _ _ _ _ _ _ _ _ _ _ _ _ _ _ _ _ _ _ _ _ _ _ _ _ _ _ _ _ _ _ _ _ _ _ _ _ _ _ _ _ _ _ _ _ _ _ _ _ _ _ _ _ _ _ _ _ _ _ _ _ _ _ _ _ _ _ _ _ _ _ _ _ _ _ _ _ _ _ _ _ _ _ _ _ _ _ _ _ _ _ _ _ _ _ _ _ _ _ _ _ _ _ _ _ _ _ _ _ _ _ _ _ _ _ _ _ _ _ _ (by omega) hv7 (hA2.more _)
         · simp only [go_sem,simprocAttr,Try.f128] at ih' ⊢
           rw [exec_loop]
           simp only [go_sem,simprocAttr,hl,hd,i0,j0,Int.toNat_natCast,g1,g2,hN,hL,gN,sN,zN,e0,lc,wRC,wr,Nat.zero_le,wi,tr,d1,d2,d3,q1,q2,q3]
           exact ih' _ _ _ _ _ _ _ _ _ _ _ _ _ _ _ _ _ _ _ _ _ _ _ _ _ _ _ _ _ _ _ _ _ _ _ _ _ _ _ _ _ _ _ _ _ _ _ _ _ _ _ _ _ _ _ _ _ _ _ _ _ _ _ _ _ _ _ _ _ _ _ _ _ _ _ _ _ _ _ _ _ _ _ _ _ _ _ _ _ _ _ _ _ _ _ _ _ _ _ _ _ _ _ _ _ _ _ _ _ _ _ _ _ _ _ _ _ _ _ _ _ _ _ _ _ _ _ _ _ _ _ _ _ _ _ _ _ _ _ _ _ _ _ _ _ _ _ _ _ _ _ _ _ _ _ _ _ _ _ _ _ (by omega) hv7 (hA2.more _)
     · rcases n1 with d1 | ⟨d1,d2⟩ | ⟨d1,d2,d3⟩
       · rcases n2 with q1 | ⟨q1,q2⟩ | ⟨q1,q2,q3⟩
         · simp only [go_sem,simprocAttr,Try.f128] at ih' ⊢
           rw [exec_loop]
           simp only [go_sem,simprocAttr,hl,hd,i0,j0,Int.toNat_natCast,g1,g2,hN,hL,gN,sN,zN,e0,lc,wRC,wr,Nat.zero_le,wi,tr,d1,q1,List.map_cons,List.map_nil,sc0,sc1,sc2,sc3,sc4,sc5,sc6]
           exact ih' _ _ _ _ _ _ _ _ _ _ _ _ _ _ _ _ _ _ _ _ _ _ _ _ _ _ _ _ _ _ _ _ _ _ _ _ _ _ _ _ _ _ _ _ _ _ _ _ _ _ _ _ _ _ _ _ _ _ _ _ _ _ _ _ _ _ _ _ _ _ _ _ _ _ _ _ _ _ _ _ _ _ _ _ _ _ _ _ _ _ _ _ _ _ _ _ _ _ _ _ _ _ _ _ _ _ _ _ _ _ _ _ _ _ _ _ _ _ _ _ _ _ _ _ _ _ _ _ _ _ _ _ _ _ _ _ _ _ _ _ _ _ _ _ _ _ _ _ _ _ _ _ _ _ _ _ _ _ _ _ _ (by omega) hv7 hA2
         · simp only [go_sem,simprocAttr,Try.f128] at ih' ⊢
           rw [exec_loop]
           simp only [go_sem,simprocAttr,hl,hd,i0,j0,Int.toNat_natCast,g1,g2,hN,hL,gN,sN,zN,e0,lc,wRC,wr,Nat.zero_le,wi,tr,d1,q1,q2,List.map_cons,List.map_nil,sc0,sc1,sc2,sc3,sc4,sc5,sc6]
           exact ih' _ _ _ _ _ _ _ _ _ _ _ _ _ _ _ _ _ _ _ _ _ _ _ _ _ _ _ _ _ _ _ _ _ _ _ _ _ _ _ _ _ _ _ _ _ _ _ _ _ _ _ _ _ _ _ _ _ _ _ _ _ _ _ _ _ _ _ _ _ _ _ _ _ _ _ _ _ _ _ _ _ _ _ _ _ _ _ _ _ _ _ _ _ _ _ _ _ _ _ _ _ _ _ _ _ _ _ _ _ _ _ _ _ _ _ _ _ _ _ _ _ _ _ _ _ _ _ _ _ _ _ _ _ _ _ _ _ _ _ _ _ _ _ _ _ _ _ _ _ _ _ _ _ _ _ _ _ _ _ _ _ (by omega) hv7 hA2
         · simp only [go_sem,simprocAttr,Try.f128] at ih' ⊢
           rw [exec_loop]
           simp only [go_sem,simprocAttr,hl,hd,i0,j0,Int.toNat_natCast,g1,g2,hN,hL,gN,sN,zN,e0,lc,wRC,wr,Nat.zero_le,wi,tr,d1,q1,q2,q3,List.map_cons,List.map_nil,sc0,sc1,sc2,sc3,sc4,sc5,sc6]
           exact ih' _ _ _ _ _ _ _ _ _ _ _ _ _ _ _ _ _ _ _ _ _ _ _ _ _ _ _ _ _ _ _ _ _ _ _ _ _ _ _ _ _ _ _ _ _ _ _ _ _ _ _ _ _ _ _ _ _ _ _ _ _ _ _ _ _ _ _ _ _ _ _ _ _ _ _ _ _ _ _ _ _ _ _ _ _ _ _ _ _ _ _ _ _ _ _ _ _ _ _ _ _ _ _ _ _ _ _ _ _ _ _ _ _ _ _ _ _ _ _ _ _ _ _ _ _ _ _ _ _ _ _ _ _ _ _ _ _ _ _ _ _ _ _ _ _ _ _ _ _ _ _ _ _ _ _ _ _ _ _ _ _ (by omega) hv7 hA2
       · rcases n2 with q1 | ⟨q1,q2⟩ | ⟨q1,q2,q3⟩
         · simp only [go_sem,simprocAttr,Try.f128] at ih' ⊢
           rw [exec_loop]
           simp only [go_sem,simprocAttr,hl,hd,i0,j0,Int.toNat_natCast,g1,g2,hN,hL,gN,sN,zN,e0,lc,wRC,wr,Nat.zero_le,wi,tr,d1,d2,q1,List.map_cons,List.map_nil,sc0,sc1,sc2,sc3,sc4,sc5,sc6]
           exact ih' _ _ _ _ _ _ _ _ _ _ _ _ _ _ _ _ _ _ _ _ _ _ _ _ _ _ _ _ _ _ _ _ _ _ _ _ _ _ _ _ _ _ _ _ _ _ _ _ _ _ _ _ _ _ _ _ _ _ _ _ _ _ _ _ _ _ _ _ _ _ _ _ _ _ _ _ _ _ _ _ _ _ _ _ _ _ _ _ _ _ _ _ _ _ _ _ _ _ _ _ _ _ _ _ _ _ _ _ _ _ _ _ _ _ _ _ _ _ _ _ _ _ _ _ _ _ _ _ _ _ _ _ _ _ _ _ _ _ _ _ _ _ _ _ _ _ _ _ _ _ _ _ _ _ _ _ _ _ _ _ _ (by omega) hv7 hA2
         · simp only [go_sem,simprocAttr,Try.f128] at ih' ⊢
           rw [exec_loop]
           simp only [go_sem,simprocAttr,hl,hd,i0,j0,Int.toNat_natCast,g1,g2,hN,hL,gN,sN,zN,e0,lc,wRC,wr,Nat.zero_le,wi,tr,d1,d2,q1,q2,List.map_cons,List.map_nil,sc0,sc1,sc2,sc3,sc4,sc5,sc6]
           exact ih' _ _ _ _ _ _ _ _ _ _ _ _ _ _ _ _ _ _ _ _ _ _ _ _ _ _ _ _ _ _ _ _ _ _ _ _ _ _ _ _ _ _ _ _ _ _ _ _ _ _ _ _ _ _ _ _ _ _ _ _ _ _ _ _ _ _ _ _ _ _ _ _ _ _ _ _ _ _ _ _ _ _ _ _ _ _ _ _ _ _ _ _ _ _ _ _ _ _ _ _ _ _ _ _ _ _ _ _ _ _ _ _ _ _ _ _ _ _ _ _ _ _ _ _ _ _ _ _ _ _ _ _ _ _ _ _ _ _ _ _ _ _ _ _ _ _ _ _ _ _ _ _ _ _ _ _ _ _ _ _ _ (by omega) hv7 hA2
         · simp only [go_sem,simprocAttr,Try.f128] at ih' ⊢
           rw [exec_loop]
           simp only [go_sem,simprocAttr,hl,hd,i0,j0,Int.toNat_natCast,g1,g2,hN,hL,gN,sN,zN,e0,lc,wRC,wr,Nat.zero_le,wi,tr,d1,d2,q1,q2,q3,List.map_cons,List.map_nil,sc0,sc1,sc2,sc3,sc4,sc5,sc6]
           exact ih' _ _ _ _ _ _ _ _ _ _ _ _ _ _ _ _ _ _ _ _ _ _ _ _ _ _ _ _ _ _ _ _ _ _ _ _ _ _ _ _ _ _ _ _ _ _ _ _ _ _ _ _ _ _ _ _ _ _ _ _ _ _ _ _ _ _ _ _ _ _ _ _ _ _ _ _ _ _ _ _ _ _ _ _ _ _ _ _ _ _ _ _ _ _ _ _ _ _ _ _ _ _ _ _ _ _ _ _ _ _ _ _ _ _ _ _ _ _ _ _ _ _ _ _ _ _ _ _ _ _ _ _ _ _ _ _ _ _ _ _ _ _ _ _ _ _ _ _ _ _ _ _ _ _ _ _ _ _ _ _ _ (by omega) hv7 hA2
       · rcases n2 with q1 | ⟨q1,q2⟩ | ⟨q1,q2,q3⟩
         · simp only [go_sem,simprocAttr,Try.f128] at ih' ⊢
           rw [exec_loop]
           simp only [go_sem,simprocAttr,hl,hd,i0,j0,Int.toNat_natCast,g1,g2,hN,hL,gN,sN,zN,e0,lc,wRC,wr,Nat.zero_le,wi,tr,d1,d2,d3,q1,List.map_cons,List.map_nil,sc0,sc1,sc2,sc3,sc4,sc5,sc6]
           exact ih' _ _ _ _ _ _ _ _ _ _ _ _ _ _ _ _ _ _ _ _ _ _ _ _ _ _ _ _ _ _ _ _ _ _ _ _ _ _ _ _ _ _ _ _ _ _ _ _ _ _ _ _ _ _ _ _ _ _ _ _ _ _ _ _ _ _ _ _ _ _ _ _ _ _ _ _ _ _ _ _ _ _ _ _ _ _ _ _ _ _ _ _ _ _ _ _ _ _ _ _ _ _ _ _ _ _ _ _ _ _ _ _ _ _ _ _ _ _ _ _ _ _ _ _ _ _ _ _ _ _ _ _ _ _ _ _ _ _ _ _ _ _ _ _ _ _ _ _ _ _ _ _ _ _ _ _ _ _ _ _ _ (by omega) hv7 hA2
         · simp only [go_sem,simprocAttr,Try.f128] at ih' ⊢
           rw [exec_loop]
           simp only [go_sem,simprocAttr,hl,hd,i0,j0,Int.toNat_natCast,g1,g2,hN,hL,gN,sN,zN,e0,lc,wRC,wr,Nat.zero_le,wi,tr,d1,d2,d3,q1,q2,List.map_cons,List.map_nil,sc0,sc1,sc2,sc3,sc4,sc5,sc6]
           exact ih' _ _ _ _ _ _ _ _ _ _ _ _ _ _ _ _ _ _ _ _ _ _ _ _ _ _ _ _ _ _ _ _ _ _ _ _ _ _ _ _ _ _ _ _ _ _ _ _ _ _ _ _ _ _ _ _ _ _ _ _ _ _ _ _ _ _ _ _ _ _ _ _ _ _ _ _ _ _ _ _ _ _ _ _ _ _ _ _ _ _ _ _ _ _ _ _ _ _ _ _ _ _ _ _ _ _ _ _ _ _ _ _ _ _ _ _ _ _ _ _ _ _ _ _ _ _ _ _ _ _ _ _ _ _ _ _ _ _ _ _ _ _ _ _ _ _ _ _ _ _ _ _ _ _ _ _ _ _ _ _ _ (by omega) hv7 hA2
         · simp only [go_sem,simprocAttr,Try.f128] at ih' ⊢
           rw [exec_loop]
           simp only [go_sem,simprocAttr,hl,hd,i0,j0,Int.toNat_natCast,g1,g2,hN,hL,gN,sN,zN,e0,lc,wRC,wr,Nat.zero_le,wi,tr,d1,d2,d3,q1,q2,q3,List.map_cons,List.map_nil,sc0,sc1,sc2,sc3,sc4,sc5,sc6]
           exact ih' _ _ _ _ _ _ _ _ _ _ _ _ _ _ _ _ _ _ _ _ _ _ _ _ _ _ _ _ _ _ _ _ _ _ _ _ _ _ _ _ _ _ _ _ _ _ _ _ _ _ _ _ _ _ _ _ _ _ _ _ _ _ _ _ _ _ _ _ _ _ _ _ _ _ _ _ _ _ _ _ _ _ _ _ _ _ _ _ _ _ _ _ _ _ _ _ _ _ _ _ _ _ _ _ _ _ _ _ _ _ _ _ _ _ _ _ _ _ _ _ _ _ _ _ _ _ _ _ _ _ _ _ _ _ _ _ _ _ _ _ _ _ _ _ _ _ _ _ _ _ _ _ _ _ _ _ _ _ _ _ _ (by omega) hv7 hA2
set_option maxRecDepth 10000
set_option maxHeartbeats 4000000
theorem zLI {N:Nat} {H:Heap} {V:List Nat}:(∀ Tm,trunc N ⟨Tm,H,[],0,V⟩=⟨Tm,H,[],0,V⟩) ∨ ∀ Tm,trunc N ⟨Tm,H,[],0,V⟩=⟨Tm.map (scrub N),H.take N,[],0,V⟩:=by
 unfold trunc
 by_cases h1:H.length≤N
 · left;intro Tm;simp [h1]
 · by_cases h:(H.take N).all (underB N)=true
   · right;intro Tm
     simp only [h1,h,if_false,if_true,List.all_nil,Bool.and_self]
   · left;intro Tm
     simp only [h1,if_false,h,Bool.false_and,Bool.false_eq_true]
theorem GrAt.take {T:TabV} {c:CutA} {H:Heap} {P C':Nat} {x:Nat→Nat→Int} (h:GrAt T c H P C' x) {N:Nat} (hN:P+1+T.tab.R≤N):GrAt T c (H.take N) P C' x:=by
 have hl:=h.len
 have hb:=h.big
 have e:∀ j,j < P+1+T.tab.R→(H.take N)[j]?=H[j]?:=fun j hj=>by rw [List.getElem?_take,if_pos (by omega)]
 exact ⟨by rw [e 0 (by omega)];exact h.own,by rw [e 1 (by omega)];exact h.cut,⟨by rw [e P (by omega)];exact h.mat.acc,fun j hj=>by rw [e _ (by omega)];exact h.mat.row j hj⟩,by rw [List.length_take];omega,hb⟩
theorem z7r {f:Nat→Int} {B:Int}:∀ {n:Nat},(∀ i,i < n→-B≤f i∧f i≤B)→-(n * B)≤sumN n f∧sumN n f≤n * B
 | 0,_=>by simp [sumN]
 | n+1,h=>by
   have ih:=z7r (n:=n) fun i hi=>h i (by omega)
   have h1:=h n (by omega)
   have e:sumN (n+1) f=sumN n f+f n:=rfl
   have e2:((n+1:Nat):Int) * B=n * B+B:=by rw [Int.natCast_add,Int.add_mul];simp
   rw [e,e2]
   generalize (n:Int) * B=z at ih ⊢
   omega
theorem zJG {t:Tab} (hO:t.Mild) (c:CutA) {x:Nat→Nat→Int} (hf:Fits t x):-(2 ^ 40)≤t.brings (blkL t.C c t.R) x∧t.brings (blkL t.C c t.R) x≤2 ^ 40:=by
 have hR8:=hO.R8
 have hC8:=hO.C8
 rw [z4S]
 have h:=z7r (n:=t.R) (B:=2 ^ 37) (f:=fun i=>sumN t.C fun k=>if c.l1.getD i false && c.l2.getD k false then x i k else 0) fun i hi=>by
  have h1:=z7r (n:=t.C) (B:=2 ^ 34) (f:=fun k=>if c.l1.getD i false && c.l2.getD k false then x i k else 0) fun k hk=>by
   have b1:=hO.cell_ok hi hk
   have b2:=hf.cell i k hi hk
   show -(2 ^ 34)≤(if c.l1.getD i false && c.l2.getD k false then x i k else 0)∧(if c.l1.getD i false && c.l2.getD k false then x i k else 0)≤2 ^ 34
   split <;> omega
  omega
 omega
theorem zL8 {t:Tab} {f:Nat→Int} {L:List Nat}:∀ w ∈ z5E t f (z0U L),-1≤w.gain∧w.gain≤1:=fun w hw=>by
 obtain ⟨x,hx,rfl⟩:=List.mem_map.1 hw
 have hp:∀ j,z0U L j=0 ∨ z0U L j=1:=fun j=>by unfold z0U;split <;> simp
 obtain ⟨j,_,rfl | rfl⟩:=z68.1 hx
 · show -1≤z0U L j∧z0U L j≤1
   have:=hp j
   omega
 · show -1≤- z0U L j∧- z0U L j≤1
   have:=hp j
   omega
theorem zNI {t:Tab} (hO:t.Mild) {c:CutA} {x:Nat→Nat→Int}:(z5E t (t.flow x) (z0U (blkL t.C c t.R))).length < 1000:=by
 have h:=congrArg List.length (zL7 (t:=t) (c:=c) (x:=x))
 rw [List.length_map] at h
 rw [h]
 unfold z6N
 rw [List.length_append,z2h,z47]
 have:=zCu hO.R8 hO.C8
 have:=hO.C8
 omega
def Best (t:Tab) (c:CutA) (x:Nat→Nat→Int):Prop:=∀ s,Fits t s→t.brings (blkL t.C c t.R) s≤t.brings (blkL t.C c t.R) x
theorem zPY {T:TabV} (hT:T.Wf) (hO:T.tab.Mild) {c:CutA} (hc:c.Wf) (h1:c.l1.length=T.tab.R) (h2:c.l2.length=T.tab.C) {P C':Nat} (hC':T.tab.C=C'+1):∀ (n:Nat) (free:Int) (x:Nat→Nat→Int) (H:Heap) (j0 j1 j4 j8 j9 j10 j11 j12 j13 j14 j15 j16 j17 j18 j19 j20 j21 j22 j23 j24 j25 j26 j27 j28 j29 j30 j31 j32 j33 j34 j35 j36 j37 j38 j39 j40 j41 j42 j43 j44 j45 j46 j47 j48 j49 j50 j51 j52 j53 j54 j55 j56 j57 j58 j59 j60 j61 j62 j63 j64 j65 j66 j67 j68 j69 j70 j71 j72 j73 j74 j75 j76 j77 j78 j79 j80 j81 j82 j83 j84 j85 j86 j87 j88 j89 j90 j91 j92 j93 j94 j95 j96 j97 j98 j99 j100 j101 j102 j103 j104 j105 j106 j107 j108 j109 j110 j111 j112 j113 j114 j115 j116 j117 j118 j119 j120 j121 j122 j123 j124 j125 j126 j127 j128 j129 j130 j131 j132 j133 j134 j135 j136 j137 j138 j139 j140 j141 j142 j143 j144 j145 j146 j147 j148 j149 j150 j151 j152 j153 j154 j155 j156 j157 j158 j159 j160 j161 j162 j163 j164 j165 j166 j167 j168:AVal),free.toNat+(2 ^ 40 - T.tab.brings (blkL T.tab.C c T.tab.R) x).toNat < n→0≤free→free≤2 ^ 30→Fits T.tab x→(free=0→Best T.tab c x)→GrAt T c H P C' x →
    Goes (execT env (Try.f128.at [1,1,1,1,0,0]) ⟨[j0,j1,.ptr 0 0 0 0,.ptr 1 0 0 0,j4,.ref P T.tab.R 0 T.tab.R false,.int .i64 T.tab.R,.int .i64 free,j8,j9,j10,j11,j12,j13,j14,j15,j16,j17,j18,j19,j20,j21,j22,j23,j24,j25,j26,j27,j28,j29,j30,j31,j32,j33,j34,j35,j36,j37,j38,j39,j40,j41,j42,j43,j44,j45,j46,j47,j48,j49,j50,j51,j52,j53,j54,j55,j56,j57,j58,j59,j60,j61,j62,j63,j64,j65,j66,j67,j68,j69,j70,j71,j72,j73,j74,j75,j76,j77,j78,j79,j80,j81,j82,j83,j84,j85,j86,j87,j88,j89,j90,j91,j92,j93,j94,j95,j96,j97,j98,j99,j100,j101,j102,j103,j104,j105,j106,j107,j108,j109,j110,j111,j112,j113,j114,j115,j116,j117,j118,j119,j120,j121,j122,j123,j124,j125,j126,j127,j128,j129,j130,j131,j132,j133,j134,j135,j136,j137,j138,j139,j140,j141,j142,j143,j144,j145,j146,j147,j148,j149,j150,j151,j152,j153,j154,j155,j156,j157,j158,j159,j160,j161,j162,j163,j164,j165,j166,j167,j168],H,[],0,[]⟩) fun ex st=>
     ex=.exit 0∧∃ (H:Heap) (x:Nat→Nat→Int),(GrAt T c H P C' x∧Fits T.tab x∧Best T.tab c x)∧FrP 169 [(2,.ptr 0 0 0 0),(3,.ptr 1 0 0 0),(5,.ref P T.tab.R 0 T.tab.R false),(6,.int .i64 T.tab.R)] H [] 0 [] st:=by
 have hR8:=hO.R8
 have hC8:=hO.C8
 have lc:(T.cols.l.map spV).length=T.tab.C:=by rw [List.length_map];rfl
 intro n
 induction n with
 | zero=>
   intro free x H;intros;rename_i hms hf0 hf1 hfit hbest hA
   exact absurd hms (Nat.not_lt_zero _)
 | succ n ih=>
   intro free x H;intros;rename_i hms hf0 hf1 hfit hbest hA
   by_cases hz:free=0
   · have hd:decide (0 < free)=false:=by simp;omega
     simp only [go_sem,simprocAttr,Try.f128]
     rw [exec_loop]
     simp only [go_sem,simprocAttr,hd]
     exact ⟨H,x,⟨hA,hfit,hbest hz⟩,frP (by kernel_rfl)⟩
   · have hd:decide (0 < free)=true:=by simp;omega
     obtain ⟨N,hN⟩:∃ N,H.length=N:=⟨_,rfl⟩
     have hAl:=hA.len
     have hAb:=hA.big
     have e0:=hA.own
     have e1:=hA.cut
     obtain ⟨us,ac,hus⟩:=zJ0 hT hO hc h1 h2 hC' hfit hA.mat N
     have hpu:=zCo hus
     have hcs:consec N N us=true:=z5v fun u hu=>by
      have:=(List.getElem?_eq_some_iff.1 (hus u hu)).1
      omega
     rw [← zL7] at ac
     have wRC:IntKind.i64.wrap ((T.tab.R:Int)+(T.tab.C:Int))=((T.tab.R+T.tab.C:Nat):Int):=by rw [i64_in _ (by omega)];omega
     have wRC1:IntKind.i64.wrap (((T.tab.R+T.tab.C:Nat):Int)+1)=((T.tab.R+T.tab.C+1:Nat):Int):=by rw [i64_in _ (by omega)];omega
     have hph:=zJG hO c hfit
     have cc:=zJS (cl:=false) (free:=free) (n:=T.tab.R+T.tab.C+1) (zAY (t:=T.tab) (f:=T.tab.flow x) (g:=z0U (blkL T.tab.C c T.tab.R))).1 zAY.2 zL8 (zNI hO) (by omega) (by omega)
     generalize hws:z5E T.tab (T.tab.flow x) (z0U (blkL T.tab.C c T.tab.R))=ws at ac cc
     rcases cc with ⟨⟨Pt,hPt⟩,ca⟩ | ⟨l,js,v,⟨r1,r2,r3,r4,r5,r6⟩,rj,rl,ca⟩
     · have wq0:free.tdiv 2=free / 2:=Int.tdiv_eq_ediv_of_nonneg hf0
       have wq:IntKind.i64.wrap (free.tdiv 2)=free / 2:=by rw [wq0];exact i64_in _ (by omega)
       have htr:∀ Tm,trunc N ⟨Tm,H,[],0,[]⟩=⟨Tm,H,[],0,[]⟩:=fun Tm=>z3z (by omega)
       have ih':=ih (free / 2) x H
       have hb2:free / 2=0→Best T.tab c x:=fun h=>by
        have hf:free=1:=by omega
        refine zJR hfit (P:=Pt) fun w hw hr=>hPt w (by rw [← hws];exact hw) (by omega)
       have hms2:(free / 2).toNat+(2 ^ 40 - T.tab.brings (blkL T.tab.C c T.tab.R) x).toNat < n:=by
        generalize T.tab.brings (blkL T.tab.C c T.tab.R) x=ph at hms
        omega
       simp only [go_sem,simprocAttr,Try.f128] at ih' ⊢
       rw [exec_loop]
       simp only [go_sem,simprocAttr,hd,e0,e1,hN,ac,hpu,hcs,lc,wRC,wRC1,ca,wq,htr,Nat.zero_le]
       exact ih' _ _ _ _ _ _ _ _ _ _ _ _ _ _ _ _ _ _ _ _ _ _ _ _ _ _ _ _ _ _ _ _ _ _ _ _ _ _ _ _ _ _ _ _ _ _ _ _ _ _ _ _ _ _ _ _ _ _ _ _ _ _ _ _ _ _ _ _ _ _ _ _ _ _ _ _ _ _ _ _ _ _ _ _ _ _ _ _ _ _ _ _ _ _ _ _ _ _ _ _ _ _ _ _ _ _ _ _ _ _ _ _ _ _ _ _ _ _ _ _ _ _ _ _ _ _ _ _ _ _ _ _ _ _ _ _ _ _ _ _ _ _ _ _ _ _ _ _ _ _ _ _ _ _ _ _ _ _ _ _ _ _ _ _ hms2 (by omega) (by omega) hfit hb2 hA
     · have hRd:Round ws js l:=⟨rj,rl,by omega⟩
       obtain ⟨d1,d2,d3⟩:=zKI l (2 ^ 31)
       have hd1:1≤lstW l (2 ^ 31):=d3 (by decide) fun w hw=>by have:=(r3 w hw).2;omega
       have hsteps:∀ w ∈ l,w ∈ z5E T.tab (T.tab.flow x) (z0U (blkL T.tab.C c T.tab.R)):=fun w hw=>by rw [hws];exact (r3 w hw).1
       obtain ⟨p1,p2,p3⟩:=zJT hfit hsteps r1 r2 r5 hd1 d2
       have hph2:=zJG hO c p1
       rw [p2] at hph2
       have hgn:1≤lstW l (2 ^ 31) * gsum l:=by
        have:=Int.mul_le_mul hd1 (show (1:Int)≤gsum l by omega) (by decide) (by omega)
        omega
       have hms2:free.toNat+(2 ^ 40 - T.tab.brings (blkL T.tab.C c T.tab.R) (T.tab.mat (push (T.tab.flow x) (lstW l (2 ^ 31)) l))).toNat < n:=by
        rw [p2]
        generalize T.tab.brings (blkL T.tab.C c T.tab.R) x=ph at hms hph hph2 ⊢
        generalize lstW l (2 ^ 31) * gsum l=y at hgn hph2 ⊢
        omega
       have hb2:free=0→Best T.tab c (T.tab.mat (push (T.tab.flow x) (lstW l (2 ^ 31)) l)):=fun h=>absurd h hz
       have hbx:∀ i k,i < T.tab.R→k < T.tab.C→-(2 ^ 34)≤x i k∧x i k≤2 ^ 34:=fun i k hi hk=>by
        have b1:=hO.cell_ok hi hk
        have b2:=hfit.cell i k hi hk
        omega
       obtain ⟨exa,sta,hxa,hpa⟩:=zSR hRd (v2:=.ptr 0 0 0 0) (v3:=.ptr 1 0 0 0) (v5:=.ref P T.tab.R 0 T.tab.R false) (v6:=.int .i64 T.tab.R) (v7:=.int .i64 free) (H:=H) l.length 0 _ _ _ _ _ _ _ _ _ _ _ _ _ _ _ _ _ _ _ _ _ _ _ _ _ _ _ _ _ _ _ _ _ _ _ _ _ _ _ _ _ _ _ _ _ _ _ _ _ _ _ _ _ _ _ _ _ _ _ _ _ _ _ _ _ _ _ _ _ _ _ _ _ _ _ _ _ _ _ _ _ _ _ _ _ _ _ _ _ _ _ _ _ _ _ _ _ _ _ _ _ _ _ _ _ _ _ _ _ _ _ _ _ _ _ _ _ _ _ _ _ _ _ _ _ _ _ _ _ _ _ _ _ _ _ _ _ _ _ _ _ _ _ _ _ _ _ _ _ _ _ _ _ _ _ _ _ _ _ _ (by omega)
       obtain ⟨rfl,jp,rfl⟩:=hpa
       have l00:lstW (l.take 0) (2 ^ 31)=2147483648:=rfl
       rw [l00] at hxa
       obtain ⟨exb,stb,hxb,hpb⟩:=zPZ hO hRd hsteps hbx (d:=lstW l (2 ^ 31)) (by omega) d1 hC' (v7:=.int .i64 free) (c:=c) l.length 0 H _ _ _ _ _ _ _ _ _ _ _ _ _ _ _ _ _ _ _ _ _ _ _ _ _ _ _ _ _ _ _ _ _ _ _ _ _ _ _ _ _ _ _ _ _ _ _ _ _ _ _ _ _ _ _ _ _ _ _ _ _ _ _ _ _ _ _ _ _ _ _ _ _ _ _ _ _ _ _ _ _ _ _ _ _ _ _ _ _ _ _ _ _ _ _ _ _ _ _ _ _ _ _ _ _ _ _ _ _ _ _ _ _ _ _ _ _ _ _ _ _ _ _ _ _ _ _ _ _ _ _ _ _ _ _ _ _ _ _ _ _ _ _ _ _ _ _ _ _ _ _ _ _ _ _ _ _ _ _ _ (by omega) (fun _=>rfl) (hA.same fun i k hi hk=>T.tab.flow_cell x hi (by omega))
       obtain ⟨rfl,H2,hA2,jq,rfl⟩:=hpb
       have sc0:scrub N (.ptr 0 0 0 0)=.ptr 0 0 0 0:=z2z (by simp [AVal.under];omega)
       have sc1:scrub N (.ptr 1 0 0 0)=.ptr 1 0 0 0:=z2z (by simp [AVal.under];omega)
       have sc2:scrub N (.ref P T.tab.R 0 T.tab.R false)=.ref P T.tab.R 0 T.tab.R false:=z2z (by simp [AVal.under];omega)
       have sc3:∀ (k:IntKind) (y:Int),scrub N (.int k y)=.int k y:=fun _ _=>z2z rfl
       have ih':=fun H'=>ih free (T.tab.mat (push (T.tab.flow x) (lstW l (2 ^ 31)) l)) H'
       simp only [go_sem,simprocAttr,Try.f128,Int.ofNat_zero,Int.natCast_zero] at hxa hxb
       rcases zLI (N:=N) (H:=H2) (V:=[]) with tr | tr
       · simp only [go_sem,simprocAttr,Try.f128] at ih' ⊢
         rw [exec_loop]
         simp only [go_sem,simprocAttr,hd,e0,e1,hN,ac,hpu,hcs,lc,wRC,wRC1,ca,Nat.zero_le]
         rw [hxa]
         simp only [go_sem,simprocAttr]
         rw [hxb]
         simp only [go_sem,simprocAttr,hN,tr]
         exact ih' _ _ _ _ _ _ _ _ _ _ _ _ _ _ _ _ _ _ _ _ _ _ _ _ _ _ _ _ _ _ _ _ _ _ _ _ _ _ _ _ _ _ _ _ _ _ _ _ _ _ _ _ _ _ _ _ _ _ _ _ _ _ _ _ _ _ _ _ _ _ _ _ _ _ _ _ _ _ _ _ _ _ _ _ _ _ _ _ _ _ _ _ _ _ _ _ _ _ _ _ _ _ _ _ _ _ _ _ _ _ _ _ _ _ _ _ _ _ _ _ _ _ _ _ _ _ _ _ _ _ _ _ _ _ _ _ _ _ _ _ _ _ _ _ _ _ _ _ _ _ _ _ _ _ _ _ _ _ _ _ _ _ _ _ _ hms2 hf0 hf1 p1 hb2 hA2
       · simp only [go_sem,simprocAttr,Try.f128] at ih' ⊢
         rw [exec_loop]
         simp only [go_sem,simprocAttr,hd,e0,e1,hN,ac,hpu,hcs,lc,wRC,wRC1,ca,Nat.zero_le]
         rw [hxa]
         simp only [go_sem,simprocAttr]
         rw [hxb]
         simp only [go_sem,simprocAttr,hN,tr,List.map_cons,List.map_nil,sc0,sc1,sc2,sc3]
         exact ih' _ _ _ _ _ _ _ _ _ _ _ _ _ _ _ _ _ _ _ _ _ _ _ _ _ _ _ _ _ _ _ _ _ _ _ _ _ _ _ _ _ _ _ _ _ _ _ _ _ _ _ _ _ _ _ _ _ _ _ _ _ _ _ _ _ _ _ _ _ _ _ _ _ _ _ _ _ _ _ _ _ _ _ _ _ _ _ _ _ _ _ _ _ _ _ _ _ _ _ _ _ _ _ _ _ _ _ _ _ _ _ _ _ _ _ _ _ _ _ _ _ _ _ _ _ _ _ _ _ _ _ _ _ _ _ _ _ _ _ _ _ _ _ _ _ _ _ _ _ _ _ _ _ _ _ _ _ _ _ _ _ _ _ _ _ hms2 hf0 hf1 p1 hb2 (hA2.take (by omega))
set_option maxRecDepth 10000
set_option maxHeartbeats 4000000
def bI (c:CutA) (x:Nat→Nat→Int) (i k:Nat):Int:=if c.l1.getD i false && c.l2.getD k false then x i k else 0
theorem zNn (c:CutA) (x:Nat→Nat→Int) (i k:Nat):x i k * inI c i k=bI c x i k:=by
 unfold bI inI
 split <;> simp
theorem zLm {R C:Nat} (c:CutA) {x:Nat→Nat→Int} (hx:∀ i k,i < R→k < C→-(2 ^ 34)≤x i k∧x i k≤2 ^ 34) (hC:C≤8):(∀ i k,i < R→k≤C→-(2 ^ 37)≤sumN k (bI c x i)∧sumN k (bI c x i)≤2 ^ 37)∧∀ i,i≤R→i≤8→-(2 ^ 40)≤(sumN i fun j=>sumN C (bI c x j))∧(sumN i fun j=>sumN C (bI c x j))≤2 ^ 40:=by
 have h1:∀ i k,i < R→k≤C→-(2 ^ 37)≤sumN k (bI c x i)∧sumN k (bI c x i)≤2 ^ 37:=fun i k hi hk=>by
  have:=z7r (n:=k) (B:=2 ^ 34) (f:=bI c x i) fun j hj=>by
   have:=hx i j hi (by omega)
   unfold bI
   split <;> omega
  omega
 refine ⟨h1,fun i hi h8=>?_⟩
 have:=z7r (n:=i) (B:=2 ^ 37) (f:=fun j=>sumN C (bI c x j)) fun j hj=>h1 j C (by omega) (Nat.le_refl _)
 omega
theorem zMS {T:TabV} (hO:T.tab.Mild) {c:CutA} (hc:c.Wf) (h1:c.l1.length=T.tab.R) (h2:c.l2.length=T.tab.C) {P C':Nat} (hC':T.tab.C=C'+1) {x:Nat→Nat→Int} (hx:∀ i k,i < T.tab.R→k < T.tab.C→-(2 ^ 34)≤x i k∧x i k≤2 ^ 34) {H:Heap} (hA:GrAt T c H P C' x) {i:Nat} (hi:i < T.tab.R):∀ (n k:Nat) (j0 j1 j4 j7 j8 j9 j10 j11 j12 j13 j14 j18 j19 j20 j21 j22 j23 j24 j25 j26 j27 j28 j29 j30 j31 j32 j33 j34 j35 j36 j37 j38 j39 j40 j41 j42 j43 j44 j45 j46 j47 j48 j49 j50 j51 j52 j53 j54 j55 j56 j57 j58 j59 j60 j61 j62 j63 j64 j65 j66 j67 j68 j69 j70 j71 j72 j73 j74 j75 j76 j77 j78 j79 j80 j81 j82 j83 j84 j85 j86 j87 j88 j89 j90 j91 j92 j93 j94 j95 j96 j97 j98 j99 j100 j101 j102 j103 j104 j105 j106 j107 j108 j109 j110 j111 j112 j113 j114 j115 j116 j117 j118 j119 j120 j121 j122 j123 j124 j125 j126 j127 j128 j129 j130 j131 j132 j133 j134 j135 j136 j137 j138 j139 j140 j141 j142 j143 j144 j145 j146 j147 j148 j149 j150 j151 j152 j153 j154 j155 j156 j157 j158 j159 j160 j161 j162 j163 j164 j165 j166 j167 j168:AVal),k+n=T.tab.C →
    Goes (execT env (Try.f128.at [1,1,1,1,1,1,0,1,0,0,1,0,0,1,0]) ⟨[j0,j1,.ptr 0 0 0 0,.ptr 1 0 0 0,j4,.ref P T.tab.R 0 T.tab.R false,.int .i64 T.tab.R,j7,j8,j9,j10,j11,j12,j13,j14,.int .i64 ((sumN i fun j=>sumN T.tab.C (bI c x j))+sumN k (bI c x i)),.int .i64 i,.int .i64 k,j18,j19,j20,j21,j22,j23,j24,j25,j26,j27,j28,j29,j30,j31,j32,j33,j34,j35,j36,j37,j38,j39,j40,j41,j42,j43,j44,j45,j46,j47,j48,j49,j50,j51,j52,j53,j54,j55,j56,j57,j58,j59,j60,j61,j62,j63,j64,j65,j66,j67,j68,j69,j70,j71,j72,j73,j74,j75,j76,j77,j78,j79,j80,j81,j82,j83,j84,j85,j86,j87,j88,j89,j90,j91,j92,j93,j94,j95,j96,j97,j98,j99,j100,j101,j102,j103,j104,j105,j106,j107,j108,j109,j110,j111,j112,j113,j114,j115,j116,j117,j118,j119,j120,j121,j122,j123,j124,j125,j126,j127,j128,j129,j130,j131,j132,j133,j134,j135,j136,j137,j138,j139,j140,j141,j142,j143,j144,j145,j146,j147,j148,j149,j150,j151,j152,j153,j154,j155,j156,j157,j158,j159,j160,j161,j162,j163,j164,j165,j166,j167,j168],H,[],0,[]⟩) fun ex st=>
     ex=.exit 8∧FrP 169 [(2,.ptr 0 0 0 0),(3,.ptr 1 0 0 0),(5,.ref P T.tab.R 0 T.tab.R false),(6,.int .i64 T.tab.R),(15,.int .i64 ((sumN i fun j=>sumN T.tab.C (bI c x j))+sumN T.tab.C (bI c x i))),(16,.int .i64 i)] H [] 0 [] st:=by
 have hR8:=hO.R8
 have hC8:=hO.C8
 have lc:(T.cols.l.map spV).length=T.tab.C:=by rw [List.length_map];rfl
 obtain ⟨b1,b2⟩:=zLm c hx hC8
 intro n
 induction n with
 | zero=>
   intro k;intros;rename_i hk
   have hd:decide ((k:Int) < (T.tab.C:Int))=false:=by simp;omega
   have hk':k=T.tab.C:=by omega
   have h0:=hA.own
   subst hk'
   simp only [go_sem,simprocAttr,Try.f128]
   rw [exec_loop]
   simp only [go_sem,simprocAttr,h0,lc,hd]
   exact frP (by kernel_rfl)
 | succ n ih=>
   intro k;intros;rename_i hk
   have hkC:k < T.tab.C:=by omega
   have hd:decide ((k:Int) < (T.tab.C:Int))=true:=by simp;omega
   have k0:(0:Int)≤(k:Int):=by omega
   have i0:(0:Int)≤(i:Int):=by omega
   have dR:decide ((i:Int) < (T.tab.R:Int))=true:=by simp;omega
   have dK:decide ((k:Int) < ((C'+1:Nat):Int))=true:=by simp;omega
   have h0:=hA.own
   have hcu:=hA.cut
   have hacc:=hA.mat.acc
   have hrow:=hA.mat.row i hi
   have hAl:=hA.len
   have hAb:=hA.big
   have hva:(vecA T.tab.R fun j=>AVal.ref (P+1+j) C' 0 (C'+1) false)[i]?=some (.ref (P+1+i) C' 0 (C'+1) false):=vecA_get _ hi
   have hgx:(intsV (C'+1) (x i))[k]?=some (.int .i64 (x i k)):=z0b (by omega)
   have icl:=z8F hc (i:=i) (k:=k) (by omega) (by omega)
   have bb1:=b1 i k hi (by omega)
   have bb2:=b2 i (by omega) (by omega)
   have bb3:=hx i k hi hkC
   have wm:IntKind.i64.wrap (x i k * inI c i k)=bI c x i k:=by
    rw [zNn]
    exact i64_in _ (by unfold bI;split <;> omega)
   have bb4:=b1 i (k+1) hi (by omega)
   have es:sumN (k+1) (bI c x i)=sumN k (bI c x i)+bI c x i k:=rfl
   have wa:IntKind.i64.wrap ((sumN i fun j=>sumN T.tab.C (bI c x j))+sumN k (bI c x i)+bI c x i k)=(sumN i fun j=>sumN T.tab.C (bI c x j))+sumN (k+1) (bI c x i):=by rw [i64_in _ (by omega)];omega
   have y0:decide (1 < H.length)=true:=decide_eq_true (by omega)
   have y1:decide (P < H.length)=true:=decide_eq_true (by omega)
   have y2:decide (P+1+i < H.length)=true:=decide_eq_true (by omega)
   have htr:∀ Tm,trunc H.length ⟨Tm,H,[],0,[]⟩=⟨Tm,H,[],0,[]⟩:=fun Tm=>z3z (Nat.le_refl _)
   have ih':=ih (k+1)
   simp only [go_sem,simprocAttr,Try.f128] at ih' ⊢
   rw [exec_loop]
   simp only [go_sem,simprocAttr,hd,h0,hcu,hacc,hrow,hva,hgx,k0,i0,dR,dK,Int.toNat_natCast,lc,icl,wm,wa,y0,y1,y2]
   simp only [go_sem,simprocAttr,htr,z00 (show k < 2 ^ 63 - 1 by omega)]
   exact ih' _ _ _ _ _ _ _ _ _ _ _ _ _ _ _ _ _ _ _ _ _ _ _ _ _ _ _ _ _ _ _ _ _ _ _ _ _ _ _ _ _ _ _ _ _ _ _ _ _ _ _ _ _ _ _ _ _ _ _ _ _ _ _ _ _ _ _ _ _ _ _ _ _ _ _ _ _ _ _ _ _ _ _ _ _ _ _ _ _ _ _ _ _ _ _ _ _ _ _ _ _ _ _ _ _ _ _ _ _ _ _ _ _ _ _ _ _ _ _ _ _ _ _ _ _ _ _ _ _ _ _ _ _ _ _ _ _ _ _ _ _ _ _ _ _ _ _ _ _ _ _ _ _ _ _ _ _ _ _ _ _ _ (by omega)
theorem zMT {T:TabV} (hO:T.tab.Mild) {c:CutA} (hc:c.Wf) (h1:c.l1.length=T.tab.R) (h2:c.l2.length=T.tab.C) {P C':Nat} (hC':T.tab.C=C'+1) {x:Nat→Nat→Int} (hx:∀ i k,i < T.tab.R→k < T.tab.C→-(2 ^ 34)≤x i k∧x i k≤2 ^ 34) {H:Heap} (hA:GrAt T c H P C' x):∀ (n i:Nat) (j0 j1 j4 j7 j8 j9 j10 j11 j12 j13 j14 j17 j18 j19 j20 j21 j22 j23 j24 j25 j26 j27 j28 j29 j30 j31 j32 j33 j34 j35 j36 j37 j38 j39 j40 j41 j42 j43 j44 j45 j46 j47 j48 j49 j50 j51 j52 j53 j54 j55 j56 j57 j58 j59 j60 j61 j62 j63 j64 j65 j66 j67 j68 j69 j70 j71 j72 j73 j74 j75 j76 j77 j78 j79 j80 j81 j82 j83 j84 j85 j86 j87 j88 j89 j90 j91 j92 j93 j94 j95 j96 j97 j98 j99 j100 j101 j102 j103 j104 j105 j106 j107 j108 j109 j110 j111 j112 j113 j114 j115 j116 j117 j118 j119 j120 j121 j122 j123 j124 j125 j126 j127 j128 j129 j130 j131 j132 j133 j134 j135 j136 j137 j138 j139 j140 j141 j142 j143 j144 j145 j146 j147 j148 j149 j150 j151 j152 j153 j154 j155 j156 j157 j158 j159 j160 j161 j162 j163 j164 j165 j166 j167 j168:AVal),i+n=T.tab.R →
    Goes (execT env (Try.f128.at [1,1,1,1,1,1,0,1,0]) ⟨[j0,j1,.ptr 0 0 0 0,.ptr 1 0 0 0,j4,.ref P T.tab.R 0 T.tab.R false,.int .i64 T.tab.R,j7,j8,j9,j10,j11,j12,j13,j14,.int .i64 (sumN i fun j=>sumN T.tab.C (bI c x j)),.int .i64 i,j17,j18,j19,j20,j21,j22,j23,j24,j25,j26,j27,j28,j29,j30,j31,j32,j33,j34,j35,j36,j37,j38,j39,j40,j41,j42,j43,j44,j45,j46,j47,j48,j49,j50,j51,j52,j53,j54,j55,j56,j57,j58,j59,j60,j61,j62,j63,j64,j65,j66,j67,j68,j69,j70,j71,j72,j73,j74,j75,j76,j77,j78,j79,j80,j81,j82,j83,j84,j85,j86,j87,j88,j89,j90,j91,j92,j93,j94,j95,j96,j97,j98,j99,j100,j101,j102,j103,j104,j105,j106,j107,j108,j109,j110,j111,j112,j113,j114,j115,j116,j117,j118,j119,j120,j121,j122,j123,j124,j125,j126,j127,j128,j129,j130,j131,j132,j133,j134,j135,j136,j137,j138,j139,j140,j141,j142,j143,j144,j145,j146,j147,j148,j149,j150,j151,j152,j153,j154,j155,j156,j157,j158,j159,j160,j161,j162,j163,j164,j165,j166,j167,j168],H,[],0,[]⟩) fun ex st=>
     ex=.exit 6∧FrP 169 [(15,.int .i64 (sumN T.tab.R fun j=>sumN T.tab.C (bI c x j)))] H [] 0 [] st:=by
 have hR8:=hO.R8
 have hC8:=hO.C8
 intro n
 induction n with
 | zero=>
   intro i;intros;rename_i hi
   have hd:decide ((i:Int) < (T.tab.R:Int))=false:=by simp;omega
   have hi':i=T.tab.R:=by omega
   subst hi'
   simp only [go_sem,simprocAttr,Try.f128]
   rw [exec_loop]
   simp only [go_sem,simprocAttr,hd]
   exact frP (by kernel_rfl)
 | succ n ih=>
   intro i;intros;rename_i hi
   have hiR:i < T.tab.R:=by omega
   have hd:decide ((i:Int) < (T.tab.R:Int))=true:=by simp;omega
   obtain ⟨ex,st,hxx,hp⟩:=zMS hO hc h1 h2 hC' hx hA hiR T.tab.C 0 _ _ _ _ _ _ _ _ _ _ _ _ _ _ _ _ _ _ _ _ _ _ _ _ _ _ _ _ _ _ _ _ _ _ _ _ _ _ _ _ _ _ _ _ _ _ _ _ _ _ _ _ _ _ _ _ _ _ _ _ _ _ _ _ _ _ _ _ _ _ _ _ _ _ _ _ _ _ _ _ _ _ _ _ _ _ _ _ _ _ _ _ _ _ _ _ _ _ _ _ _ _ _ _ _ _ _ _ _ _ _ _ _ _ _ _ _ _ _ _ _ _ _ _ _ _ _ _ _ _ _ _ _ _ _ _ _ _ _ _ _ _ _ _ _ _ _ _ _ _ _ _ _ _ _ _ _ _ _ _ _ _ (by omega)
   obtain ⟨rfl,jp,rfl⟩:=hp
   have s0:sumN 0 (bI c x i)=0:=rfl
   have es:(sumN (i+1) fun j=>sumN T.tab.C (bI c x j))=(sumN i fun j=>sumN T.tab.C (bI c x j))+sumN T.tab.C (bI c x i):=rfl
   rw [s0,Int.add_zero,← es] at hxx
   have htr:∀ Tm,trunc H.length ⟨Tm,H,[],0,[]⟩=⟨Tm,H,[],0,[]⟩:=fun Tm=>z3z (Nat.le_refl _)
   have ih':=ih (i+1)
   simp only [go_sem,simprocAttr,Try.f128,Int.ofNat_zero,Int.natCast_zero] at hxx
   simp only [go_sem,simprocAttr,Try.f128] at ih' ⊢
   rw [exec_loop]
   simp only [go_sem,simprocAttr,hd]
   rw [hxx]
   simp only [go_sem,simprocAttr,htr,z00 (show i < 2 ^ 63 - 1 by omega)]
   exact ih' _ _ _ _ _ _ _ _ _ _ _ _ _ _ _ _ _ _ _ _ _ _ _ _ _ _ _ _ _ _ _ _ _ _ _ _ _ _ _ _ _ _ _ _ _ _ _ _ _ _ _ _ _ _ _ _ _ _ _ _ _ _ _ _ _ _ _ _ _ _ _ _ _ _ _ _ _ _ _ _ _ _ _ _ _ _ _ _ _ _ _ _ _ _ _ _ _ _ _ _ _ _ _ _ _ _ _ _ _ _ _ _ _ _ _ _ _ _ _ _ _ _ _ _ _ _ _ _ _ _ _ _ _ _ _ _ _ _ _ _ _ _ _ _ _ _ _ _ _ _ _ _ _ _ _ _ _ _ _ _ _ _ _ (by omega)
theorem MatAt.shift {H':Heap} {P R C':Nat} {x:Nat→Nat→Int} (h:MatAt H' P R C' x) (H0:Heap):MatAt (H0++H'.map (renB (nxF H0.length H'.length))) (H0.length+P) R C' x:=by
 have hg:∀ i,(H0++H'.map (renB (nxF H0.length H'.length)))[H0.length+i]?=(H'[i]?).map (renB (nxF H0.length H'.length)):=fun i=>by
  rw [List.getElem?_append_right (by omega),Nat.add_sub_cancel_left,List.getElem?_map]
 have hr:renL (nxF H0.length H'.length) (vecA R fun j=>AVal.ref (P+1+j) C' 0 (C'+1) false)=vecA R fun j=>AVal.ref (H0.length+P+1+j) C' 0 (C'+1) false:=by
  have gen:∀ l:List Nat,(∀ i ∈ l,i < R)→renL (nxF H0.length H'.length) (l.map fun j=>AVal.ref (P+1+j) C' 0 (C'+1) false)=l.map fun j=>AVal.ref (H0.length+P+1+j) C' 0 (C'+1) false:=by
   intro l
   induction l with
   | nil=>intro _;rfl
   | cons i l ih=>
     intro hl
     have hi:=(List.getElem?_eq_some_iff.1 (h.row i (hl i (by simp)))).1
     have e:nxF H0.length H'.length (P+1+i)=some (H0.length+P+1+i):=by
      unfold nxF
      rw [if_pos hi];congr 1;omega
     simp only [List.map_cons,renL,AVal.ren,ih fun j hj=>hl j (by simp [hj]),e]
  exact gen _ fun i hi=>by rw [List.mem_range] at hi;exact hi
 refine ⟨?_,fun j hj=>?_⟩
 · rw [hg,h.acc]
   simp only [Option.map_some,renB,Bool.false_eq_true,if_false,hr]
 · rw [show H0.length+P+1+j=H0.length+(P+1+j) by omega,hg,h.row j hj];rfl
theorem zDF {T:TabV} (hT:T.Wf) (hO:T.tab.Mild) (hcan:canB T.tab=true) {c:CutA} (hc:c.Wf) (h1:c.l1.length=T.tab.R) (h2:c.l2.length=T.tab.C):∃ (v:Int) (H':Heap),GreatF T.tab (blkM T.tab (fun i=>c.l1.getD i false) fun k=>c.l2.getD k false) v∧runT env 128 [T.v,c.v] [] 0=some (.ret (.int .i64 v),H'):=by
 obtain ⟨C',hC'⟩:∃ C',T.tab.C=C'+1:=⟨T.tab.C - 1,by have:=hO.C1;omega⟩
 have lr:(T.rows.l.map spV).length=T.tab.R:=by rw [List.length_map];rfl
 obtain ⟨H',P,x,hr,hM,hf,hlen⟩:=zHO hT hO hcan hC'
 have hP:=(List.getElem?_eq_some_iff.1 hM.acc).1
 have cl:=z1K (f:=140) rfl rfl rfl z0d hr (w:=.ref P T.tab.R 0 T.tab.R false) (by
  have:(List.range' 0 H'.length).contains P=true:=by simp;omega
  simp only [handBack,this,Bool.or_true,if_true]) 0 [boxT T,.cells 0 2 false [c.v]] 2
 have hsh:=hM.shift [boxT T,.cells 0 2 false [c.v]]
 have H2:([boxT T,.cells 0 2 false [c.v]]:Heap).length=2:=rfl
 rw [H2] at hsh
 have hren:(AVal.ref P T.tab.R 0 T.tab.R false).ren (nxF 2 H'.length)=.ref (2+P) T.tab.R 0 T.tab.R false:=by
  simp only [AVal.ren,nxF,if_pos hP]
 rw [hren] at cl
 have hpu:=z0e (H'.map (renB (nxF 2 H'.length))) [boxT T,.cells 0 2 false [c.v]]
 rw [H2] at hpu
 have hXl:(H'.map (renB (nxF 2 H'.length))).length=H'.length:=List.length_map _
 generalize H'.map (renB (nxF 2 H'.length))=X at cl hsh hpu hXl
 have hA:GrAt T c ([boxT T,.cells 0 2 false [c.v]]++X) (2+P) C' x:=⟨rfl,rfl,hsh,by rw [List.length_append,H2];omega,by omega⟩
 obtain ⟨ex,st,hx,hp⟩:=zPY hT hO hc h1 h2 hC' ((2 ^ 30:Int).toNat+(2 ^ 40 - T.tab.brings (blkL T.tab.C c T.tab.R) x).toNat+1) (2 ^ 30) x _ _ _ _ _ _ _ _ _ _ _ _ _ _ _ _ _ _ _ _ _ _ _ _ _ _ _ _ _ _ _ _ _ _ _ _ _ _ _ _ _ _ _ _ _ _ _ _ _ _ _ _ _ _ _ _ _ _ _ _ _ _ _ _ _ _ _ _ _ _ _ _ _ _ _ _ _ _ _ _ _ _ _ _ _ _ _ _ _ _ _ _ _ _ _ _ _ _ _ _ _ _ _ _ _ _ _ _ _ _ _ _ _ _ _ _ _ _ _ _ _ _ _ _ _ _ _ _ _ _ _ _ _ _ _ _ _ _ _ _ _ _ _ _ _ _ _ _ _ _ _ _ _ _ _ _ _ _ _ _ _ _ _ _ _ (Nat.lt_succ_self _) (by decide) (Int.le_refl _) hf (fun h=>absurd h (by decide)) hA
 obtain ⟨rfl,H3,y,⟨hA3,hfy,hby⟩,jp,rfl⟩:=hp
 have hbx:∀ i k,i < T.tab.R→k < T.tab.C→-(2 ^ 34)≤y i k∧y i k≤2 ^ 34:=fun i k hi hk=>by
  have b1:=hO.cell_ok hi hk
  have b2:=hfy.cell i k hi hk
  omega
 obtain ⟨ex2,st2,hx2,hp2⟩:=zMT hO hc h1 h2 hC' hbx hA3 T.tab.R 0 _ _ _ _ _ _ _ _ _ _ _ _ _ _ _ _ _ _ _ _ _ _ _ _ _ _ _ _ _ _ _ _ _ _ _ _ _ _ _ _ _ _ _ _ _ _ _ _ _ _ _ _ _ _ _ _ _ _ _ _ _ _ _ _ _ _ _ _ _ _ _ _ _ _ _ _ _ _ _ _ _ _ _ _ _ _ _ _ _ _ _ _ _ _ _ _ _ _ _ _ _ _ _ _ _ _ _ _ _ _ _ _ _ _ _ _ _ _ _ _ _ _ _ _ _ _ _ _ _ _ _ _ _ _ _ _ _ _ _ _ _ _ _ _ _ _ _ _ _ _ _ _ _ _ _ _ _ _ _ _ _ _ _ (by omega)
 obtain ⟨rfl,jq,rfl⟩:=hp2
 have s0:(sumN 0 fun j=>sumN T.tab.C (bI c y j))=0:=rfl
 have e30:((2:Int) ^ 30)=1073741824:=rfl
 rw [s0] at hx2
 rw [e30] at hx
 refine ⟨sumN T.tab.R fun j=>sumN T.tab.C (bI c y j),H3,⟨⟨y,hfy,rfl⟩,fun s hs=>?_⟩,?_⟩
 · have:=hby s hs
   rw [z4S,z4S] at this
   exact this
 · simp only [boxT,List.cons_append,List.nil_append] at cl hpu hx
   simp only [go_sem,simprocAttr,Try.f128,Int.ofNat_zero,Int.natCast_zero] at hx hx2
   rw [run_unfold fn128 rfl]
   simp only [go_sem,simprocAttr,Try.f128,cl,hpu,lr]
   rw [hx]
   simp only [go_sem,simprocAttr]
   rw [hx2]
   simp only [go_sem,simprocAttr,unwind,modeEx,resultsOf,one]
theorem z6x {T:TabV} (hT:T.Wf) (hO:T.tab.Mild) (hcan:canB T.tab=true) {c:CutA} (hc:c.Wf) (h1:c.l1.length=T.tab.R) (h2:c.l2.length=T.tab.C):∃ v:Int,GreatF T.tab (blkM T.tab (fun i=>c.l1.getD i false) fun k=>c.l2.getD k false) v∧∀ ro H nx,callT env 128 [T.v,c.v] ro H nx=some (.ret (.int .i64 v),.ups []):=by
 obtain ⟨v,H',hv,h⟩:=zDF hT hO hcan hc h1 h2
 exact ⟨v,hv,fun ro H nx=>call_pure rfl rfl rfl (z3T T c) h rfl ro H nx⟩
set_option maxRecDepth 10000
set_option maxHeartbeats 4000000
structure MirS (t t':Tab) (P:Nat→Prop) (Q:Nat→Nat→Prop) (S:Nat→Prop):Prop where
 R:t'.R=t.R
 C:t'.C=t.C
 len:t'.cells.length=t.R
 wid:∀ l ∈ t'.cells,l.length=t.C
 row:∀ i,i < t.R→P i→t'.row i=(mirT t).row i
 cell:∀ i k,i < t.R→k < t.C→Q i k→t'.cell i k=(mirT t).cell i k
 col:∀ k,k < t.C→S k→t'.col k=(mirT t).col k
theorem MirS.setRow {t t':Tab} {P:Nat→Prop} {Q:Nat→Nat→Prop} {S:Nat→Prop} (h:MirS t t' P Q S) {i:Nat} (hi:i < t.R) {x:Spn} (hx:x=(mirT t).row i):MirS t (t'.setRow i x) (fun j=>P j ∨ j=i) Q S where
 R:=by rw [z3E];exact h.R
 C:=h.C
 len:=h.len
 wid:=h.wid
 row j hj hp:=by
  rw [z39 x (by rw [h.R];exact hi)]
  by_cases e:j=i
  · subst e;rw [if_pos rfl];exact hx
  · rw [if_neg e];exact h.row j hj (hp.resolve_right e)
 cell:=h.cell
 col:=h.col
theorem MirS.setCol {t t':Tab} {P:Nat→Prop} {Q:Nat→Nat→Prop} {S:Nat→Prop} (h:MirS t t' P Q S) {i:Nat} (hi:i < t.C) {x:Spn} (hx:x=(mirT t).col i):MirS t (t'.setCol i x) P Q fun j=>S j ∨ j=i where
 R:=h.R
 C:=by rw [zCx];exact h.C
 len:=h.len
 wid:=h.wid
 row:=h.row
 cell:=h.cell
 col j hj hp:=by
  rw [zBt x (by rw [h.C];exact hi)]
  by_cases e:j=i
  · subst e;rw [if_pos rfl];exact hx
  · rw [if_neg e];exact h.col j hj (hp.resolve_right e)
theorem MirS.setCell {t t':Tab} {P:Nat→Prop} {Q:Nat→Nat→Prop} {S:Nat→Prop} (h:MirS t t' P Q S) {i k:Nat} (hi:i < t.R) (hk:k < t.C) {x:Spn} (hx:x=(mirT t).cell i k):MirS t (t'.setCell i k x) P (fun a b=>Q a b ∨ (a=i∧b=k)) S where
 R:=h.R
 C:=h.C
 len:=by rw [zAR];exact h.len
 wid:=zAS h.wid (by rw [h.len];exact hi) x
 row:=h.row
 cell a b ha hb hq:=by
  rw [z7o h.wid (by rw [h.len];exact hi) hk]
  by_cases e:a=i∧b=k
  · obtain ⟨rfl,rfl⟩:=e;rw [if_pos ⟨rfl,rfl⟩];exact hx
  · rw [if_neg e];exact h.cell a b ha hb (hq.resolve_right e)
 col:=h.col
theorem MirS.mono {t t':Tab} {P P':Nat→Prop} {Q Q':Nat→Nat→Prop} {S S':Nat→Prop} (h:MirS t t' P Q S) (h1:∀ i,P' i→P i) (h2:∀ i k,k < t.C→Q' i k→Q i k) (h3:∀ k,S' k→S k):MirS t t' P' Q' S':=
 ⟨h.R,h.C,h.len,h.wid,fun i a b=>h.row i a (h1 i b),fun i k a b c=>h.cell i k a b (h2 i k b c),fun k a b=>h.col k a (h3 k b)⟩
theorem MirS.all {t t':Tab} (h:MirS t t' (fun i=>i < t.R) (fun i _=>i < t.R) fun k=>k < t.C):t'=mirT t:=by
 refine zLD (by rw [zA5];exact h.R) (by rw [zA4];exact h.C) (n:=t.R) (m:=t.C) ?_ h.len (fun l hl=>?_) h.wid (fun i hi=>?_) (fun k hk=>?_) fun i k hi hk=>h.cell i k hi hk hi
 · show (List.map _ _).length=_;simp
 · obtain ⟨i,_,rfl⟩:=List.mem_map.1 hl
   simp
 · rw [zA5] at hi;exact h.row i hi hi
 · rw [zA4] at hk;exact h.col k hk hk
def hiS (t:Tab) (i k:Nat):Int:=sumN k fun m=>(t.cell i m).hi
def hiC (t:Tab) (k i:Nat):Int:=sumN i fun j=>(t.cell j k).hi
theorem zO6 {t:Tab} (hO:t.Ok) {i:Nat} (hi:i < t.R) {k:Nat} (hk:k≤t.C):0≤hiS t i k∧hiS t i k≤2 ^ 33:=by
 have h:=z1w (n:=k) (f:=fun m=>(t.cell i m).hi) (B:=2 ^ 30) fun m hm=>by have:=hO.cell_ok hi (show m < t.C by omega);omega
 have:=hO.C8
 unfold hiS
 omega
theorem zO5 {t:Tab} (hO:t.Ok) {k:Nat} (hk:k < t.C) {i:Nat} (hi:i≤t.R):0≤hiC t k i∧hiC t k i≤2 ^ 33:=by
 have h:=z1w (n:=i) (f:=fun j=>(t.cell j k).hi) (B:=2 ^ 30) fun j hj=>by have:=hO.cell_ok (show j < t.R by omega) hk;omega
 have:=hO.R8
 unfold hiC
 omega
theorem zMh {T:TabV} (hT:T.Wf) (hO:T.tab.Ok) {B g:Nat} {ps:Nat→Nat} {i:Nat} (hi:i < T.tab.R):∀ (n k:Nat) (H:Heap) (t:Tab) (j0 j7 j8 j9 j10 j11 j12 j13 j14 j15 j16 j17 j18 j19 j20 j21 j22 j23 j24 j25 j26 j27 j28 j29 j30 j31 j32 j33 j34 j35 j36 j37 j38 j39 j40 j41 j42 j43 j44 j45 j46 j47 j48 j49 j50 j51 j52 j53 j54 j55 j56 j57 j58 j59 j60 j61 j62 j63 j64 j65 j66 j67 j68 j69 j70 j71 j72 j73 j74 j75 j76 j77 j78 j79 j80 j81 j82 j83 j84 j85 j86 j87 j88 j89 j90 j91 j92 j93 j94 j95 j96 j97 j98 j99 j100 j101 j102 j103 j104 j105 j106 j107 j108 j109 j110 j111 j112 j113 j114 j115 j116 j117 j118 j119 j120 j121 j122 j123 j124 j125 j126 j127 j128 j129 j130 j131:AVal),k+n=T.tab.C→RcAt T H B g ps t→MirS T.tab t (fun j=>j < i) (fun j m=>j < i ∨ (j=i∧m < k)) (fun _=>False) →
    Goes (execT env (Try.f129.at [1,1,0,1,0,0,1,0,0,1,0,1,0]) ⟨[j0,.ptr 0 0 0 0,.ptr 1 0 0 0,.ptr B 0 0 0,.int .i64 i,.int .i64 (hiS T.tab i k),.int .i64 k,j7,j8,j9,j10,j11,j12,j13,j14,j15,j16,j17,j18,j19,j20,j21,j22,j23,j24,j25,j26,j27,j28,j29,j30,j31,j32,j33,j34,j35,j36,j37,j38,j39,j40,j41,j42,j43,j44,j45,j46,j47,j48,j49,j50,j51,j52,j53,j54,j55,j56,j57,j58,j59,j60,j61,j62,j63,j64,j65,j66,j67,j68,j69,j70,j71,j72,j73,j74,j75,j76,j77,j78,j79,j80,j81,j82,j83,j84,j85,j86,j87,j88,j89,j90,j91,j92,j93,j94,j95,j96,j97,j98,j99,j100,j101,j102,j103,j104,j105,j106,j107,j108,j109,j110,j111,j112,j113,j114,j115,j116,j117,j118,j119,j120,j121,j122,j123,j124,j125,j126,j127,j128,j129,j130,j131],H,[],0,[]⟩) fun ex st=>
     ex=.exit 2∧∃ (H:Heap) (t:Tab),(RcAt T H B g ps t∧MirS T.tab t (fun j=>j < i) (fun j _=>j < i+1) (fun _=>False))∧FrP 132 [(1,.ptr 0 0 0 0),(2,.ptr 1 0 0 0),(3,.ptr B 0 0 0),(4,.int .i64 i),(5,.int .i64 (hiS T.tab i T.tab.C))] H [] 0 [] st:=by
 have hR8:=hO.R8
 have hC8:=hO.C8
 have lc:(T.cols.l.map spV).length=T.tab.C:=by rw [List.length_map];rfl
 have ll:T.cells.length=T.tab.R:=by have:=hO.len;simpa [TabV.tab] using this
 intro n
 induction n with
 | zero=>
   intro k H t;intros;rename_i hk hA hC
   have hd:decide ((k:Int) < (T.tab.C:Int))=false:=by simp;omega
   have h0:=hA.own
   have hk':k=T.tab.C:=by omega
   subst hk'
   simp only [go_sem,simprocAttr,Try.f129]
   rw [exec_loop]
   simp only [go_sem,simprocAttr,h0,lc,hd]
   exact ⟨H,t,⟨hA,hC.mono (P':=fun j=>j < i) (Q':=fun j _=>j < i+1) (S':=fun _=>False) (fun _ h=>h) (fun j m hm h=>by
    have h:j < i+1:=h
    show j < i ∨ (j=i∧m < T.tab.C)
    omega) fun _ h=>h⟩,frP (by kernel_rfl)⟩
 | succ n ih=>
   intro k H t;intros;rename_i hk hA hC
   have hkC:k < T.tab.C:=by omega
   have hd:decide ((k:Int) < (T.tab.C:Int))=true:=by simp;omega
   have k0:(0:Int)≤(k:Int):=by omega
   have i0:(0:Int)≤(i:Int):=by omega
   have dR:decide ((i:Int) < (T.tab.R:Int))=true:=by simp;omega
   obtain ⟨s,_,q1,q2,q3,q4,_⟩:=TabV.at hT hO.mild hi hkC
   have q3:=eq_true q3
   have bc:=hO.cell_ok hi hkC
   have bs:=zO6 hO hi (k:=k) (by omega)
   have w1:IntKind.i64.wrap (hiS T.tab i k+(T.tab.cell i k).hi)=hiS T.tab i (k+1):=i64_in _ (by omega)
   have w2:IntKind.i64.wrap ((T.tab.cell i k).hi - (T.tab.cell i k).lo)=(T.tab.cell i k).hi - (T.tab.cell i k).lo:=i64_in _ (by omega)
   have h0:=hA.own
   have hB:=hA.box
   have hlen:=hA.len
   have hlt:=hA.lt
   have hps:=hA.ps i hi
   have tR:=hC.R
   have tC:=hC.C
   have hit:i < t.R:=by omega
   have hacc:=hA.tab.acc
   rw [tR,tC] at hacc
   have hva:(vecA T.tab.R fun i=>AVal.ref (ps i) 0 0 T.tab.C false)[i]?=some (.ref (ps i) 0 0 T.tab.C false):=vecA_get _ hi
   have hrow:=hA.tab.row i hit
   have l4:=hA.tab.lt.2.2.2 i hit
   have z1:(ps i < H.length)=True:=eq_true l4
   have hrl:(rowA t i).length=T.tab.C:=by rw [z0V (by rw [hC.len,tR]) (by rw [tC];exact hC.wid) hit,tC]
   have hget:=zAM hC.wid (i:=i) (by rw [hC.len];exact hi) hkC
   have wr:∀ y:Spn,z0J (spV y) 0 (.agg [.int .i64 0,.int .i64 ((T.tab.cell i k).hi - (T.tab.cell i k).lo)])=some (spV ⟨0,(T.tab.cell i k).hi - (T.tab.cell i k).lo⟩):=fun _=>rfl
   have hat:=hA.tab.write (k:=k) (by rw [hC.len,tR]) hit ⟨0,(T.tab.cell i k).hi - (T.tab.cell i k).lo⟩
   have hA':=hA.step hat (by omega) (by omega) hps.2
   have hC':=(hC.setCell hi hkC (z7V hi hkC).symm).mono (P':=fun j=>j < i) (Q':=fun j m=>j < i ∨ (j=i∧m < k+1)) (S':=fun _=>False) (fun _ h=>h) (fun j m _ h=>by
    have h:j < i ∨ (j=i∧m < k+1):=h
    show (j < i ∨ (j=i∧m < k)) ∨ (j=i∧m=k)
    omega) fun _ h=>h
   have z2:decide (B < H.length)=true:=decide_eq_true (by omega)
   have z0:decide (0 < H.length)=true:=decide_eq_true (by omega)
   have z3:decide (6 < H.length)=true:=decide_eq_true (by omega)
   have z4:decide (ps i < H.length)=true:=decide_eq_true l4
   have dC:decide ((k:Int) < (T.tab.C:Int))=true:=hd
   have hB:H[B]?=some (.cells 0 3 false [.agg [.ref 4 1 0 T.tab.R false,.ref 5 1 0 T.tab.C false,.ref 6 g 0 T.tab.R false]]):=hB
   have ih':=ih (k+1)
   simp only [go_sem,simprocAttr,Try.f129] at ih' ⊢
   rw [exec_loop]
   simp only [go_sem,simprocAttr,h0,lc,ll,hd,k0,i0,dR,Int.toNat_natCast,List.length_map,q1,q2,q3,q4,w1,w2,hB,hacc,hva,hrow,hrl,hget,wr,hkC,z0,z1,z2,z3,z4,Nat.zero_le,List.length_set]
   rw [apart_ok]
   · simp only [go_sem,simprocAttr,List.length_set,Nat.le_refl,z00 (show k < 2 ^ 63 - 1 by omega)]
     exact ih' _ _ _ _ _ _ _ _ _ _ _ _ _ _ _ _ _ _ _ _ _ _ _ _ _ _ _ _ _ _ _ _ _ _ _ _ _ _ _ _ _ _ _ _ _ _ _ _ _ _ _ _ _ _ _ _ _ _ _ _ _ _ _ _ _ _ _ _ _ _ _ _ _ _ _ _ _ _ _ _ _ _ _ _ _ _ _ _ _ _ _ _ _ _ _ _ _ _ _ _ _ _ _ _ _ _ _ _ _ _ _ _ _ _ _ _ _ _ _ _ _ _ _ _ _ _ _ _ (by omega) hA' hC'
   · exact z0C (by kernel_rfl)
theorem zMi {T:TabV} (hT:T.Wf) (hO:T.tab.Ok) {B g:Nat} {ps:Nat→Nat}:∀ (n i:Nat) (H:Heap) (t:Tab) (j0 j5 j6 j7 j8 j9 j10 j11 j12 j13 j14 j15 j16 j17 j18 j19 j20 j21 j22 j23 j24 j25 j26 j27 j28 j29 j30 j31 j32 j33 j34 j35 j36 j37 j38 j39 j40 j41 j42 j43 j44 j45 j46 j47 j48 j49 j50 j51 j52 j53 j54 j55 j56 j57 j58 j59 j60 j61 j62 j63 j64 j65 j66 j67 j68 j69 j70 j71 j72 j73 j74 j75 j76 j77 j78 j79 j80 j81 j82 j83 j84 j85 j86 j87 j88 j89 j90 j91 j92 j93 j94 j95 j96 j97 j98 j99 j100 j101 j102 j103 j104 j105 j106 j107 j108 j109 j110 j111 j112 j113 j114 j115 j116 j117 j118 j119 j120 j121 j122 j123 j124 j125 j126 j127 j128 j129 j130 j131:AVal),i+n=T.tab.R→RcAt T H B g ps t→MirS T.tab t (fun j=>j < i) (fun j _=>j < i) (fun _=>False) →
    Goes (execT env (Try.f129.at [1,1,0,1,0]) ⟨[j0,.ptr 0 0 0 0,.ptr 1 0 0 0,.ptr B 0 0 0,.int .i64 i,j5,j6,j7,j8,j9,j10,j11,j12,j13,j14,j15,j16,j17,j18,j19,j20,j21,j22,j23,j24,j25,j26,j27,j28,j29,j30,j31,j32,j33,j34,j35,j36,j37,j38,j39,j40,j41,j42,j43,j44,j45,j46,j47,j48,j49,j50,j51,j52,j53,j54,j55,j56,j57,j58,j59,j60,j61,j62,j63,j64,j65,j66,j67,j68,j69,j70,j71,j72,j73,j74,j75,j76,j77,j78,j79,j80,j81,j82,j83,j84,j85,j86,j87,j88,j89,j90,j91,j92,j93,j94,j95,j96,j97,j98,j99,j100,j101,j102,j103,j104,j105,j106,j107,j108,j109,j110,j111,j112,j113,j114,j115,j116,j117,j118,j119,j120,j121,j122,j123,j124,j125,j126,j127,j128,j129,j130,j131],H,[],0,[]⟩) fun ex st=>
     ex=.exit 0∧∃ (H:Heap) (t:Tab),(RcAt T H B g ps t∧MirS T.tab t (fun j=>j < T.tab.R) (fun j _=>j < T.tab.R) (fun _=>False))∧FrP 132 [(1,.ptr 0 0 0 0),(2,.ptr 1 0 0 0),(3,.ptr B 0 0 0)] H [] 0 [] st:=by
 have hR8:=hO.R8
 have hC8:=hO.C8
 have lr:(T.rows.l.map spV).length=T.tab.R:=by rw [List.length_map];rfl
 intro n
 induction n with
 | zero=>
   intro i H t;intros;rename_i hi hA hC
   have hd:decide ((i:Int) < (T.tab.R:Int))=false:=by simp;omega
   have h0:=hA.own
   have hi':i=T.tab.R:=by omega
   subst hi'
   simp only [go_sem,simprocAttr,Try.f129]
   rw [exec_loop]
   simp only [go_sem,simprocAttr,h0,lr,hd]
   exact ⟨H,t,⟨hA,hC⟩,frP (by kernel_rfl)⟩
 | succ n ih=>
   intro i H t;intros;rename_i hi hA hC
   have hiR:i < T.tab.R:=by omega
   have hd:decide ((i:Int) < (T.tab.R:Int))=true:=by simp;omega
   have i0:(0:Int)≤(i:Int):=by omega
   have h0a:=hA.own
   have hlena:=hA.len
   have hC0:=hC.mono (P':=fun j=>j < i) (Q':=fun j m=>j < i ∨ (j=i∧m < 0)) (S':=fun _=>False) (fun _ h=>h) (fun j m _ h=>by
    have h:j < i ∨ (j=i∧m < 0):=h
    show j < i
    omega) fun _ h=>h
   obtain ⟨e1,s1,hx1,hp1⟩:=zMh hT hO hiR T.tab.C 0 H t _ _ _ _ _ _ _ _ _ _ _ _ _ _ _ _ _ _ _ _ _ _ _ _ _ _ _ _ _ _ _ _ _ _ _ _ _ _ _ _ _ _ _ _ _ _ _ _ _ _ _ _ _ _ _ _ _ _ _ _ _ _ _ _ _ _ _ _ _ _ _ _ _ _ _ _ _ _ _ _ _ _ _ _ _ _ _ _ _ _ _ _ _ _ _ _ _ _ _ _ _ _ _ _ _ _ _ _ _ _ _ _ _ _ _ _ _ _ _ _ _ _ _ _ _ _ (by omega) hA hC0
   obtain ⟨rfl,H2,t2,⟨hA2,hC2⟩,jp,rfl⟩:=hp1
   have h0:=hA2.own
   have hlen:=hA2.len
   have hlt:=hA2.lt
   have tR:=hC2.R
   have hrows:=hA2.tab.rows
   have hget:=z5g (t:=t2) (i:=i) (by omega)
   have hrl:(t2.rows.map spV).length=T.tab.R:=by rw [List.length_map];exact tR
   obtain ⟨gr,hrs⟩:=TabV.rowAt hT hiR
   have hrs:=eq_true hrs
   have br:=hO.row_ok hiR
   have bs:=zO6 hO hiR (k:=T.tab.C) (Nat.le_refl _)
   have w1:IntKind.i64.wrap (hiS T.tab i T.tab.C - (T.tab.row i).hi)=hiS T.tab i T.tab.C - (T.tab.row i).hi:=i64_in _ (by omega)
   have w2:IntKind.i64.wrap (hiS T.tab i T.tab.C - (T.tab.row i).lo)=hiS T.tab i T.tab.C - (T.tab.row i).lo:=i64_in _ (by omega)
   have wr:∀ y:Spn,z0J (spV y) 0 (.agg [.int .i64 (hiS T.tab i T.tab.C - (T.tab.row i).hi),.int .i64 (hiS T.tab i T.tab.C - (T.tab.row i).lo)])=some (spV ⟨hiS T.tab i T.tab.C - (T.tab.row i).hi,hiS T.tab i T.tab.C - (T.tab.row i).lo⟩):=fun _=>rfl
   have hA':=hA2.step (hA2.tab.writeRow i ⟨hiS T.tab i T.tab.C - (T.tab.row i).hi,hiS T.tab i T.tab.C - (T.tab.row i).lo⟩) (by decide) (by decide) (by omega)
   have hC':=(hC2.setRow hiR (x:=⟨hiS T.tab i T.tab.C - (T.tab.row i).hi,hiS T.tab i T.tab.C - (T.tab.row i).lo⟩) (z99 hiR).symm).mono (P':=fun j=>j < i+1) (Q':=fun j _=>j < i+1) (S':=fun _=>False) (fun j h=>by
    have h:j < i+1:=h
    show j < i ∨ j=i
    omega) (fun j m _ h=>h) fun _ h=>h
   have hB:H2[B]?=some (.cells 0 3 false [.agg [.ref 4 1 0 T.tab.R false,.ref 5 1 0 T.tab.C false,.ref 6 g 0 T.tab.R false]]):=hA2.box
   have z0:decide (0 < H2.length)=true:=decide_eq_true (by omega)
   have z1:(4 < H2.length)=True:=eq_true (by omega)
   have z2:decide (B < H2.length)=true:=decide_eq_true (by omega)
   have z3:decide (4 < H2.length)=true:=decide_eq_true (by omega)
   have hl2:H2.length=H.length:=by omega
   have s00:hiS T.tab i 0=0:=rfl
   rw [s00] at hx1
   have ih':=ih (i+1)
   simp only [go_sem,simprocAttr,Try.f129,Int.ofNat_zero,Int.natCast_zero] at hx1
   simp only [go_sem,simprocAttr,Try.f129] at ih' ⊢
   rw [exec_loop]
   simp only [go_sem,simprocAttr,h0a,lr,hd]
   rw [hx1]
   simp only [go_sem,simprocAttr,h0,lr,i0,hd,Int.toNat_natCast,gr,hrs,w1,w2,hB,hrows,hrl,hget,wr,hiR,z0,z1,z2,z3,Nat.zero_le,List.length_set]
   rw [apart_ok]
   · simp only [go_sem,simprocAttr,List.length_set,hl2,Nat.le_refl,z00 (show i < 2 ^ 63 - 1 by omega)]
     exact ih' _ _ _ _ _ _ _ _ _ _ _ _ _ _ _ _ _ _ _ _ _ _ _ _ _ _ _ _ _ _ _ _ _ _ _ _ _ _ _ _ _ _ _ _ _ _ _ _ _ _ _ _ _ _ _ _ _ _ _ _ _ _ _ _ _ _ _ _ _ _ _ _ _ _ _ _ _ _ _ _ _ _ _ _ _ _ _ _ _ _ _ _ _ _ _ _ _ _ _ _ _ _ _ _ _ _ _ _ _ _ _ _ _ _ _ _ _ _ _ _ _ _ _ _ _ _ _ _ _ _ (by omega) hA' hC'
   · exact z0C (by kernel_rfl)
theorem zKT {T:TabV} (hT:T.Wf) (hO:T.tab.Ok) {B:Nat} {H:Heap} (h0:H[0]?=some (.cells 0 3 false [T.v])) {k:Nat} (hk:k < T.tab.C):∀ (n i:Nat) (j0 j4 j5 j6 j10 j11 j12 j13 j14 j15 j16 j17 j18 j19 j20 j21 j22 j23 j24 j25 j26 j27 j28 j29 j30 j31 j32 j33 j34 j35 j36 j37 j38 j39 j40 j41 j42 j43 j44 j45 j46 j47 j48 j49 j50 j51 j52 j53 j54 j55 j56 j57 j58 j59 j60 j61 j62 j63 j64 j65 j66 j67 j68 j69 j70 j71 j72 j73 j74 j75 j76 j77 j78 j79 j80 j81 j82 j83 j84 j85 j86 j87 j88 j89 j90 j91 j92 j93 j94 j95 j96 j97 j98 j99 j100 j101 j102 j103 j104 j105 j106 j107 j108 j109 j110 j111 j112 j113 j114 j115 j116 j117 j118 j119 j120 j121 j122 j123 j124 j125 j126 j127 j128 j129 j130 j131:AVal),i+n=T.tab.R →
    Goes (execT env (Try.f129.at [1,1,1,0,1,0,0,1,0,0,1,0,1,0]) ⟨[j0,.ptr 0 0 0 0,.ptr 1 0 0 0,.ptr B 0 0 0,j4,j5,j6,.int .i64 k,.int .i64 (hiC T.tab k i),.int .i64 i,j10,j11,j12,j13,j14,j15,j16,j17,j18,j19,j20,j21,j22,j23,j24,j25,j26,j27,j28,j29,j30,j31,j32,j33,j34,j35,j36,j37,j38,j39,j40,j41,j42,j43,j44,j45,j46,j47,j48,j49,j50,j51,j52,j53,j54,j55,j56,j57,j58,j59,j60,j61,j62,j63,j64,j65,j66,j67,j68,j69,j70,j71,j72,j73,j74,j75,j76,j77,j78,j79,j80,j81,j82,j83,j84,j85,j86,j87,j88,j89,j90,j91,j92,j93,j94,j95,j96,j97,j98,j99,j100,j101,j102,j103,j104,j105,j106,j107,j108,j109,j110,j111,j112,j113,j114,j115,j116,j117,j118,j119,j120,j121,j122,j123,j124,j125,j126,j127,j128,j129,j130,j131],H,[],0,[]⟩) fun ex st=>
     ex=.exit 6∧FrP 132 [(1,.ptr 0 0 0 0),(2,.ptr 1 0 0 0),(3,.ptr B 0 0 0),(7,.int .i64 k),(8,.int .i64 (hiC T.tab k T.tab.R))] H [] 0 [] st:=by
 have hR8:=hO.R8
 have hC8:=hO.C8
 have lr:(T.rows.l.map spV).length=T.tab.R:=by rw [List.length_map];rfl
 have ll:T.cells.length=T.tab.R:=by have:=hO.len;simpa [TabV.tab] using this
 intro n
 induction n with
 | zero=>
   intro i;intros;rename_i hi
   have hd:decide ((i:Int) < (T.tab.R:Int))=false:=by simp;omega
   have hi':i=T.tab.R:=by omega
   subst hi'
   simp only [go_sem,simprocAttr,Try.f129]
   rw [exec_loop]
   simp only [go_sem,simprocAttr,h0,lr,hd]
   exact frP (by kernel_rfl)
 | succ n ih=>
   intro i;intros;rename_i hi
   have hiR:i < T.tab.R:=by omega
   have hd:decide ((i:Int) < (T.tab.R:Int))=true:=by simp;omega
   have k0:(0:Int)≤(k:Int):=by omega
   have i0:(0:Int)≤(i:Int):=by omega
   obtain ⟨s,_,q1,q2,q3,q4,_⟩:=TabV.at hT hO.mild hiR hk
   have q3:=eq_true q3
   have bc:=hO.cell_ok hiR hk
   have bs:=zO5 hO hk (i:=i) (by omega)
   have w1:IntKind.i64.wrap (hiC T.tab k i+(T.tab.cell i k).hi)=hiC T.tab k (i+1):=i64_in _ (by omega)
   have ih':=ih (i+1)
   simp only [go_sem,simprocAttr,Try.f129] at ih' ⊢
   rw [exec_loop]
   simp only [go_sem,simprocAttr,h0,lr,ll,hd,k0,i0,Int.toNat_natCast,List.length_map,q1,q2,q3,q4,w1,Nat.le_refl,z00 (show i < 2 ^ 63 - 1 by omega)]
   exact ih' _ _ _ _ _ _ _ _ _ _ _ _ _ _ _ _ _ _ _ _ _ _ _ _ _ _ _ _ _ _ _ _ _ _ _ _ _ _ _ _ _ _ _ _ _ _ _ _ _ _ _ _ _ _ _ _ _ _ _ _ _ _ _ _ _ _ _ _ _ _ _ _ _ _ _ _ _ _ _ _ _ _ _ _ _ _ _ _ _ _ _ _ _ _ _ _ _ _ _ _ _ _ _ _ _ _ _ _ _ _ _ _ _ _ _ _ _ _ _ _ _ _ _ _ _ _ (by omega)
theorem zPv {T:TabV} (hT:T.Wf) (hO:T.tab.Ok) {B g:Nat} {ps:Nat→Nat}:∀ (n k:Nat) (H:Heap) (t:Tab) (j0 j4 j5 j6 j8 j9 j10 j11 j12 j13 j14 j15 j16 j17 j18 j19 j20 j21 j22 j23 j24 j25 j26 j27 j28 j29 j30 j31 j32 j33 j34 j35 j36 j37 j38 j39 j40 j41 j42 j43 j44 j45 j46 j47 j48 j49 j50 j51 j52 j53 j54 j55 j56 j57 j58 j59 j60 j61 j62 j63 j64 j65 j66 j67 j68 j69 j70 j71 j72 j73 j74 j75 j76 j77 j78 j79 j80 j81 j82 j83 j84 j85 j86 j87 j88 j89 j90 j91 j92 j93 j94 j95 j96 j97 j98 j99 j100 j101 j102 j103 j104 j105 j106 j107 j108 j109 j110 j111 j112 j113 j114 j115 j116 j117 j118 j119 j120 j121 j122 j123 j124 j125 j126 j127 j128 j129 j130 j131:AVal),k+n=T.tab.C→RcAt T H B g ps t→MirS T.tab t (fun j=>j < T.tab.R) (fun j _=>j < T.tab.R) (fun j=>j < k) →
    Goes (execT env (Try.f129.at [1,1,1,0,1,0]) ⟨[j0,.ptr 0 0 0 0,.ptr 1 0 0 0,.ptr B 0 0 0,j4,j5,j6,.int .i64 k,j8,j9,j10,j11,j12,j13,j14,j15,j16,j17,j18,j19,j20,j21,j22,j23,j24,j25,j26,j27,j28,j29,j30,j31,j32,j33,j34,j35,j36,j37,j38,j39,j40,j41,j42,j43,j44,j45,j46,j47,j48,j49,j50,j51,j52,j53,j54,j55,j56,j57,j58,j59,j60,j61,j62,j63,j64,j65,j66,j67,j68,j69,j70,j71,j72,j73,j74,j75,j76,j77,j78,j79,j80,j81,j82,j83,j84,j85,j86,j87,j88,j89,j90,j91,j92,j93,j94,j95,j96,j97,j98,j99,j100,j101,j102,j103,j104,j105,j106,j107,j108,j109,j110,j111,j112,j113,j114,j115,j116,j117,j118,j119,j120,j121,j122,j123,j124,j125,j126,j127,j128,j129,j130,j131],H,[],0,[]⟩) fun ex st=>
     ex=.exit 4∧∃ (H:Heap) (t:Tab),(RcAt T H B g ps t∧t=mirT T.tab)∧FrP 132 [(1,.ptr 0 0 0 0),(2,.ptr 1 0 0 0),(3,.ptr B 0 0 0)] H [] 0 [] st:=by
 have hR8:=hO.R8
 have hC8:=hO.C8
 have lc:(T.cols.l.map spV).length=T.tab.C:=by rw [List.length_map];rfl
 intro n
 induction n with
 | zero=>
   intro k H t;intros;rename_i hk hA hC
   have hd:decide ((k:Int) < (T.tab.C:Int))=false:=by simp;omega
   have h0:=hA.own
   have hk':k=T.tab.C:=by omega
   subst hk'
   simp only [go_sem,simprocAttr,Try.f129]
   rw [exec_loop]
   simp only [go_sem,simprocAttr,h0,lc,hd]
   exact ⟨H,t,⟨hA,hC.all⟩,frP (by kernel_rfl)⟩
 | succ n ih=>
   intro k H t;intros;rename_i hk hA hC
   have hkC:k < T.tab.C:=by omega
   have hd:decide ((k:Int) < (T.tab.C:Int))=true:=by simp;omega
   have k0:(0:Int)≤(k:Int):=by omega
   have h0:=hA.own
   obtain ⟨e1,s1,hx1,hp1⟩:=zKT hT hO (B:=B) h0 hkC T.tab.R 0 _ _ _ _ _ _ _ _ _ _ _ _ _ _ _ _ _ _ _ _ _ _ _ _ _ _ _ _ _ _ _ _ _ _ _ _ _ _ _ _ _ _ _ _ _ _ _ _ _ _ _ _ _ _ _ _ _ _ _ _ _ _ _ _ _ _ _ _ _ _ _ _ _ _ _ _ _ _ _ _ _ _ _ _ _ _ _ _ _ _ _ _ _ _ _ _ _ _ _ _ _ _ _ _ _ _ _ _ _ _ _ _ _ _ _ _ _ _ _ _ _ _ _ _ _ _ (by omega)
   obtain ⟨rfl,jp,rfl⟩:=hp1
   have hlen:=hA.len
   have hlt:=hA.lt
   have tC:=hC.C
   have hcols:=hA.tab.cols
   have hget:=z9Z (t:=t) (i:=k) (by omega)
   have hrl:(t.cols.map spV).length=T.tab.C:=by rw [List.length_map];exact tC
   obtain ⟨gc,hcs⟩:=TabV.colAt hT hkC
   have hcs:=eq_true hcs
   have br:=hO.col_ok hkC
   have bs:=zO5 hO hkC (i:=T.tab.R) (Nat.le_refl _)
   have w1:IntKind.i64.wrap (hiC T.tab k T.tab.R - (T.tab.col k).hi)=hiC T.tab k T.tab.R - (T.tab.col k).hi:=i64_in _ (by omega)
   have w2:IntKind.i64.wrap (hiC T.tab k T.tab.R - (T.tab.col k).lo)=hiC T.tab k T.tab.R - (T.tab.col k).lo:=i64_in _ (by omega)
   have wr:∀ y:Spn,z0J (spV y) 0 (.agg [.int .i64 (hiC T.tab k T.tab.R - (T.tab.col k).hi),.int .i64 (hiC T.tab k T.tab.R - (T.tab.col k).lo)])=some (spV ⟨hiC T.tab k T.tab.R - (T.tab.col k).hi,hiC T.tab k T.tab.R - (T.tab.col k).lo⟩):=fun _=>rfl
   have hA':=hA.step (hA.tab.writeCol k ⟨hiC T.tab k T.tab.R - (T.tab.col k).hi,hiC T.tab k T.tab.R - (T.tab.col k).lo⟩) (by decide) (by decide) (by omega)
   have hC':=(hC.setCol hkC (x:=⟨hiC T.tab k T.tab.R - (T.tab.col k).hi,hiC T.tab k T.tab.R - (T.tab.col k).lo⟩) (z98 hkC).symm).mono (P':=fun j=>j < T.tab.R) (Q':=fun j _=>j < T.tab.R) (S':=fun j=>j < k+1) (fun _ h=>h) (fun j m _ h=>h) fun j h=>by
    have h:j < k+1:=h
    show j < k ∨ j=k
    omega
   have hB:H[B]?=some (.cells 0 3 false [.agg [.ref 4 1 0 T.tab.R false,.ref 5 1 0 T.tab.C false,.ref 6 g 0 T.tab.R false]]):=hA.box
   have z0:decide (0 < H.length)=true:=decide_eq_true (by omega)
   have z1:(5 < H.length)=True:=eq_true (by omega)
   have z2:decide (B < H.length)=true:=decide_eq_true (by omega)
   have z3:decide (5 < H.length)=true:=decide_eq_true (by omega)
   have s00:hiC T.tab k 0=0:=rfl
   rw [s00] at hx1
   have ih':=ih (k+1)
   simp only [go_sem,simprocAttr,Try.f129,Int.ofNat_zero,Int.natCast_zero] at hx1
   simp only [go_sem,simprocAttr,Try.f129] at ih' ⊢
   rw [exec_loop]
   simp only [go_sem,simprocAttr,h0,lc,hd]
   rw [hx1]
   simp only [go_sem,simprocAttr,h0,lc,k0,hd,Int.toNat_natCast,gc,hcs,w1,w2,hB,hcols,hrl,hget,wr,hkC,z0,z1,z2,z3,Nat.zero_le,List.length_set]
   rw [apart_ok]
   · simp only [go_sem,simprocAttr,List.length_set,Nat.le_refl,z00 (show k < 2 ^ 63 - 1 by omega)]
     exact ih' _ _ _ _ _ _ _ _ _ _ _ _ _ _ _ _ _ _ _ _ _ _ _ _ _ _ _ _ _ _ _ _ _ _ _ _ _ _ _ _ _ _ _ _ _ _ _ _ _ _ _ _ _ _ _ _ _ _ _ _ _ _ _ _ _ _ _ _ _ _ _ _ _ _ _ _ _ _ _ _ _ _ _ _ _ _ _ _ _ _ _ _ _ _ _ _ _ _ _ _ _ _ _ _ _ _ _ _ _ _ _ _ _ _ _ _ _ _ _ _ _ _ _ _ _ _ _ _ _ _ (by omega) hA' hC'
   · exact z0C (by kernel_rfl)
theorem zCj {T:TabV} (hT:T.Wf) (hO:T.tab.Ok) (ro:Nat) (H:Heap) (nx:Nat):callT env 129 [T.v] ro H nx=some (.ret (canon (mirT T.tab)).v,.ups []):=by
 obtain ⟨g,cl⟩:=z2A hT hO.mild
 have cl:=cl 0 [boxT T,.cells 0 3 false [noTab]] 2
 have at0:=z3G hO.mild [boxT T,.cells 0 3 false [noTab]] g
 have H2:([boxT T,.cells 0 3 false [noTab]]:Heap).length=2:=rfl
 rw [H2] at at0
 have hpu:=z0e (cpX T 2 g) [boxT T,.cells 0 3 false [noTab]]
 rw [H2] at hpu
 have hXl:=z9a T 2 g
 have hR1:=hO.R1
 have at1:=at0.more [.cells 0 3 false [memT T.tab 4 5 6 1 1 g]]
 generalize hX:cpX T 2 g=X at cl at0 at1 hpu hXl
 have hA:RcAt T (([boxT T,.cells 0 3 false [noTab]]++X)++[.cells 0 3 false [memT T.tab 4 5 6 1 1 g]]) (X.length+2) g (cpP 2) T.tab:=by
  refine ⟨rfl,rfl,at1,z07 (by rw [List.length_append,H2];omega) _,?_,by omega,fun i hi=>?_⟩
  · simp only [List.length_append,List.length_cons,List.length_nil];omega
  · unfold cpP;omega
 have hM0:MirS T.tab T.tab (fun j=>j < 0) (fun j _=>j < 0) fun _=>False:=⟨rfl,rfl,hO.len,hO.wid,fun _ _ h=>absurd h (Nat.not_lt_zero _),fun _ _ _ _ h=>absurd h (Nat.not_lt_zero _),fun _ _ h=>h.elim⟩
 obtain ⟨e1,s1,hx1,hp1⟩:=zMi hT hO T.tab.R 0 _ _ _ _ _ _ _ _ _ _ _ _ _ _ _ _ _ _ _ _ _ _ _ _ _ _ _ _ _ _ _ _ _ _ _ _ _ _ _ _ _ _ _ _ _ _ _ _ _ _ _ _ _ _ _ _ _ _ _ _ _ _ _ _ _ _ _ _ _ _ _ _ _ _ _ _ _ _ _ _ _ _ _ _ _ _ _ _ _ _ _ _ _ _ _ _ _ _ _ _ _ _ _ _ _ _ _ _ _ _ _ _ _ _ _ _ _ _ _ _ _ _ _ _ _ _ _ _ _ _ (by omega) hA hM0
 obtain ⟨rfl,Ha,ta,⟨hA1,hC1⟩,jp,rfl⟩:=hp1
 obtain ⟨e2,s2,hx2,hp2⟩:=zPv hT hO T.tab.C 0 _ _ _ _ _ _ _ _ _ _ _ _ _ _ _ _ _ _ _ _ _ _ _ _ _ _ _ _ _ _ _ _ _ _ _ _ _ _ _ _ _ _ _ _ _ _ _ _ _ _ _ _ _ _ _ _ _ _ _ _ _ _ _ _ _ _ _ _ _ _ _ _ _ _ _ _ _ _ _ _ _ _ _ _ _ _ _ _ _ _ _ _ _ _ _ _ _ _ _ _ _ _ _ _ _ _ _ _ _ _ _ _ _ _ _ _ _ _ _ _ _ _ _ _ _ _ _ _ _ _ (by omega) hA1 (hC1.mono (P':=fun j=>j < T.tab.R) (Q':=fun j _=>j < T.tab.R) (S':=fun j=>j < 0) (fun _ h=>h) (fun _ _ _ h=>h) fun _ h=>absurd h (Nat.not_lt_zero _))
 obtain ⟨rfl,Hb,tb,⟨hA2,hC2⟩,jq,rfl⟩:=hp2
 have gs:=fun b:Blk=>z07 (X:=X) rfl b
 have ss:=fun b b':Blk=>z0W (X:=X) rfl b b'
 have ls:=fun b:Blk=>z06 (X:=X) rfl b
 have hbx:=hA2.box
 have hbr:=hA2.res
 have hbl:=hA2.len
 have hblt:=hA2.lt
 have z1:(1 < Hb.length)=True:=eq_true (by omega)
 have y3:∀ b,(Hb.set 1 b)[1]?=some b:=fun b=>List.getElem?_set_self (by omega)
 have hrun:runT env 129 [T.v] [] 0=some (.ret (memT T.tab 4 5 6 1 1 g),Hb.set 1 (.cells 0 3 false [memT T.tab 4 5 6 1 1 g])):=by
  simp only [boxT,memT,noTab,List.cons_append,List.nil_append] at cl hpu hbx hbr ⊢
  simp only [go_sem,simprocAttr,Try.f129,boxT,memT,noTab,List.cons_append,List.nil_append,Int.ofNat_zero,Int.natCast_zero] at hx1 hx2
  rw [run_unfold fn129 rfl]
  simp only [go_sem,simprocAttr,Try.f129,cl,hpu,gs,ss,ls,Nat.lt_add_one,Nat.zero_le]
  rw [hx1]
  simp only [go_sem,simprocAttr]
  rw [hx2]
  simp only [go_sem,simprocAttr,hbx,hbr,y3,z1,unwind,modeEx,resultsOf,one]
 have tR:tb.R=T.tab.R:=by rw [hC2,zA5]
 have tC:tb.C=T.tab.C:=by rw [hC2,zA4]
 have yat:TbAt (Hb.set 1 (.cells 0 3 false [memT T.tab 4 5 6 1 1 g])) 4 5 6 1 1 g (cpP 2) tb:=by
  refine hA2.tab.mono fun j hj=>List.getElem?_set_ne ?_
  rcases hj with rfl | rfl | rfl | ⟨m,hm,rfl⟩
  · decide
  · decide
  · decide
  · have:=(hA2.ps m (by omega)).1
    omega
 have hmt:memT T.tab 4 5 6 1 1 g=memT tb 4 5 6 1 1 g:=by unfold memT;rw [tR,tC]
 have hm:=zA6 hO
 have hb:=yat.back (n:=2) (by rw [hC2];exact hm.len) (by rw [hC2];exact hm.wid)
 have hb:handBack (Hb.set 1 (.cells 0 3 false [memT T.tab 4 5 6 1 1 g])) 0 [] 4 (memT T.tab 4 5 6 1 1 g)=some (canon (mirT T.tab)).v:=by rw [hmt] at hb ⊢;rw [← hC2];exact hb
 exact z0o rfl rfl rfl z0d hrun hb rfl ro H nx
set_option maxRecDepth 10000
set_option maxHeartbeats 4000000
def hiX (t:Tab) (i k:Nat):Int:=(t.cell i k).hi
def allB (t:Tab) (c:CutA) (i:Nat):Int:=sumN i fun j=>sumN t.C (bI c (hiX t) j)
def blH (T:TabV) (c:CutA):Heap:=[boxT T,.cells 0 2 false [c.v],.cells 0 2 true [.agg [.int .i64 0,.int .i64 0]]]
theorem zLo {T:TabV} (hT:T.Wf) (hO:T.tab.Ok) {c:CutA} (hc:c.Wf) (h1:c.l1.length=T.tab.R) (h2:c.l2.length=T.tab.C) {i:Nat} (hi:i < T.tab.R):∀ (n k:Nat) (j0 j1 j8 j9 j10 j11 j12 j13 j14 j15 j16 j17 j18 j19 j20 j21 j22 j23 j24 j25 j26 j27 j28 j29 j30 j31 j32 j33 j34 j35 j36 j37 j38 j39 j40 j41 j42 j43 j44 j45 j46 j47:AVal),k+n=T.tab.C →
    Goes (execT env (Try.f93.at [1,1,0,1,0,0,1,0,0,1,0]) ⟨[j0,j1,.ptr 0 0 0 0,.ptr 1 0 0 0,.ptr 2 0 0 0,.int .i64 (allB T.tab c i+sumN k (bI c (hiX T.tab) i)),.int .i64 i,.int .i64 k,j8,j9,j10,j11,j12,j13,j14,j15,j16,j17,j18,j19,j20,j21,j22,j23,j24,j25,j26,j27,j28,j29,j30,j31,j32,j33,j34,j35,j36,j37,j38,j39,j40,j41,j42,j43,j44,j45,j46,j47],blH T c,[],0,[]⟩) fun ex st=>
     ex=.exit 2∧FrP 48 [(2,.ptr 0 0 0 0),(3,.ptr 1 0 0 0),(4,.ptr 2 0 0 0),(5,.int .i64 (allB T.tab c i+sumN T.tab.C (bI c (hiX T.tab) i))),(6,.int .i64 i)] (blH T c) [] 0 [] st:=by
 have hR8:=hO.R8
 have hC8:=hO.C8
 have lc:(T.cols.l.map spV).length=T.tab.C:=by rw [List.length_map];rfl
 have ll:T.cells.length=T.tab.R:=by have:=hO.len;simpa [TabV.tab] using this
 obtain ⟨b1,b2⟩:=zLm (R:=T.tab.R) (C:=T.tab.C) c (x:=hiX T.tab) (fun i k hi hk=>by
  have:=hO.cell_ok hi hk
  unfold hiX
  omega) hC8
 intro n
 induction n with
 | zero=>
   intro k;intros;rename_i hk
   have hd:decide ((k:Int) < (T.tab.C:Int))=false:=by simp;omega
   have hk':k=T.tab.C:=by omega
   subst hk'
   simp only [go_sem,simprocAttr,Try.f93,blH,boxT]
   rw [exec_loop]
   simp only [go_sem,simprocAttr,lc,hd]
   exact frP (by kernel_rfl)
 | succ n ih=>
   intro k;intros;rename_i hk
   have hkC:k < T.tab.C:=by omega
   have hd:decide ((k:Int) < (T.tab.C:Int))=true:=by simp;omega
   have k0:(0:Int)≤(k:Int):=by omega
   have i0:(0:Int)≤(i:Int):=by omega
   have dR:decide ((i:Int) < (T.tab.R:Int))=true:=by simp;omega
   obtain ⟨s,_,q1,q2,q3,q4,_⟩:=TabV.at hT hO.mild hi hkC
   have icl:=z8F hc (i:=i) (k:=k) (by omega) (by omega)
   have bb1:=b1 i k hi (by omega)
   have bb2:=b2 i (by omega) (by omega)
   have bb3:=hO.cell_ok hi hkC
   have wm:IntKind.i64.wrap ((T.tab.cell i k).hi * inI c i k)=bI c (hiX T.tab) i k:=by
    rw [show (T.tab.cell i k).hi * inI c i k=bI c (hiX T.tab) i k from zNn c (hiX T.tab) i k]
    exact i64_in _ (by unfold bI hiX;split <;> omega)
   have bb4:=b1 i (k+1) hi (by omega)
   have es:sumN (k+1) (bI c (hiX T.tab) i)=sumN k (bI c (hiX T.tab) i)+bI c (hiX T.tab) i k:=rfl
   have ea:allB T.tab c i=sumN i fun j=>sumN T.tab.C (bI c (hiX T.tab) j):=rfl
   have wa:IntKind.i64.wrap (allB T.tab c i+sumN k (bI c (hiX T.tab) i)+bI c (hiX T.tab) i k)=allB T.tab c i+sumN (k+1) (bI c (hiX T.tab) i):=by rw [i64_in _ (by omega)];omega
   have ih':=ih (k+1)
   simp only [go_sem,simprocAttr,Try.f93,blH,boxT] at ih' ⊢
   rw [exec_loop]
   simp only [go_sem,simprocAttr,hd,k0,i0,dR,Int.toNat_natCast,lc,ll,q1,q2,q3,q4,icl,wm,wa,List.length_map,z00 (show k < 2 ^ 63 - 1 by omega)]
   exact ih' _ _ _ _ _ _ _ _ _ _ _ _ _ _ _ _ _ _ _ _ _ _ _ _ _ _ _ _ _ _ _ _ _ _ _ _ _ _ _ _ _ _ (by omega)
theorem zLp {T:TabV} (hT:T.Wf) (hO:T.tab.Ok) {c:CutA} (hc:c.Wf) (h1:c.l1.length=T.tab.R) (h2:c.l2.length=T.tab.C):∀ (n i:Nat) (j0 j1 j7 j8 j9 j10 j11 j12 j13 j14 j15 j16 j17 j18 j19 j20 j21 j22 j23 j24 j25 j26 j27 j28 j29 j30 j31 j32 j33 j34 j35 j36 j37 j38 j39 j40 j41 j42 j43 j44 j45 j46 j47:AVal),i+n=T.tab.R →
    Goes (execT env (Try.f93.at [1,1,0,1,0]) ⟨[j0,j1,.ptr 0 0 0 0,.ptr 1 0 0 0,.ptr 2 0 0 0,.int .i64 (allB T.tab c i),.int .i64 i,j7,j8,j9,j10,j11,j12,j13,j14,j15,j16,j17,j18,j19,j20,j21,j22,j23,j24,j25,j26,j27,j28,j29,j30,j31,j32,j33,j34,j35,j36,j37,j38,j39,j40,j41,j42,j43,j44,j45,j46,j47],blH T c,[],0,[]⟩) fun ex st=>
     ex=.exit 0∧FrP 48 [(2,.ptr 0 0 0 0),(3,.ptr 1 0 0 0),(4,.ptr 2 0 0 0),(5,.int .i64 (allB T.tab c T.tab.R))] (blH T c) [] 0 [] st:=by
 have hR8:=hO.R8
 have lr:(T.rows.l.map spV).length=T.tab.R:=by rw [List.length_map];rfl
 intro n
 induction n with
 | zero=>
   intro i;intros;rename_i hi
   have hd:decide ((i:Int) < (T.tab.R:Int))=false:=by simp;omega
   have hi':i=T.tab.R:=by omega
   subst hi'
   simp only [go_sem,simprocAttr,Try.f93,blH,boxT]
   rw [exec_loop]
   simp only [go_sem,simprocAttr,lr,hd]
   exact frP (by kernel_rfl)
 | succ n ih=>
   intro i;intros;rename_i hi
   have hiR:i < T.tab.R:=by omega
   have hd:decide ((i:Int) < (T.tab.R:Int))=true:=by simp;omega
   obtain ⟨ex,st,hxx,hp⟩:=zLo hT hO hc h1 h2 hiR T.tab.C 0 _ _ _ _ _ _ _ _ _ _ _ _ _ _ _ _ _ _ _ _ _ _ _ _ _ _ _ _ _ _ _ _ _ _ _ _ _ _ _ _ _ _ (by omega)
   obtain ⟨rfl,jp,rfl⟩:=hp
   have s0:sumN 0 (bI c (hiX T.tab) i)=0:=rfl
   have es:allB T.tab c (i+1)=allB T.tab c i+sumN T.tab.C (bI c (hiX T.tab) i):=rfl
   rw [s0,Int.add_zero,← es] at hxx
   have ih':=ih (i+1)
   simp only [go_sem,simprocAttr,Try.f93,blH,boxT,Int.ofNat_zero,Int.natCast_zero] at hxx
   simp only [go_sem,simprocAttr,Try.f93,blH,boxT] at ih' ⊢
   rw [exec_loop]
   simp only [go_sem,simprocAttr,lr,hd]
   rw [hxx]
   simp only [go_sem,simprocAttr,z00 (show i < 2 ^ 63 - 1 by omega)]
   exact ih' _ _ _ _ _ _ _ _ _ _ _ _ _ _ _ _ _ _ _ _ _ _ _ _ _ _ _ _ _ _ _ _ _ _ _ _ _ _ _ _ _ _ _ (by omega)
theorem zLw {t:Tab} (h:canB t=true):canB (mirT t)=true:=by
 obtain ⟨s,hs⟩:=z0S.1 h
 exact z0S.2 ⟨mirF t s,zCi.2 hs⟩
theorem zLg (t:Tab) (c:CutA):allB t c t.R=blkM t (fun i=>c.l1.getD i false) (fun k=>c.l2.getD k false) (fun i k=>(t.cell i k).hi):=rfl
theorem zDR {t:Tab} (hO:t.Ok):(canon (mirT t)).Wf:=by
 have hm:=zA6 hO
 exact z1G (by have:=hm.R8;omega) (by have:=hm.C8;omega) hm.len hm.wid
theorem zMR {t:Tab} (hO:t.Mild) {c:CutA} {v:Int} (h:GreatF t (blkM t (fun i=>c.l1.getD i false) fun k=>c.l2.getD k false) v):-(2 ^ 40)≤v∧v≤2 ^ 40:=by
 obtain ⟨⟨s,hf,e⟩,_⟩:=h
 have:=(zLm (R:=t.R) (C:=t.C) c (x:=s) (fun i k hi hk=>by
  have b1:=hO.cell_ok hi hk
  have b2:=hf.cell i k hi hk
  omega) hO.C8).2 t.R (Nat.le_refl _) hO.R8
 rw [← e]
 exact this
theorem zAH {T:TabV} (hT:T.Wf) (hO:T.tab.Ok) (hcan:canB T.tab=true) {c:CutA} (hc:c.Wf) (h1:c.l1.length=T.tab.R) (h2:c.l2.length=T.tab.C):∃ x:Spn,EndsP T.tab (blkM T.tab (fun i=>c.l1.getD i false) fun k=>c.l2.getD k false) x∧∀ ro H nx,callT env 93 [T.v,c.v] ro H nx=some (.ret (spV x),.ups []):=by
 have hm:=zA6 hO
 obtain ⟨v1,g1,cg1⟩:=z6x (T:=canon (mirT T.tab)) (zDR hO) (by rw [z0M];exact hm) (by rw [z0M];exact zLw hcan) hc (by rw [z0M,zA5];exact h1) (by rw [z0M,zA4];exact h2)
 rw [z0M] at g1
 obtain ⟨v2,g2,cg2⟩:=z6x hT hO.mild hcan hc h1 h2
 have mc:=zCj hT hO
 have bd1:=zMR hm g1
 have bd2:=zLm (R:=T.tab.R) (C:=T.tab.C) c (x:=hiX T.tab) (fun i k hi hk=>by
  have:=hO.cell_ok hi hk
  unfold hiX
  omega) hO.C8
 have bd3:=bd2.2 T.tab.R (Nat.le_refl _) hO.R8
 have bd3:-(2 ^ 40)≤allB T.tab c T.tab.R∧allB T.tab c T.tab.R≤2 ^ 40:=bd3
 have wv:IntKind.i64.wrap (allB T.tab c T.tab.R - v1)=allB T.tab c T.tab.R - v1:=i64_in _ (by omega)
 refine ⟨⟨allB T.tab c T.tab.R - v1,v2⟩,by rw [zLg];exact zHU g1 g2,?_⟩
 obtain ⟨ex,st,hx,hp⟩:=zLp hT hO hc h1 h2 T.tab.R 0 _ _ _ _ _ _ _ _ _ _ _ _ _ _ _ _ _ _ _ _ _ _ _ _ _ _ _ _ _ _ _ _ _ _ _ _ _ _ _ _ _ _ _ (by omega)
 obtain ⟨rfl,jp,rfl⟩:=hp
 have a0:allB T.tab c 0=0:=rfl
 have:∃ H',runT env 93 [T.v,c.v] [] 0=some (.ret (spV ⟨allB T.tab c T.tab.R - v1,v2⟩),H'):=by
  simp only [go_sem,simprocAttr,Try.f93,blH,boxT,a0,Int.ofNat_zero,Int.natCast_zero] at hx
  rw [run_unfold fn93 rfl]
  simp only [go_sem,simprocAttr,Try.f93]
  rw [hx]
  simp only [go_sem,simprocAttr,mc,cg1,cg2,wv]
  rw [apart_ok]
  · simp only [go_sem,simprocAttr,unwind,modeEx,resultsOf,one]
    exact ⟨_,rfl⟩
  · exact z0C (by kernel_rfl)
 obtain ⟨H',h⟩:=this
 exact fun ro H nx=>call_pure rfl rfl rfl (z3T T c) h rfl ro H nx
theorem zRo (t:Tab):(askS t 0 0=60∧∀ c,blkS t c=60) ∨ (askS t 0 0=31∧∀ c,blkS t c=31) ∨ (askS t 0 0=0∧t.Ok∧canB t=true):=by
 unfold askS blkS
 cases hok:t.ok with
 | false=>exact .inl ⟨rfl,fun _=>rfl⟩
 | true=>
   cases hcan:canB t with
   | false=>exact .inr (.inl ⟨rfl,fun _=>rfl⟩)
   | true=>
     have hO:=Tab.ok_iff.1 hok
     have hR1:=hO.R1
     have hC1:=hO.C1
     refine .inr (.inr ⟨?_,hO,rfl⟩)
     have ho:outB t 0 0=false:=by
      unfold outB
      rw [show decide ((0:Int) < 0)=false from rfl,decide_eq_false (p:=(t.R:Int)≤0) (by omega),decide_eq_false (p:=(t.C:Int)≤0) (by omega)]
      rfl
     rw [ho];rfl
theorem zFW {T:TabV} (hT:T.Wf) {c:CutA} (hc:c.Wf) {v:AVal} (hv:EndsAns T.tab (blkS T.tab c) (blkL T.tab.C c T.tab.R) v) (ro:Nat) (H:Heap) (nx:Nat):callT env 33 [T.v,c.v] ro H nx=some (.ret v,.ups []):=by
 have rc:=z36 hT 0 0
 have key:∃ H',runT env 33 [T.v,c.v] [] 0=some (.ret v,H'):=by
  rcases zRo T.tab with ⟨ha,hb⟩ | ⟨ha,hb⟩ | ⟨ha,hO,hcan⟩
  · have hv:v=.tuple [.agg [.int .i64 0,.int .i64 0],.int .i64 60]:=by
      rw [hb c] at hv
      rcases hv with ⟨_,h⟩ | ⟨h,_⟩
      · exact h
      · exact absurd h (by decide)
    subst hv
    rw [ha] at rc
    have d0:decide ((60:Int)=0)=false:=by decide
    rw [run_unfold fn33 rfl]
    simp only [go_sem,simprocAttr,Try.f33,rc,d0,unwind,modeEx,resultsOf,one]
    exact ⟨_,rfl⟩
  · have hv:v=.tuple [.agg [.int .i64 0,.int .i64 0],.int .i64 31]:=by
      rw [hb c] at hv
      rcases hv with ⟨_,h⟩ | ⟨h,_⟩
      · exact h
      · exact absurd h (by decide)
    subst hv
    rw [ha] at rc
    have d0:decide ((31:Int)=0)=false:=by decide
    rw [run_unfold fn33 rfl]
    simp only [go_sem,simprocAttr,Try.f33,rc,d0,unwind,modeEx,resultsOf,one]
    exact ⟨_,rfl⟩
  · have hok:=Tab.ok_iff.2 hO
    have hf:=z8T T c
    rw [ha] at rc
    cases hfc:fitC T.tab c with
    | false=>
      have hv:v=.tuple [.agg [.int .i64 0,.int .i64 0],.int .i64 61]:=by
       rw [show blkS T.tab c=61 by unfold blkS;rw [hok,hcan,hfc];rfl] at hv
       rcases hv with ⟨_,h⟩ | ⟨h,_⟩
       · exact h
       · exact absurd h (by decide)
      subst hv
      rw [run_unfold fn33 rfl]
      simp only [go_sem,simprocAttr,Try.f33,rc,hf,hfc,unwind,modeEx,resultsOf,one]
      exact ⟨_,rfl⟩
    | true=>
      obtain ⟨h1,h2⟩:=z3W.1 hfc
      obtain ⟨lo,hi,he,rfl⟩:=hv.zero (by unfold blkS;rw [hok,hcan,hfc];rfl)
      obtain ⟨x,hx,bc⟩:=zAH hT hO hcan hc h1 h2
      have e:x=⟨lo,hi⟩:=hx.unique (EndsP.of he fun s=>z4S T.tab c s) fun _ _=>rfl
      subst e
      simp only [spV] at bc
      rw [run_unfold fn33 rfl]
      simp only [go_sem,simprocAttr,Try.f33,rc,hf,hfc,bc,unwind,modeEx,resultsOf,one]
      exact ⟨_,rfl⟩
 obtain ⟨H',h⟩:=key
 exact call_pure rfl rfl rfl (z3T T c) h hv.pure.2 ro H nx
theorem zGw:∀ n,n < 9→∀ i,i < n→rbit (IntKind.i64.wrap (((2 ^ n:Nat):Int) - 1)) i=true:=by decide +kernel
theorem zFX {T:TabV} (hT:T.Wf) {v:AVal} (hv:EndsAns T.tab (askS T.tab 0 0) (z2N T.tab T.tab.R) v) (ro:Nat) (H:Heap) (nx:Nat):callT env 35 [T.v] ro H nx=some (.ret v,.ups []):=by
 have rc:=z36 hT 0 0
 have key:∃ H',runT env 35 [T.v] [] 0=some (.ret v,H'):=by
  rcases zRo T.tab with ⟨ha,hb⟩ | ⟨ha,hb⟩ | ⟨ha,hO,hcan⟩
  · have hv:v=.tuple [.agg [.int .i64 0,.int .i64 0],.int .i64 60]:=by
      rw [ha] at hv
      rcases hv with ⟨_,h⟩ | ⟨h,_⟩
      · exact h
      · exact absurd h (by decide)
    subst hv
    rw [ha] at rc
    have d0:decide ((60:Int)=0)=false:=by decide
    rw [run_unfold fn35 rfl]
    simp only [go_sem,simprocAttr,Try.f35,rc,d0,unwind,modeEx,resultsOf,one]
    exact ⟨_,rfl⟩
  · have hv:v=.tuple [.agg [.int .i64 0,.int .i64 0],.int .i64 31]:=by
      rw [ha] at hv
      rcases hv with ⟨_,h⟩ | ⟨h,_⟩
      · exact h
      · exact absurd h (by decide)
    subst hv
    rw [ha] at rc
    have d0:decide ((31:Int)=0)=false:=by decide
    rw [run_unfold fn35 rfl]
    simp only [go_sem,simprocAttr,Try.f35,rc,d0,unwind,modeEx,resultsOf,one]
    exact ⟨_,rfl⟩
  · obtain ⟨lo,hi,he,rfl⟩:=hv.zero ha
    rw [ha] at rc
    have hR8:=hO.R8
    have hC8:=hO.C8
    have lr:(T.rows.l.map spV).length=T.tab.R:=by rw [List.length_map];rfl
    have lc:(T.cols.l.map spV).length=T.tab.C:=by rw [List.length_map];rfl
    have o1:=zGw T.tab.R (by omega)
    have o2:=zGw T.tab.C (by omega)
    have s1:=zET hR8
    have s2:=zET hC8
    have wa:∃ a,IntKind.i64.wrap (((2 ^ T.tab.R:Nat):Int) - 1)=a:=⟨_,rfl⟩
    have wb:∃ b,IntKind.i64.wrap (((2 ^ T.tab.C:Nat):Int) - 1)=b:=⟨_,rfl⟩
    obtain ⟨a,wa⟩:=wa
    obtain ⟨b,wb⟩:=wb
    rw [wa] at o1
    rw [wb] at o2
    have cc:=zEB (T:=T) hO.mild a b
    obtain ⟨x,hx,bc⟩:=zAH hT hO hcan (zH2 hO.mild a b) (z18 a T.tab.R) (z18 b T.tab.C)
    have e:x=⟨lo,hi⟩:=hx.unique (EndsP.of he fun s=>z28 T.tab s) fun s _=>by
     rw [← zCB]
     exact z0u (fun i hi=>(z4y hi).trans (o1 i hi)) (fun k hk=>(z4y hk).trans (o2 k hk)) s
    subst e
    simp only [spV] at bc
    rw [run_unfold fn35 rfl]
    simp only [go_sem,simprocAttr,Try.f35,rc,lr,lc,s1,s2,wa,wb,cc,bc]
    rw [apart_ok]
    · simp only [go_sem,simprocAttr,unwind,modeEx,resultsOf,one]
      exact ⟨_,rfl⟩
    · exact z0C (by kernel_rfl)
 obtain ⟨H',h⟩:=key
 exact call_pure rfl rfl rfl rfl h hv.pure.2 ro H nx
theorem zRp (a0 a1:List AVal) (h0:FitT env 8 25 a0) (h1:FitT env 8 28 a1):∃ H',runT env 5 [pack ⟨.struct [(22,0),(22,1),(23,2)],3,72,.agg [.lit true 0 [],.lit true 0 [],.lit true 0 []]⟩ a0,pack ⟨.struct [(26,0),(26,1)],2,48,.agg [.lit true 0 [],.lit true 0 []]⟩ a1] [] 0=some (.ret (.bool true),H'):=by
 obtain ⟨T,hT,e0⟩:=z2T (m:=3) h0
 obtain ⟨c,hc,e1⟩:=z8B (m:=5) h1
 show ∃ H',runT env 5 [.agg a0,.agg a1] [] 0=some (.ret (.bool true),H')
 rw [e0,e1]
 have sc:=z3A T
 obtain ⟨v1,q1,c1⟩:=zBI hT hc
 have c2:=zFW hT hc q1
 obtain ⟨v2,q2,c3⟩:=z4j hT
 have c4:=zFX hT q2
 have form:∀ {code:Int} {l:List Nat} {v:AVal},EndsAns T.tab code l v→∃ x y n:Int,v=.tuple [.agg [.int .i64 x,.int .i64 y],.int .i64 n]:=by
  intro code l v h
  rcases h with ⟨_,rfl⟩ | ⟨_,_,lo,hi,_,rfl⟩
  · exact ⟨0,0,code,rfl⟩
  · exact ⟨lo,hi,0,rfl⟩
 obtain ⟨x1,y1,n1,rfl⟩:=form q1
 obtain ⟨x2,y2,n2,rfl⟩:=form q2
 have dd:∀ n:Int,decide (n=n)=true:=fun n=>decide_eq_true rfl
 have wr:∀ a b x y:Int,z0J (.agg [.int .i64 a,.int .i64 b]) 0 (.agg [.int .i64 x,.int .i64 y])=some (.agg [.int .i64 x,.int .i64 y]):=fun _ _ _ _=>rfl
 have eq:∀ (n by':Nat) (z:AVal) (x y:Int),binOp env .eql 39 ⟨.struct [(3,0),(3,1)],n,by',z⟩ (.agg [.int .i64 x,.int .i64 y]) (.agg [.int .i64 x,.int .i64 y])=some (.bool true):=fun n by' z x y=>by
  have:=z9f n by' z ⟨x,y⟩ ⟨x,y⟩
  simp only [spV] at this
  rw [this];simp
 rw [run_unfold fn5 rfl]
 cases hs:z6R T.tab with
 | false=>
   simp only [go_sem,simprocAttr,Try.f5,sc,hs,unwind,modeEx,resultsOf,one]
   exact ⟨_,rfl⟩
 | true=>
   simp only [go_sem,simprocAttr,Try.f5,sc,hs,c1,c2,c3,c4,wr,eq,dd,unwind,modeEx,resultsOf,one]
   exact ⟨_,rfl⟩
end Go.Proofs.Ytgfejpngfikjiaa.Tidy
