/-
 The tidy machine: what it computes,and that its memory,slices and maps are those of the model.
-/
import GoSem.Step
import Derived.Laws.CopyRow
import Derived.Laws.Cells
import Derived.Calls
import Derived.Laws.Concat
import Derived.Laws.BytesArg
import Derived.Laws.Strings
import Derived.Lib.Strings
set_option linter.all false
namespace Go.Proofs.Ytgfejpngfikjiaa.Tidy
open Go
inductive AVal where
 | bool (b:Bool)
 | int (k:IntKind) (n:Int)
 | str (l:List UInt8)
 | nilptr
 | ptr (id g i f:Nat)
 | lptr (e:AVal) (f:Nat)
 | lit (cl:Bool) (sz:Nat) (es:List AVal)
 | ref (id g i len:Nat) (cl:Bool)
 | view (id g i f len:Nat)
 | mapp (id:Nat)
 | nilmap
 | func (f:Nat) (first cap:List AVal)
 | nilfunc
 | iface (t:Nat) (v:AVal)
 | niliface
 | agg (cs:List AVal)
 | tuple (vs:List AVal)
 | undef
 deriving Inhabited
inductive TyD where
 | bool | int (k:IntKind) | string
 | ptr (e:Nat) | slice (e:Nat) | array (n e:Nat)
 | struct (fs:List (Nat × Nat))
 | map (k e:Nat)
 | func
 | iface
 | other
 deriving DecidableEq
structure TI where
 d:TyD
 sz:Nat
 bytes:Nat
 zero:AVal
def TI.agg (t:TI):Bool:=match t.d with
 | .struct _ | .array _ _=>true
 | _=>false
inductive Blk where
 | cells (g sz:Nat) (flat:Bool) (es:List AVal)
 | map (es:List (AVal × AVal))
 | dead
 | free
abbrev Heap:=List Blk
structure St where
 tmps:List AVal
 H:Heap
 defers:List (Nat × List AVal)
 ro:Nat
 virt:List Nat
abbrev Ups:=List (Nat × Blk)
def putU (H:Heap):Ups→Heap
 | []=>H
 | (id,b) :: us=>putU (if id < H.length then H.set id b else H++[b]) us
inductive Ex where
 | normal | exit (id:Nat) | ret | panic (v:AVal)
inductive CRes where
 | ret (v:AVal)
 | panic (v:AVal)
structure Hint where
 whole:Bool:=false
 ro:Bool:=false
 keepAll:Bool:=false
 keep:List Nat:=[]
 lits:List Nat:=[]
 virt:List Nat:=[]
structure EqTy where
 t:Nat
 agg:Bool
 ds:List TyD
structure Env where
 tys:List TI
 fns:Nat→Option Func
 hint:Nat→Hint
 eqs:List EqTy:=[]
def AVal.oneC:AVal→Bool
 | .agg _ | .tuple _=>false
 | _=>true
def AVal.isTuple:AVal→Bool
 | .tuple _=>true
 | _=>false
def AVal.cellsOf:AVal→List AVal
 | .agg cs=>cs
 | v=>[v]
mutual
def AVal.under (m:Nat):AVal→Bool
 | .ptr id _ _ _ | .ref id _ _ _ _ | .view id _ _ _ _ | .mapp id=>decide (id < m)
 | .func _ a b=>underL m a && underL m b
 | .iface _ v=>AVal.under m v
 | .agg cs | .tuple cs=>underL m cs
 | _=>true
def underL (m:Nat):List AVal→Bool
 | []=>true
 | v :: vs=>AVal.under m v && underL m vs
end
mutual
def AVal.ren (f:Nat→Option Nat):AVal→AVal
 | .ptr id g i o=>match f id with
   | some j=>.ptr j g i o
   | none=>.undef
 | .ref id g i len cl=>match f id with
   | some j=>.ref j g i len cl
   | none=>.undef
 | .view id g i o len=>match f id with
   | some j=>.view j g i o len
   | none=>.undef
 | .mapp id=>match f id with
   | some j=>.mapp j
   | none=>.undef
 | .func h a b=>.func h (renL f a) (renL f b)
 | .iface t v=>.iface t (AVal.ren f v)
 | .agg cs=>.agg (renL f cs)
 | .tuple cs=>.tuple (renL f cs)
 | v=>v
def renL (f:Nat→Option Nat):List AVal→List AVal
 | []=>[]
 | v :: vs=>AVal.ren f v :: renL f vs
end
mutual
def AVal.noLit:AVal→Bool
 | .lit _ _ es=>es.isEmpty
 | .lptr _ _=>false
 | .func _ a b=>z2S a && z2S b
 | .iface _ v=>AVal.noLit v
 | .agg cs | .tuple cs=>z2S cs
 | _=>true
def z2S:List AVal→Bool
 | []=>true
 | v :: vs=>AVal.noLit v && z2S vs
end
mutual
def AVal.refs:AVal→List Nat
 | .ptr id _ _ _ | .ref id _ _ _ _ | .view id _ _ _ _ | .mapp id=>[id]
 | .func _ a b=>refsL a++refsL b
 | .iface _ v=>AVal.refs v
 | .agg cs | .tuple cs=>refsL cs
 | _=>[]
def refsL:List AVal→List Nat
 | []=>[]
 | v :: vs=>AVal.refs v++refsL vs
end
def ofV:Value→Option AVal
 | .bool b=>some (.bool b)
 | .int k n=>some (.int k n)
 | .string s=>some (.str s.data.toList)
 | .pointer none=>some .nilptr
 | .slice none 0 0=>some (.lit true 0 [])
 | .map none=>some .nilmap
 | .nilFunc=>some .nilfunc
 | .nilIface=>some .niliface
 | .tuple ⟨[]⟩=>some (.tuple [])
 | _=>none
def St.eval (s:St):Operand→Option AVal
 | .tmp t=>s.tmps[t]?
 | .const v=>ofV v
 | .func f=>some (.func f [] [])
 | .global _=>none
def St.put (s:St) (dst:Option Nat) (v:AVal):St:=match dst with
 | some d=>{ s with tmps:=s.tmps.set d v }
 | none=>s
section ops
variable (E:Env)
def Env.ti (t:Nat):Option TI:=E.tys[t]?
def part (ti:TI) (cs:List AVal) (off:Nat):Option AVal:=
 if ti.agg then (if off+ti.sz≤cs.length then some (.agg ((cs.drop off).take ti.sz)) else none) else cs[off]?
def zED (ti:TI) (e:AVal) (f:Nat):Option AVal:=part ti e.cellsOf f
def putList (l:List AVal):Nat→List AVal→List AVal
 | _,[]=>l
 | i,v :: vs=>putList (l.set i v) (i+1) vs
def z0J (e:AVal) (f:Nat) (v:AVal):Option AVal:=match e with
 | .agg cs=>if f+v.cellsOf.length≤cs.length then some (.agg (putList cs f v.cellsOf)) else none
 | _=>match f,v with
   | 0,.agg _=>none
   | 0,v=>some v
   | _,_=>none
def z5N (H:Heap) (id g i:Nat):Option (Nat × Bool × List AVal × AVal):=match H[id]? with
 | some (.cells g' sz fl es)=>if g'=g then (match es[i]? with | some e=>some (sz,fl,es,e) | none=>none) else none
 | _=>none
def load (t:Nat) (a:AVal) (H:Heap):Option AVal:=match E.ti t with
 | none=>none
 | some ti=>match a with
   | .lptr e f=>zED ti e f
   | .ptr id g i f=>match z5N H id g i with
     | some (_,_,_,e)=>zED ti e f
     | none=>none
   | _=>none
def noRef (v:AVal):Bool:=v.under 0
def store (ro t:Nat) (a v:AVal) (H:Heap):Option Ups:=match E.ti t with
 | none=>none
 | some ti=>match a with
   | .ptr id g i f=>match z5N H id g i with
     | some (sz,fl,es,e)=>
       if ro≤id && v.cellsOf.length=ti.sz && !v.isTuple && (!fl || noRef v) then
        match z0J e f v with
        | some e'=>some [(id,.cells g sz fl (es.set i e'))]
        | none=>none
       else none
     | none=>none
   | _=>none
def z0r (E:Env):Nat→Nat→Bool
 | 0,_=>false
 | n+1,t=>match E.ti t with
   | some ti=>match ti.d with
     | .bool | .int _ | .string=>true
     | .array _ e=>z0r E n e
     | .struct fs=>fs.all fun x=>z0r E n x.1
     | _=>false
   | none=>false
def z1Q (t:Nat) (sz:Nat) (es:List AVal):Blk:=.cells 0 sz (z0r E 8 t) es
def z04:Nat:=2 ^ 45
def zST:AVal→Option Int
 | .int _ n=>some n
 | _=>none
def z0Y (v:Option AVal) (d:Nat):Option Nat:=match v with
 | none=>some d
 | some (.int _ n)=>if 0≤n then some n.toNat else none
 | _=>none
def z0g (H:Heap) (t:Nat) (x:AVal) (lo hi mx:Option AVal):Option AVal:=match E.ti t with
 | none=>none
 | some ti=>match ti.d,x with
   | .string,.str s=>match mx,z0Y lo 0,z0Y hi s.length with
     | none,some l,some h=>if l≤h && h≤s.length then some (.str ((s.drop l).take (h - l))) else none
     | _,_,_=>none
   | .slice e,.lit cl sz es=>match E.ti e,z0Y lo 0,z0Y hi es.length,z0Y mx es.length with
     | some te,some l,some h,some m=>
       if (es.isEmpty || sz == te.sz) && l≤h && h≤m && m≤es.length && (mx.isNone || m == h) && (mx.isNone || hi.isSome) then
        some (.lit (mx.isSome || (cl && h == es.length)) sz ((es.drop l).take (h - l)))
       else if (es.isEmpty || sz == te.sz) && l≤h && h≤m && m≤es.length && mx.isSome && hi.isSome then some .undef
       else none
     | _,_,_,_=>none
   | .slice e,.ref id g i len cl=>match E.ti e,H[id]?,z0Y lo 0,z0Y hi len,z0Y mx len with
     | some te,some (.cells g' sz _ bs),some l,some h,some m=>
       if g'=g && (sz == te.sz || (bs.isEmpty && l == 0)) && l≤h && ((h≤m && m≤len) || (mx.isNone && !cl && i+h≤bs.length)) && (mx.isNone || m == h) && (mx.isNone || hi.isSome) && (mx.isSome || !cl || h == len) then
        some (.ref id g (i+l) (h - l) (mx.isSome || cl))
       else if l≤h && h≤m && m≤len && mx.isSome && hi.isSome then some .undef
       else none
     | _,_,_,_,_=>none
   | .array n e,.ptr id g i f=>match E.ti e,z0Y lo 0,z0Y hi n,mx with
     | some te,some l,some h,none=>if te.sz=1 && l≤h && h≤n then some (.view id g i (f+l) (h - l)) else none
     | _,_,_,_=>none
   | .array n e,.lptr (.agg cs) f=>match E.ti e,z0Y lo 0,z0Y hi n,mx with
     | some te,some l,some h,none=>if te.sz=1 && l≤h && h≤n && f+n≤cs.length then some (.lit false 1 (((cs.drop f).take n).drop l |>.take (h - l))) else none
     | _,_,_,_=>none
   | _,_=>none
def z16 (H:Heap):AVal→Option (Nat × List AVal)
 | .lit _ sz es=>some (sz,es)
 | .str s=>some (1,s.map fun b=>.int .u8 b.toNat)
 | .ref id g i len _=>match H[id]? with
   | some (.cells g' sz _ es)=>if g'=g && i+len≤es.length then some (sz,(es.drop i).take len) else none
   | _=>none
 | .view id g i f len=>match z5N H id g i with
   | some (_,_,_,.agg cs)=>if f+len≤cs.length then some (1,(cs.drop f).take len) else none
   | _=>none
 | _=>none
def lenOf:AVal→Option Nat
 | .lit _ _ es=>some es.length
 | .str s=>some s.length
 | .ref _ _ _ len _=>some len
 | .view _ _ _ _ len=>some len
 | _=>none
def z0H (ro nx t:Nat) (s x:AVal) (H:Heap):Option (AVal × Ups):=match E.ti t with
 | some { d:=.slice e,.. }=>match E.ti e,z16 H x with
   | some te,some (nsz,new)=>
     if (new.isEmpty || nsz == te.sz) && 0 < te.sz && te.zero.cellsOf.length=te.sz && !te.zero.isTuple then match s with
     | .lit true sz es=>
       if (es.length+new.length) * (te.bytes+1)≤z04 && (es.isEmpty || !new.isEmpty) && (es.isEmpty || sz == te.sz)
           && (!z0r E 8 e || new.all noRef) then
        some (.ref nx 0 0 (es.length+new.length) false,[(nx,z1Q E e te.sz (es++new))])
       else none
     | .ref id g i len true=>match z16 H (.ref id g i len true) with
       | some (sz,es)=>
         if (es.length+new.length) * (te.bytes+1)≤z04 && !new.isEmpty && (es.isEmpty || sz == te.sz) && (!z0r E 8 e || (es++new).all noRef) && es.length == len then
          some (.ref nx 0 0 (es.length+new.length) false,[(nx,z1Q E e te.sz (es++new))])
         else none
       | none=>none
     | .ref id g i len cl=>match H[id]? with
       | some (.cells g' sz fl bs)=>
         if ro≤id && g'=g && (sz == te.sz || (sz == 0 && bs.isEmpty)) && i+len≤bs.length && (len+new.length) * (te.bytes+1)≤z04 && !cl then
          if i+len+new.length≤bs.length then
           if fl && !new.all noRef then none else some (.ref id g i (len+new.length) cl,[(id,.cells g sz fl (putList bs (i+len) new))])
          else if i+len=bs.length then
           let fl':=if bs.isEmpty then z0r E 8 e else fl
           if fl' && !new.all noRef then none
           else some (.ref id (g+1) 0 (len+new.length) false,[(id,.cells (g+1) te.sz fl' (bs.drop i++new))])
          else none
         else none
       | _=>none
     | _=>none
     else none
   | _,_=>none
 | _=>none
def z6V (nx t:Nat) (s x:AVal):Option (AVal × Ups):=match s,x with
 | .lit true _ [],.int .i64 n=>match E.ti t with
   | some { d:=.slice e,.. }=>match E.ti e with
     | some te=>if 0 < n && n.toNat * (te.bytes+1)≤z04 && te.zero.cellsOf.length=te.sz && !te.zero.isTuple && te.zero.under 0 && 0 < te.sz then
         some (.ref nx 0 0 n.toNat false,[(nx,z1Q E e te.sz (List.replicate n.toNat te.zero))])
       else none
     | none=>none
   | _=>none
 | _,_=>none
def bits (op:BinOp) (k:IntKind) (x y:Int):Option Int:=
 let a:=BitVec.ofInt k.bits x
 let b:=BitVec.ofInt k.bits y
 match op with
 | .and=>some (k.wrap (a &&& b).toNat)
 | .or=>some (k.wrap (a ||| b).toNat)
 | .xor=>some (k.wrap (a ^^^ b).toNat)
 | .andNot=>some (k.wrap (a &&& ~~~b).toNat)
 | _=>none
def bytesLess:List UInt8→List UInt8→Bool
 | _,[]=>false
 | [],_ :: _=>true
 | a :: x,b :: y=>a < b || (a == b && bytesLess x y)
mutual
def eqv:AVal→AVal→Option Bool
 | .bool a,.bool b=>some (a == b)
 | .int k a,.int k' b=>if k=k' then some (decide (a=b)) else none
 | .str a,.str b=>some (a == b)
 | .agg a,.agg b=>eqvL a b
 | _,_=>none
def eqvL:List AVal→List AVal→Option Bool
 | [],[]=>some true
 | a :: as,b :: bs=>match eqv a b,eqvL as bs with
   | some x,some y=>some (x && y)
   | _,_=>none
 | _,_=>none
end
def scal:TyD→AVal→Bool
 | .bool,.bool _=>true
 | .int k,.int k' _=>decide (k=k')
 | .string,.str _=>true
 | _,_=>false
def z3Z:List TyD→List AVal→Bool
 | [],[]=>true
 | d :: ds,v :: vs=>scal d v && z3Z ds vs
 | _,_=>false
def EqTy.fits (q:EqTy):AVal→Bool
 | .agg cs=>q.agg && z3Z q.ds cs
 | v=>!q.agg && z3Z q.ds [v]
def Env.keyOk (E:Env) (t:Nat) (v:AVal):Bool:=E.eqs.any fun q=>q.t == t && q.fits v
def eqOp (E:Env) (tn:Nat) (t:TI) (x y:AVal):Option Bool:=match t.d,x,y with
 | .bool,.bool a,.bool b=>some (a == b)
 | .ptr _,.nilptr,.nilptr=>some true
 | .ptr _,.nilptr,.ptr .. | .ptr _,.ptr ..,.nilptr=>some false
 | .iface,.niliface,.niliface=>some true
 | .iface,.iface ..,.niliface=>some false
 | .slice _,.lit true 0 [],.lit true 0 []=>some true
 | .slice _,.lit _ _ (_ :: _),.lit true 0 []=>some false
 | .slice _,.ref _ _ _ (_+1) _,.lit true 0 []=>some false
 | .struct _,.agg a,.agg b | .array _ _,.agg a,.agg b=>if E.keyOk tn (.agg a) then eqvL a b else none
 | _,_,_=>none
def binOp (op:BinOp) (tn:Nat) (t:TI) (x y:AVal):Option AVal:=match op,x,y with
 | .shl,.int k a,.int _ b=>if b < 0 then none else some (.int k (k.wrap (a * 2 ^ (min b.toNat k.bits))))
 | .shr,.int k a,.int _ b=>if b < 0 then none else some (.int k (a.fdiv (2 ^ (min b.toNat k.bits))))
 | op,.int k a,.int k' b=>if k ≠ k' then none else match op with
   | .add=>some (.int k (k.wrap (a+b)))
   | .sub=>some (.int k (k.wrap (a - b)))
   | .mul=>some (.int k (k.wrap (a * b)))
   | .quo=>if b=0 then none else some (.int k (k.wrap (a.tdiv b)))
   | .rem=>if b=0 then none else some (.int k (a.tmod b))
   | .eql=>some (.bool (a == b))
   | .neq=>some (.bool (a != b))
   | .lss=>some (.bool (decide (a < b)))
   | .leq=>some (.bool (decide (a≤b)))
   | .gtr=>some (.bool (decide (a > b)))
   | .geq=>some (.bool (decide (a ≥ b)))
   | op=>(bits op k a b).map (.int k)
 | op,.str a,.str b=>match op with
   | .add=>if a.length+b.length≤z04 then some (.str (a++b)) else none
   | .eql=>some (.bool (a == b))
   | .neq=>some (.bool !(a == b))
   | .lss=>some (.bool (bytesLess a b))
   | .leq=>some (.bool (bytesLess a b || a == b))
   | .gtr=>some (.bool !(bytesLess a b || a == b))
   | .geq=>some (.bool !(bytesLess a b))
   | _=>none
 | .eql,x,y=>(eqOp E tn t x y).map .bool
 | .neq,x,y=>(eqOp E tn t x y).map fun b=>.bool !b
 | _,_,_=>none
def unOp (op:UnOp) (x:AVal):Option AVal:=match op,x with
 | .neg,.int k n=>some (.int k (k.wrap (0 - n)))
 | .xor,.int k n=>(bits .xor k (if k.signed then -1 else k.max) n).map (.int k)
 | .not,.bool b=>some (.bool !b)
 | _,_=>none
def z4J:List AVal→Option (List UInt8)
 | []=>some []
 | .int .u8 n :: vs=>(z4J vs).map (UInt8.ofNat n.toNat :: ·)
 | _=>none
def z3Q (H:Heap) (src dst:TI) (elem:Option TI) (x:AVal):Option AVal:=match src.d,dst.d with
 | .slice _,.string=>match elem with
   | some { d:=.int .u8,.. }=>match z16 H x with
     | some (_,es)=>(z4J es).map .str
     | none=>none
   | _=>none
 | _,_=>none
def convert (H:Heap) (src dst:TI) (elem:Option TI) (x:AVal):Option AVal:=match x with
 | .int _ n=>match dst.d with
   | .int k=>some (.int k (k.wrap n))
   | _=>none
 | .str s=>match src.d,dst.d with
   | .string,.string=>some (.str s)
   | .string,.slice _=>match elem with
     | some { d:=.int .u8,.. }=>if s.length≤z04 then some (.lit false 1 (s.map fun b=>.int .u8 b.toNat)) else none
     | _=>none
   | _,_=>none
 | .lit cl sz es=>z3Q H src dst elem (.lit cl sz es)
 | .ref id g i len cl=>z3Q H src dst elem (.ref id g i len cl)
 | .view id g i f len=>z3Q H src dst elem (.view id g i f len)
 | _=>none
def fill (place:Nat→Option (Nat × Nat)) (cells:List AVal):List (Nat × AVal)→Option (List AVal)
 | []=>some cells
 | (i,v) :: rest=>match place i with
   | some (off,size)=>if v.cellsOf.length=size && !v.isTuple && off+size≤cells.length then fill place (putList cells off v.cellsOf) rest else none
   | none=>none
def places (E:Env) (fs:List (Nat × Nat)) (i:Nat):Option (Nat × Nat):=match fs[i]? with
 | some (t,off)=>(E.ti t).map fun ti=>(off,ti.sz)
 | none=>none
def build (ti:TI) (parts:List (Nat × AVal)):Option AVal:=match ti.d,ti.zero with
 | .struct fs,.agg z=>if fs.all fun x=>(E.ti x.1).isSome then (fill (places E fs) z parts).map .agg else none
 | .array _ e,.agg z=>match E.ti e with
   | some te=>(fill (fun i=>some (i * te.sz,te.sz)) z parts).map .agg
   | none=>none
 | _,_=>none
def z6E (es:List AVal) (sz:Nat):List (Nat × AVal)→Option (List AVal)
 | []=>some es
 | (i,v) :: rest=>if i < es.length && v.cellsOf.length=sz && !v.isTuple then z6E (es.set i v) sz rest else none
def z3d (ti:TI) (len:Nat) (parts:List (Nat × AVal)):Option (Nat × List AVal):=match ti.d with
 | .slice e=>match E.ti e with
   | some te=>
     if len * te.sz≤2 ^ 20 && 0 < te.sz && te.zero.cellsOf.length=te.sz && !te.zero.isTuple then (z6E (List.replicate len te.zero) te.sz parts).map fun es=>(te.sz,es)
     else none
   | none=>none
 | _=>none
def buildSlice (ti:TI) (len:Nat) (parts:List (Nat × AVal)):Option AVal:=
 if parts.all (fun p=>noRef p.2) then (z3d E ti len parts).map fun p=>.lit true p.1 p.2 else none
def findKey (k:AVal):List (AVal × AVal)→Nat→Option (Option (Nat × AVal))
 | [],_=>some none
 | (k',v) :: es,i=>match eqv k k' with
   | some true=>some (some (i,v))
   | some false=>findKey k es (i+1)
   | none=>none
def z7R (k v:AVal):List (AVal × AVal)→Option (List (AVal × AVal))
 | []=>some [(k,v)]
 | (k',v') :: es=>match eqv k k' with
   | some true=>some ((k,v) :: es)
   | some false=>(z7R k v es).map ((k',v') :: ·)
   | none=>none
inductive ORes where
 | val (v:AVal) (us:Ups)
 | call (f:Nat) (args:List AVal)
 | panic (v:AVal)
 | defer (f:Nat) (args:List AVal)
def z34 (s:St):List Operand→Option (List AVal)
 | []=>some []
 | x :: xs=>match s.eval x,z34 s xs with
   | some v,some vs=>some (v :: vs)
   | _,_=>none
def z7C (s:St):List (Nat × Operand)→Option (List (Nat × AVal))
 | []=>some []
 | (i,x) :: xs=>match s.eval x,z7C s xs with
   | some v,some vs=>some ((i,v) :: vs)
   | _,_=>none
def z5Q (s:St):Option Operand→Option (Option AVal)
 | none=>some none
 | some x=>(s.eval x).map some
def minL (k:IntKind) (n:Int):List AVal→Option Int
 | []=>some n
 | .int k' m :: vs=>if k'=k then minL k (if m < n then m else n) vs else none
 | _=>none
def maxL (k:IntKind) (n:Int):List AVal→Option Int
 | []=>some n
 | .int k' m :: vs=>if k'=k then maxL k (if m > n then m else n) vs else none
 | _=>none
def builtin (nx:Nat) (s:St) (b:Builtin) (argTypes:List Nat) (args:List AVal):Option ORes:=
 let v (x:AVal):Option ORes:=some (.val x [])
 match b,argTypes,args with
 | .len,t :: _,[x]=>match E.ti t with
   | some ti=>match ti.d,x with
     | .string,.str l=>v (.int .i64 l.length)
     | .array n _,_=>v (.int .i64 n)
     | .slice _,x=>match x with
       | .str _=>none
       | x=>match lenOf x with
         | some n=>v (.int .i64 n)
         | none=>none
     | .map _ _,.nilmap=>v (.int .i64 0)
     | .map _ _,.mapp id=>match s.H[id]? with
       | some (.map es)=>v (.int .i64 es.length)
       | _=>none
     | _,_=>none
   | none=>none
 | .cap,t :: _,[x]=>match E.ti t with
   | some ti=>match ti.d,x with
     | .slice _,.lit true _ es=>v (.int .i64 es.length)
     | .slice _,.ref _ _ _ len true=>v (.int .i64 len)
     | _,_=>none
   | none=>none
 | .append,[t,t2],[a,x]=>match E.ti t2 with
   | some ti2=>match ti2.d with
     | .slice _ | .string=>match z0H E s.ro nx t a x s.H with
       | some (y,us)=>some (.val y us)
       | none=>none
     | .int _=>match z6V E nx t a x with
       | some (y,us)=>some (.val y us)
       | none=>none
     | _=>none
   | none=>none
 | .copy,t :: _,[d,x]=>match E.ti t,z16 s.H x,lenOf d with
   | some { d:=.slice e,.. },some (nsz,es),some n=>match E.ti e with
    | none=>none
    | some te=>
     let new:=es.take n
     if !(es.isEmpty || nsz == te.sz) then none else
     match d with
     | .ref id g i len _=>match s.H[id]? with
       | some (.cells g' sz fl bs)=>if s.ro≤id && (bs.isEmpty || sz == te.sz) && g'=g && i+len≤bs.length && (!fl || new.all noRef) then
           some (.val (.int .i64 new.length) [(id,.cells g sz fl (putList bs i new))]) else none
       | _=>none
     | .view id g i f len=>match z5N s.H id g i with
       | some (sz,fl,bs,.agg cs)=>if s.ro≤id && te.sz=1 && f+len≤cs.length && new.all AVal.oneC && (!fl || new.all noRef) then
           some (.val (.int .i64 new.length) [(id,.cells g sz fl (bs.set i (.agg (putList cs f new))))]) else none
       | _=>none
     | .lit _ _ []=>v (.int .i64 0)
     | _=>none
   | _,_,_=>none
 | .clear,t :: _,[.ref id g i len _]=>match E.ti t with
   | some ti=>match ti.d with
     | .slice e=>match E.ti e,s.H[id]? with
       | some te,some (.cells g' sz fl bs)=>if s.ro≤id && sz == te.sz && g'=g && i+len≤bs.length && te.zero.cellsOf.length=te.sz && !te.zero.isTuple && te.zero.under 0 && 0 < len then
           some (.val (.tuple []) [(id,.cells g sz fl (putList bs i (List.replicate len te.zero)))]) else none
       | _,_=>none
     | _=>none
   | none=>none
 | .min,_,.int k n :: vs=>match minL k n vs with
   | some m=>v (.int k m)
   | none=>none
 | .max,_,.int k n :: vs=>match maxL k n vs with
   | some m=>v (.int k m)
   | none=>none
 | _,_,_=>none
def z0I (nx:Nat):List AVal→List AVal × Ups
 | []=>([],[])
 | .lit true 0 [] :: vs=>(.ref nx 0 0 0 false :: (z0I (nx+1) vs).1,(nx,.cells 0 0 false []) :: (z0I (nx+1) vs).2)
 | v :: vs=>(v :: (z0I nx vs).1,(z0I nx vs).2)
def stepOp (nx:Nat) (s:St) (o:Oper):Option ORes:=
 let v (x:Option AVal):Option ORes:=x.map fun y=>.val y []
 match o.op with
 | .move x=>v (s.eval x)
 | .assign x=>match s.eval x with
   | some (.lit true 0 [])=>if (o.dst.elim false s.virt.contains) then some (.val (.ref nx 0 0 0 false) [(nx,.cells 0 0 false [])]) else v (some (.lit true 0 []))
   | x=>v x
 | .pick c a b=>match s.eval c with
   | some (.bool true)=>v (s.eval a)
   | some (.bool false)=>v (s.eval b)
   | _=>none
 | .alloc t=>match E.ti t with
   | some ti=>if 0 < ti.sz && ti.zero.cellsOf.length=ti.sz && !ti.zero.isTuple && ti.zero.under 0 then
       if o.dst.elim false s.virt.contains && !z0r E 8 t && (ti.agg || ti.sz == 1) then
        let p:=z0I nx ti.zero.cellsOf
        some (.val (.ptr (nx+p.2.length) 0 0 0) (p.2++[(nx+p.2.length,z1Q E t ti.sz [if ti.agg then .agg p.1 else p.1.headD .undef])]))
       else some (.val (.ptr nx 0 0 0) [(nx,z1Q E t ti.sz [ti.zero])])
     else none
   | none=>none
 | .box t x=>match E.ti t,s.eval x with
   | some ti,some y=>if 0 < ti.sz && y.cellsOf.length=ti.sz && !y.isTuple && (!z0r E 8 t || noRef y) then
       if o.dst.elim false s.virt.contains && !z0r E 8 t && (ti.agg || ti.sz == 1) then
        let p:=z0I nx y.cellsOf
        some (.val (.ptr (nx+p.2.length) 0 0 0) (p.2++[(nx+p.2.length,z1Q E t ti.sz [if ti.agg then .agg p.1 else p.1.headD .undef])]))
       else some (.val (.ptr nx 0 0 0) [(nx,z1Q E t ti.sz [y])]) else none
   | _,_=>none
 | .build t ps=>match E.ti t,z7C s ps.toList with
   | some ti,some ps=>v (build E ti ps)
   | _,_=>none
 | .buildSlice t len ps=>match E.ti t,z7C s ps.toList with
   | some ti,some ps=>if o.dst.elim false s.virt.contains then (match ti.d,z3d E ti len ps with
       | .slice e,some (sz,es)=>if !z0r E 8 e || ps.all (fun p=>noRef p.2) then some (.val (.ref nx 0 0 es.length false) [(nx,z1Q E e sz es)]) else none
       | _,_=>none)
     else v (buildSlice E ti len ps)
   | _,_=>none
 | .load t a=>match s.eval a with
   | some a=>v (load E t a s.H)
   | none=>none
 | .store t a x=>match s.eval a,s.eval x with
   | some a,some x=>(store E s.ro t a x s.H).map (.val (.tuple []))
   | _,_=>none
 | .nilCheck x=>match s.eval x with
   | some (.ptr id g i f)=>v (some (.ptr id g i f))
   | some (.lptr e f)=>v (some (.lptr e f))
   | _=>none
 | .binOp op t x y _=>match E.ti t,s.eval x,s.eval y with
   | some ti,some a,some b=>match ti.d,y with
     | .iface,.const _=>v (binOp E op t ti a b)
     | .iface,_=>none
     | _,_=>v (binOp E op t ti a b)
   | _,_,_=>none
 | .unOp op _ x=>match s.eval x with
   | some a=>v (unOp op a)
   | none=>none
 | .convert src dst x=>match E.ti src,E.ti dst,s.eval x with
   | some a,some b,some x=>
     let e:=match a.d,b.d with
      | .slice e,_=>E.ti e
      | _,.slice e=>E.ti e
      | _,_=>none
     v (convert s.H a b e x)
   | _,_,_=>none
 | .makeInterface t x=>match E.ti t,s.eval x with
   | some ti,some y=>match ti.d with
     | .iface=>none
     | _=>v (some (.iface t y))
   | _,_=>none
 | .makeFunc (.func f) first cap=>match z34 s first.toList,z34 s cap.toList with
   | some a,some b=>v (some (.func f a b))
   | _,_=>none
 | .makeMap _ none=>some (.val (.mapp nx) [(nx,.map [])])
 | .makeSlice t l c=>match E.ti t with
   | some { d:=.slice e,.. }=>match E.ti e,s.eval l,s.eval c with
     | some te,some (.int .i64 l),some (.int .i64 c)=>
       if l=c && 0≤l && l.toNat * (te.bytes+1)≤z04 && te.zero.cellsOf.length=te.sz && !te.zero.isTuple && te.zero.under 0 && 0 < te.sz then
        some (.val (.ref nx 0 0 l.toNat false) [(nx,z1Q E e te.sz (List.replicate l.toNat te.zero))])
       else none
     | _,_,_=>none
   | _=>none
 | .slice t x lo hi mx=>match s.eval x,z5Q s lo,z5Q s hi,z5Q s mx with
   | some x,some lo,some hi,some mx=>v (z0g E s.H t x lo hi mx)
   | _,_,_,_=>none
 | .fieldAddr t x f=>match E.ti t,s.eval x with
   | some { d:=.struct fs,.. },some a=>match fs[f]? with
     | some (ft,off)=>match E.ti ft with
       | some fi=>if fi.sz=0 then none else match a with
         | .ptr id g i o=>v (some (.ptr id g i (o+off)))
         | .lptr e o=>v (some (.lptr e (o+off)))
         | _=>none
       | none=>none
     | none=>none
   | _,_=>none
 | .field t x f=>match E.ti t,s.eval x with
   | some { d:=.struct fs,.. },some (.agg cs)=>match fs[f]? with
     | some (ft,off)=>match E.ti ft with
       | some fi=>v (part fi cs off)
       | none=>none
     | none=>none
   | _,_=>none
 | .indexAddr t x ix=>match E.ti t,s.eval x,s.eval ix with
   | some ti,some x,some (.int _ n)=>match ti.d,x with
     | .slice e,x=>match E.ti e with
       | some te=>if 0≤n then (match x with
         | .lit _ sz es=>if sz=te.sz then v (es[n.toNat]?.map fun e=>.lptr e 0) else none
         | .ref id g i len _=>match s.H[id]? with
           | some (.cells g' sz _ _)=>if g'=g && sz=te.sz && decide (n < len) then v (some (.ptr id g (i+n.toNat) 0)) else none
           | _=>none
         | .view id g i f len=>if te.sz=1 && decide (n < len) then v (some (.ptr id g i (f+n.toNat))) else none
         | _=>none) else none
       | none=>none
     | .array len e,x=>match E.ti e with
       | some te=>if 0≤n && decide (n < len) then (match x with
         | .ptr id g i f=>v (some (.ptr id g i (f+n.toNat * te.sz)))
         | .lptr e f=>v (some (.lptr e (f+n.toNat * te.sz)))
         | _=>none) else none
       | none=>none
     | _,_=>none
   | _,_,_=>none
 | .index t x ix=>match E.ti t,s.eval x,s.eval ix with
   | some ti,some x,some (.int _ n)=>match ti.d,x with
     | .string,.str l=>if 0≤n then v (l[n.toNat]?.map fun b=>.int .u8 b.toNat) else none
     | .array len e,.agg cs=>match E.ti e with
       | some te=>if 0≤n && decide (n < len) then v (part te cs (n.toNat * te.sz)) else none
       | none=>none
     | _,_=>none
   | _,_,_=>none
 | .lookup t m k ok=>match E.ti t,s.eval m,s.eval k with
   | some { d:=.map kt e,.. },some (.mapp id),some k=>match E.ti e,s.H[id]? with
     | some te,some (.map es)=>if !E.keyOk kt k then none else match findKey k es 0 with
       | some (some (_,x))=>v (some (if ok then .tuple [x,.bool true] else x))
       | some none=>v (some (if ok then .tuple [te.zero,.bool false] else te.zero))
       | none=>none
     | _,_=>none
   | _,_,_=>none
 | .mapUpdate t m k x=>match E.ti t,s.eval m,s.eval k,s.eval x with
   | some { d:=.map kt _,.. },some (.mapp id),some k,some x=>match s.H[id]? with
     | some (.map es)=>if E.keyOk kt k && s.ro≤id && noRef x then match z7R k x es with
       | some es'=>some (.val (.tuple []) [(id,.map es')])
       | none=>none else none
     | _=>none
   | _,_,_,_=>none
 | .extract t i=>match s.eval t with
   | some (.tuple vs)=>v vs[i]?
   | _=>none
 | .typeAssert x _ t ok=>match E.ti t,s.eval x with
   | some ti,some (.iface u y)=>match ti.d with
     | .iface=>none
     | _=>if u=t then v (some (if ok then .tuple [y,.bool true] else y)) else if ok then v (some (.tuple [ti.zero,.bool false])) else none
   | some ti,some .niliface=>match ti.d with
     | .iface=>none
     | _=>if ok then v (some (.tuple [ti.zero,.bool false])) else none
   | _,_=>none
 | .panic x=>match s.eval x with
   | some (.iface t y)=>some (.panic (.iface t y))
   | _=>none
 | .call c=>match c.callee,z34 s c.args.toList with
   | .builtin b,some args=>builtin E nx s b c.argTypes.toList args
   | .value f,some args=>match s.eval f with
     | some (.func g first cap)=>some (.call g (first++args++cap))
     | _=>none
   | _,_=>none
 | .defer c=>match c.callee,z34 s c.args.toList with
   | .value f,some args=>match s.eval f with
     | some (.func g first cap)=>some (.defer g (first++args++cap))
     | _=>none
   | _,_=>none
 | _=>none
end ops
def mapO {α β:Type} (f:α→Option β):List α→Option (List β)
 | []=>some []
 | x :: xs=>match f x,mapO f xs with
   | some y,some ys=>some (y :: ys)
   | _,_=>none
def toLit (ok:Nat→Bool) (H:Heap):Nat→AVal→Option AVal
 | 0,_=>none
 | n+1,v=>if noRef v then some v else match v with
   | .ref id g i len cl=>match H[id]? with
     | some (.cells g' sz fl es)=>if ok id && g'=g && i+len≤es.length then
         (if fl then some (.lit cl sz ((es.drop i).take len)) else (mapO (toLit ok H n) ((es.drop i).take len)).map (.lit cl sz)) else none
     | _=>none
   | .view id g i f len=>match z5N H id g i with
     | some (_,true,_,.agg cs)=>if ok id && f+len≤cs.length then some (.lit false 1 ((cs.drop f).take len)) else none
     | _=>none
   | .agg cs=>(mapO (toLit ok H n) cs).map .agg
   | .tuple cs=>(mapO (toLit ok H n) cs).map .tuple
   | _=>none
def reach (H:Heap):Nat→List Nat→List Nat→Option (List Nat)
 | _,[],seen=>some seen
 | 0,_ :: _,_=>none
 | n+1,id :: todo,seen=>if seen.contains id then reach H n todo seen else match H[id]? with
   | some (.cells _ _ fl es)=>if fl then reach H n todo (seen++[id]) else reach H n (todo++refsL es) (seen++[id])
   | some (.map _)=>reach H n todo (seen++[id])
   | some .dead=>reach H n todo seen
   | some .free=>none
   | none=>none
def looks (H:Heap):Nat→List Nat→List Nat→Option (List Nat)
 | _,[],seen=>some seen
 | 0,_ :: _,_=>none
 | n+1,id :: todo,seen=>if seen.contains id then looks H n todo seen else match H[id]? with
   | some (.cells _ _ fl es)=>if fl then looks H n todo (seen++[id]) else looks H n (todo++refsL es) (seen++[id])
   | some _=>looks H n todo (seen++[id])
   | none=>none
def consec (m:Nat):Nat→Ups→Bool
 | _,[]=>true
 | n,(id,_) :: us=>if id < m then consec m n us else id == n && consec m (n+1) us
def idx (l:List Nat) (x:Nat):Option Nat:=l.findIdx? (· == x)
def renB (f:Nat→Option Nat):Blk→Blk
 | .cells g sz fl es=>.cells g sz fl (if fl then es else renL f es)
 | b=>b
def litFree:Blk→Bool
 | .cells _ _ _ es=>z2S es
 | .map es=>es.all fun p=>p.1.noLit && p.2.noLit
 | _=>true
inductive Out where
 | ups (us:Ups)
 | whole (H:Heap)
def fuel0:Nat:=64
def lend (H:Heap) (lits:List Nat):List AVal→Nat→Option (List AVal × List Nat)
 | [],_=>some ([],[])
 | v :: vs,i=>match lend H lits vs (i+1) with
   | none=>none
   | some (ws,ids)=>
     if lits.contains i && !noRef v then
      match toLit (fun _=>true) H 8 v,reach H fuel0 v.refs [] with
      | some w,some l=>some (w :: ws,l++ids)
      | _,_=>none
     else some (v :: ws,ids)
def handBack (H:Heap) (k:Nat) (keep:List Nat):Nat→AVal→Option AVal
 | 0,v=>some v
 | n+1,v=>match v with
   | .ref id _ _ _ _=>if id < k || keep.contains id then some v else toLit (fun j=>decide (k≤j) && !keep.contains j) H 8 v
   | .agg cs=>(mapO (handBack H k keep n) cs).map .agg
   | .tuple cs=>(mapO (handBack H k keep n) cs).map .tuple
   | v=>some v
def uniq:List Nat→List Nat
 | []=>[]
 | x :: l=>if l.contains x then uniq l else x :: uniq l
def getAll (H:Heap):List Nat→Option (List Blk)
 | []=>some []
 | id :: ids=>match H[id]?,getAll H ids with
   | some b,some bs=>some (b :: bs)
   | _,_=>none
def numbered {α:Type}:Nat→List α→List (Nat × α)
 | _,[]=>[]
 | n,x :: xs=>(n,x) :: numbered (n+1) xs
section
variable (E:Env) (run:Nat→List AVal→Heap→Nat→Option (CRes × Heap))
def callF (f:Nat) (args:List AVal) (ro:Nat) (H:Heap) (nx:Nat):Option (CRes × Out):=
 let h:=E.hint f
 if h.whole then
  match run f args H ro with
  | some (r,H')=>some (r,.whole H')
  | none=>none
 else match lend H h.lits args 0 with
  | none=>none
  | some (as,lent)=>match reach H fuel0 (refsL as) [] with
    | none=>none
    | some fp=>match getAll H fp with
      | none=>none
      | some bs=>
        if !(lent.all fun id=>!fp.contains id) || (!h.ro && !(fp.all fun id=>decide (ro≤id))) then none else
        let k:=fp.length
        match run f (renL (idx fp) as) (bs.map (renB (idx fp))) (if h.ro then k else 0) with
        | none=>none
        | some (r,H')=>
          let keep:=if h.keepAll then List.range' k (H'.length - k) else uniq (h.keep.filter (fun j=>decide (k≤j) && decide (j < H'.length)))
          let back (id:Nat):Option Nat:=if id < k then fp[id]? else (idx keep id).map (nx+·)
          match getAll H' keep with
          | none=>none
          | some kept=>
            let ups:Ups:=(if h.ro then [] else fp.zip ((H'.take k).map (renB back)))++numbered nx (kept.map (renB back))
            match r with
            | .panic v=>if lent.all fun id=>decide (ro≤id) then some (.panic (v.ren back),.ups (ups++lent.map (·,.dead))) else none
            | .ret v=>match handBack H' k keep 4 v with
              | none=>none
              | some v=>
                if lent.isEmpty || (v.noLit && kept.all litFree && (h.ro || (H'.take k).all litFree)) then some (.ret (v.ren back),.ups ups)
                else if lent.all fun id=>decide (ro≤id) then some (.ret (v.ren back),.ups (ups++lent.map (·,.dead))) else none
end
def want (all:Array Oper) (s:St) (o:Oper):Option Bool:=match o.guard with
 | none=>some true
 | some (j,b)=>match all[j]? with
   | some p=>match p.dst with
     | some d=>match s.tmps[d]? with
       | some (.bool c)=>some (c == b)
       | some (.tuple [])=>some false
       | _=>none
     | none=>none
   | none=>none
section
variable (E:Env) (call:Nat→List AVal→Nat→Heap→Nat→Option (CRes × Out))
def z1E (all:Array Oper):List Oper→St→Option (Ex × St)
 | [],s=>some (.normal,s)
 | o :: os,s=>match want all s o with
   | none=>none
   | some false=>z1E all os (s.put o.dst (.tuple []))
   | some true=>match stepOp E s.H.length s o with
     | none=>none
     | some (.val v us)=>z1E all os ({ s with H:=putU s.H us }.put o.dst v)
     | some (.panic v)=>some (.panic v,s)
     | some (.defer f args)=>z1E all os ({ s with defers:=(f,args) :: s.defers }.put o.dst (.tuple []))
     | some (.call f args)=>match call f args s.ro s.H s.H.length with
       | none=>none
       | some (.ret v,.ups us)=>z1E all os ({ s with H:=putU s.H us }.put o.dst v)
       | some (.ret v,.whole H)=>z1E all os ({ s with H:=H }.put o.dst v)
       | some (.panic v,.ups us)=>some (.panic v,{ s with H:=putU s.H us })
       | some (.panic v,.whole H)=>some (.panic v,{ s with H:=H })
structure Foot where
 i:Nat
 reads:List Nat
 writes:List Nat
def z1R (s:St) (o:Oper):List Nat:=match o.op with
 | .load _ a=>(s.eval a).elim [] AVal.refs
 | .store _ a _=>(s.eval a).elim [] AVal.refs
 | .indexAddr _ x _=>(s.eval x).elim [] AVal.refs
 | .convert _ _ x=>(s.eval x).elim [] AVal.refs
 | .slice _ x _ _ _=>(s.eval x).elim [] AVal.refs
 | .lookup _ m _ _=>(s.eval m).elim [] AVal.refs
 | .mapUpdate _ m _ _=>(s.eval m).elim [] AVal.refs
 | .call { callee:=.builtin _,args:=as,.. }=>refsL ((z34 s as.toList).getD [])
 | _=>[]
def z19 (all:Array Oper):Nat→List Oper→St→Option (St × List Foot)
 | _,[],s=>some (s,[])
 | i,o :: os,s=>match want all s o with
   | none=>none
   | some false=>z19 all (i+1) os (s.put o.dst (.tuple []))
   | some true=>match stepOp E s.H.length s o with
     | some (.val v us)=>if consec s.H.length s.H.length us && (z1R s o).all (fun j=>decide (j < s.H.length)) then match z19 all (i+1) os ({ s with H:=putU s.H us }.put o.dst v) with
       | some (s',l)=>some (s',⟨i,z1R s o,us.map (·.1)⟩ :: l)
       | none=>none
       else none
     | some (.call f args)=>match call f args s.ro s.H s.H.length,looks s.H fuel0 (refsL args) [] with
       | some (.ret v,.ups us),some fp=>if consec s.H.length s.H.length us then match z19 all (i+1) os ({ s with H:=putU s.H us }.put o.dst v) with
         | some (s',l)=>some (s',⟨i,fp,us.map (·.1)⟩ :: l)
         | none=>none
         else none
       | _,_=>none
     | _=>none
def meets (a b:List Nat):Bool:=a.any b.contains
def clash (a b:Foot):Bool:=meets a.writes (b.reads++b.writes) || meets a.reads b.writes
def apart (bf:Array Nat):List Foot→Bool
 | []=>true
 | a :: l=>(l.all fun b=>!clash a b || (bf.getD b.i 0).testBit a.i) && apart bf l
def zBF (l:List Nat):Nat:=l.foldl (fun n t=>n ||| 2 ^ t) 0
def names (all:Array Oper) (o:Oper):List Nat:=
 (match o.dst with | some d=>[d] | none=>[])++(o.op.operands.toList.filterMap fun | .tmp t=>some t | _=>none) ++
 (match o.guard with
  | some (g,_)=>match (all[g]?).bind (·.dst) with
    | some d=>[d]
    | none=>[]
  | none=>[])
def zEe (bf:Array Nat):List (Nat × Nat × Nat)→Bool
 | []=>true
 | (i,w,n) :: l=>(l.all fun (j,w',n')=>(w &&& n' == 0 && w' &&& n == 0) || (bf.getD j 0).testBit i) && zEe bf l
def zDY (o:Oper):Nat:=match o.dst with
 | some d=>2 ^ d
 | none=>0
def z7S (all:Array Oper):Nat→List Oper→List (Nat × Nat × Nat)
 | _,[]=>[]
 | i,o :: os=>(i,zDY o,zBF (names all o)) :: z7S all (i+1) os
def zFs (md:Region.Mode):Nat→List Oper→Nat→Nat
 | _,[],G=>G
 | i,o :: os,G=>zFs md (i+1) os (if o.after.toList.all (fun e=>!Region.binds md e || G.testBit e.on) then G ||| 2 ^ i else G)
def z9n (md:Region.Mode) (all:Array Oper):Bool:=
 let l:=all.toList
 let G:=zFs md 0 l (zFs md 0 l (zFs md 0 l (zFs md 0 l 0)))
 G == 2 ^ all.size - 1
def zJh (all:Array Oper):Bool:=zEe (Region.before all) (z7S all 0 all.toList) && z9n .any all && z9n .text all && z9n .gc all
def z2t:Code→Bool
 | .region _ ops draw=>!draw || zJh ops
 | .seq a b=>z2t a && z2t b
 | .cond _ a b=>z2t a && z2t b
 | .block _ c=>z2t c
 | .loop c=>z2t c
 | _=>true
def z20 (all:Array Oper) (draw:Bool) (s:St):Option (Ex × St):=
 if draw then match z19 E call all 0 all.toList s with
  | some (s',l)=>if apart (Region.before all) l then some (.normal,s') else none
  | none=>none
 else z1E E call all all.toList s
def z1t (L:Code→St→Option (Ex × St)):Code→St→Option (Ex × St)
 | .skip,s=>some (.normal,s)
 | .region _ ops draw,s=>z20 E call ops draw s
 | .seq a b,s=>match z1t L a s with
   | some (.normal,s')=>z1t L b s'
   | r=>r
 | .cond c a b,s=>match s.eval c with
   | some (.bool true)=>z1t L a s
   | some (.bool false)=>z1t L b s
   | _=>none
 | .block id c,s=>match z1t L c s with
   | some (.exit j,s')=>some (if j=id then (.normal,s') else (.exit j,s'))
   | r=>r
 | .loop c,s=>L c s
 | .exit id,s=>some (.exit id,s)
 | .ret,s=>some (.ret,s)
 | _,_=>none
end
def scrub (m:Nat) (v:AVal):AVal:=if v.under m then v else v.ren fun id=>if id < m then some id else none
def underB (m:Nat):Blk→Bool
 | .cells _ _ fl es=>fl || underL m es
 | _=>true
def trunc (m:Nat) (s:St):St:=
 if s.H.length≤m then s else
 if (s.H.take m).all (underB m) && s.defers.all (fun d=>underL m d.2) then { s with H:=s.H.take m,tmps:=s.tmps.map (scrub m) } else s
def resultsOf (E:Env) (s:St):List ResultVar→Option (List AVal)
 | []=>some []
 | .tmp t :: rs=>match s.tmps[t]?,resultsOf E s rs with
   | some v,some vs=>some (v :: vs)
   | _,_=>none
 | .cell a t :: rs=>match s.tmps[a]? with
   | some a=>match load E t a s.H,resultsOf E s rs with
     | some v,some vs=>some (v :: vs)
     | _,_=>none
   | none=>none
def one:List AVal→AVal
 | [v]=>v
 | vs=>.tuple vs
inductive Rec where
 | idle
 | active (v:AVal)
 | done
section
variable (E:Env) (call:Nat→List AVal→Nat→Heap→Nat→Option (CRes × Out))
def z51 (all:Array Oper):List Oper→St→Rec→Option (Ex × St × Rec)
 | [],s,r=>some (.normal,s,r)
 | o :: os,s,r=>match want all s o with
   | none=>none
   | some false=>z51 all os (s.put o.dst (.tuple [])) r
   | some true=>match o.op with
     | .call { callee:=.builtin .recover,args:=⟨[]⟩,.. }=>match r with
       | .active v=>z51 all os (s.put o.dst v) .done
       | r=>z51 all os (s.put o.dst .niliface) r
     | _=>match stepOp E s.H.length s o with
       | some (.val v us)=>z51 all os ({ s with H:=putU s.H us }.put o.dst v) r
       | some (.panic v)=>some (.panic v,s,r)
       | _=>none
def z6g:Code→St→Rec→Option (Ex × St × Rec)
 | .skip,s,r=>some (.normal,s,r)
 | .region _ ops draw,s,r=>if draw then none else z51 E ops ops.toList s r
 | .seq a b,s,r=>match z6g a s r with
   | some (.normal,s',r')=>z6g b s' r'
   | x=>x
 | .cond c a b,s,r=>match s.eval c with
   | some (.bool true)=>z6g a s r
   | some (.bool false)=>z6g b s r
   | _=>none
 | .block id c,s,r=>match z6g c s r with
   | some (.exit j,s',r')=>some (if j=id then .normal else .exit j,s',r')
   | x=>x
 | .exit id,s,r=>some (.exit id,s,r)
 | .ret,s,r=>some (.ret,s,r)
 | _,_,_=>none
inductive Mode where
 | ret
 | panic (v:AVal)
def zSo:Mode→Rec
 | .ret=>.idle
 | .panic v=>.active v
def zKX:Rec→Mode
 | .active v=>.panic v
 | _=>.ret
def modeEx:Ex→Mode
 | .panic v=>.panic v
 | _=>.ret
def unwind:List (Nat × List AVal)→Mode→Heap→Nat→Option (Mode × Heap)
 | [],m,H,_=>some (m,H)
 | (f,args) :: ds,m,H,ro=>match E.fns f with
   | none=>none
   | some fn=>match fn.body with
     | none=>none
     | some c=>match z6g E c ⟨args++List.replicate (fn.ntmps - args.length) (.tuple []),H,[],ro,[]⟩ (zSo m) with
       | some (.normal,s,r) | some (.ret,s,r)=>match resultsOf E s fn.results.toList with
         | none=>none
         | some _=>unwind ds (zKX r) s.H ro
       | _=>none
end
def runF (E:Env) (ex:Code→St→Option (Ex × St)) (f:Nat) (args:List AVal) (H:Heap) (ro:Nat):Option (CRes × Heap):=match E.fns f with
 | none=>none
 | some fn=>match fn.body with
   | none=>none
   | some c=>match ex c ⟨args++List.replicate (fn.ntmps - args.length) (.tuple []),H,[],ro,(E.hint f).virt⟩ with
     | none=>none
     | some (.exit _,_)=>none
     | some (e,s)=>match unwind E s.defers (modeEx e) s.H ro with
       | none=>none
       | some (.panic v,H)=>some (.panic v,H)
       | some (.ret,H)=>match resultsOf E { s with H:=H } fn.results.toList with
         | some vs=>some (.ret (one vs),H)
         | none=>none
def exec (E:Env):Nat→Code→St→Option (Ex × St)
 | 0,_,_=>none
 | n+1,c,s=>z1t E (callF E (runF E (exec E n))) (fun b s=>match exec E n b s with
   | some (.normal,s')=>exec E n (.loop b) (trunc s.H.length s')
   | r=>r) c s
def runN (E:Env) (n f:Nat) (args:List AVal) (H:Heap) (ro:Nat):Option (CRes × Heap):=runF E (exec E n) f args H ro
inductive Stat where
 | dead | virt | real (r sh tot:Nat)
structure Ent where
 g:Nat
 sz:Nat
 st:Stat
abbrev BMap:=Nat→Option Ent
def B0:BMap:=fun _=>none
def live (B:BMap) (r:Nat):Prop:=∃ (id:Nat) (e:Ent) (sh tot:Nat),B id=some e∧e.st=.real r sh tot
def avoid (X:Nat→Prop) (B:BMap) (r:Nat):Prop:=X r ∨ live B r
def flatC:List AVal→List AVal
 | []=>[]
 | e :: es=>e.cellsOf++flatC es
theorem z0j (a b:List AVal):flatC (a++b)=flatC a++flatC b:=by
 induction a with
 | nil=>rfl
 | cons x a ih=>simp [flatC,ih]
theorem z8w (a b:List AVal):SizeOf.sizeOf (a++b)+1=SizeOf.sizeOf a+SizeOf.sizeOf b:=by
 induction a with
 | nil=>simp;omega
 | cons x a ih=>simp;omega
theorem z5i (es:List AVal):SizeOf.sizeOf (flatC es)≤SizeOf.sizeOf es:=by
 induction es with
 | nil=>simp [flatC]
 | cons e es ih=>
   have:=z8w e.cellsOf (flatC es)
   have h:SizeOf.sizeOf e.cellsOf≤2+SizeOf.sizeOf e:=by
    cases e <;> simp [AVal.cellsOf] <;> omega
   simp only [flatC]
   cases e <;> simp [AVal.cellsOf] at * <;> omega
def cellsAt (w:World) (r o n:Nat) (vs:List Value):Prop:=
 ∃ (c:Array Value) (T:TypeId) (fz:Nat × Nat),w.heap[r]?=some (.cells c T fz)∧o+n≤c.size∧vs=(c.toList.drop o).take n
mutual
def VRel (Y:Nat→Prop) (w:World) (B:BMap) (a:AVal) (v:Value):Prop:=
 match a with
 | .bool b=>v=.bool b
 | .int k n=>v=.int k n
 | .str l=>v=.string ⟨⟨l⟩⟩
 | .nilptr=>v=.pointer none
 | .ptr id g i f=>∃ ad,v=.pointer (some ad)∧∃ e,B id=some e∧g≤e.g∧(g=e.g→∀ r sh tot,e.st=.real r sh tot→ad=⟨r,sh+i * e.sz+f,none⟩)
 | .lptr e f=>∃ r o vs,v=.pointer (some ⟨r,o+f,none⟩)∧¬ Y r∧cellsAt w r o e.cellsOf.length vs ∧
     (∀ c ∈ e.cellsOf,c.oneC=true) ∧
     (match e with
     | .agg cs=>VRelL Y w B0 cs vs
     | e=>∃ v,vs=[v]∧VRel Y w B0 e v)
 | .lit cl sz es=>∃ ad cap,v=.slice ad es.length cap∧es.length≤cap∧(cl=true→cap=es.length)∧(sz=0→ad=none∧cap=0)∧(ad=none→cap=0) ∧
     (es=[] ∨ ∃ r o vs,ad=some ⟨r,o,none⟩∧¬ Y r∧(∀ e ∈ es,e.cellsOf.length=sz)∧(∀ c ∈ flatC es,c.oneC=true)∧cellsAt w r o (es.length * sz) vs∧VRelL Y w B0 (flatC es) vs)
 | .ref id g i len cl=>∃ ad cap,v=.slice ad len cap∧len≤cap∧(cl=true→cap=len)∧(ad=none→cap=0)∧∃ e,B id=some e∧g≤e.g∧(g=e.g→match e.st with
     | .real r sh tot=>(cl=false→i+cap=tot)∧i+cap≤tot∧(cap=0 ∨ ad=some ⟨r,sh+i * e.sz,none⟩)
     | .virt=>i=0∧cap=0∧(e.sz=0→ad=none)
     | .dead=>True)
 | .view id g i f len=>∃ ad cap,v=.slice ad len cap∧len≤cap∧(ad=none→cap=0)∧∃ e,B id=some e∧g≤e.g∧(g=e.g→∀ r sh tot,e.st=.real r sh tot →
     (cap=0 ∨ ad=some ⟨r,sh+i * e.sz+f,none⟩))
 | .mapp id=>∃ r,v=.map (some r)∧∃ e,B id=some e∧(e.g=0→∀ r' sh tot,e.st=.real r' sh tot→r'=r)
 | .nilmap=>v=.map none
 | .func f a b=>∃ x y,v=.func (.func f) x y∧VRelL Y w B a x.toList∧VRelL Y w B b y.toList
 | .nilfunc=>v=.nilFunc
 | .iface t x=>∃ y,v=.iface t y∧VRel Y w B x y
 | .niliface=>v=.nilIface
 | .agg cs=>∃ vs,v=.agg vs∧VRelL Y w B cs vs.toList∧∀ c ∈ cs,c.oneC=true
 | .tuple cs=>∃ vs,v=.tuple vs∧VRelL Y w B cs vs.toList
 | .undef=>v.oneCell'=true
termination_by SizeOf.sizeOf a
decreasing_by
 all_goals simp_wf
 all_goals (try omega)
 all_goals (have:=z5i es;omega)
def VRelL (Y:Nat→Prop) (w:World) (B:BMap) (l:List AVal) (vs:List Value):Prop:=
 match l,vs with
 | [],[]=>True
 | a :: as,v :: vs=>VRel Y w B a v∧VRelL Y w B as vs
 | _,_=>False
termination_by SizeOf.sizeOf l
end
section lists
variable {Y:Nat→Prop} {w:World} {B:BMap}
theorem z0N:VRelL Y w B [] []:=by simp [VRelL]
theorem z0D {a:AVal} {as:List AVal} {v:Value} {vs:List Value}:VRelL Y w B (a :: as) (v :: vs) ↔ VRel Y w B a v∧VRelL Y w B as vs:=by
 rw [VRelL]
theorem z08 {vs:List Value}:VRelL Y w B [] vs ↔ vs=[]:=by cases vs <;> simp [VRelL]
theorem z05 {a:AVal} {as:List AVal} {vs:List Value}:VRelL Y w B (a :: as) vs ↔ ∃ v vs',vs=v :: vs'∧VRel Y w B a v∧VRelL Y w B as vs':=by
 cases vs with
 | nil=>simp [VRelL]
 | cons v vs=>rw [z0D];exact ⟨fun h=>⟨v,vs,rfl,h⟩,fun ⟨_,_,e,h⟩=>by cases e;exact h⟩
theorem z0O {as:List AVal} {vs:List Value} (h:VRelL Y w B as vs):as.length=vs.length:=by
 induction as generalizing vs with
 | nil=>rw [z08] at h;simp [h]
 | cons a as ih=>obtain ⟨v,vs',rfl,_,h⟩:=z05.1 h;simp [ih h]
theorem z3F {as:List AVal} {vs:List Value} (h:VRelL Y w B as vs) {i:Nat} {a:AVal} (ha:as[i]?=some a):∃ v,vs[i]?=some v∧VRel Y w B a v:=by
 induction as generalizing vs i with
 | nil=>simp at ha
 | cons x as ih=>
   obtain ⟨v,vs',rfl,hx,h⟩:=z05.1 h
   cases i with
   | zero=>simp at ha;subst ha;exact ⟨v,by simp,hx⟩
   | succ i=>simp at ha;simpa using ih h ha
theorem VRelL_append {as bs:List AVal} {vs us:List Value} (h:VRelL Y w B as vs) (h':VRelL Y w B bs us):VRelL Y w B (as++bs) (vs++us):=by
 induction as generalizing vs with
 | nil=>rw [z08] at h;simpa [h] using h'
 | cons x as ih=>obtain ⟨v,vs',rfl,hx,h⟩:=z05.1 h;exact z0D.2 ⟨hx,ih h⟩
theorem zEp {as bs:List AVal} {vs:List Value} (h:VRelL Y w B (as++bs) vs):VRelL Y w B as (vs.take as.length)∧VRelL Y w B bs (vs.drop as.length):=by
 induction as generalizing vs with
 | nil=>simp [z08];simpa using h
 | cons x as ih=>
   obtain ⟨v,vs',rfl,hx,h⟩:=z05.1 h
   obtain ⟨h1,h2⟩:=ih h
   exact ⟨by simpa using z0D.2 ⟨hx,h1⟩,by simpa using h2⟩
theorem VRelL_take {as:List AVal} {vs:List Value} (h:VRelL Y w B as vs) (n:Nat):VRelL Y w B (as.take n) (vs.take n):=by
 induction as generalizing vs n with
 | nil=>rw [z08] at h;simp [h,z08]
 | cons x as ih=>
   obtain ⟨v,vs',rfl,hx,h⟩:=z05.1 h
   cases n with
   | zero=>simp [z08]
   | succ n=>exact z0D.2 ⟨hx,ih h n⟩
theorem VRelL_drop {as:List AVal} {vs:List Value} (h:VRelL Y w B as vs) (n:Nat):VRelL Y w B (as.drop n) (vs.drop n):=by
 induction as generalizing vs n with
 | nil=>rw [z08] at h;simp [h,z08]
 | cons x as ih=>
   obtain ⟨v,vs',rfl,hx,h⟩:=z05.1 h
   cases n with
   | zero=>exact z0D.2 ⟨hx,h⟩
   | succ n=>simpa using ih h n
theorem zIr {as:List AVal} {vs:List Value} (h:VRelL Y w B as vs) {a:AVal} {v:Value} (hv:VRel Y w B a v) (i:Nat):VRelL Y w B (as.set i a) (vs.set i v):=by
 induction as generalizing vs i with
 | nil=>rw [z08] at h;simp [h,z08]
 | cons x as ih=>
   obtain ⟨y,vs',rfl,hx,h⟩:=z05.1 h
   cases i with
   | zero=>exact z0D.2 ⟨hv,h⟩
   | succ i=>exact z0D.2 ⟨hx,ih h i⟩
theorem VRelL_replicate {a:AVal} {v:Value} (h:VRel Y w B a v) (n:Nat):VRelL Y w B (List.replicate n a) (List.replicate n v):=by
 induction n with
 | zero=>simp [z08]
 | succ n ih=>exact z0D.2 ⟨h,ih⟩
end lists
def EntLe (e e':Ent):Prop:=e.g≤e'.g∧(e.g=e'.g→e'.sz=e.sz∧(e'.st=e.st ∨ e'.st=.dead))
theorem EntLe.refl (e:Ent):EntLe e e:=⟨Nat.le_refl _,fun _=>⟨rfl,.inl rfl⟩⟩
theorem EntLe.trans {a b c:Ent} (h:EntLe a b) (h':EntLe b c):EntLe a c:=by
 refine ⟨Nat.le_trans h.1 h'.1,fun e=>?_⟩
 have h1:a.g=b.g:=Nat.le_antisymm h.1 (by have:=h'.1;omega)
 have h2:b.g=c.g:=by omega
 obtain ⟨s1,t1⟩:=h.2 h1
 obtain ⟨s2,t2⟩:=h'.2 h2
 refine ⟨by rw [s2,s1],?_⟩
 rcases t2 with t2 | t2
 · rcases t1 with t1 | t1
   · exact .inl (by rw [t2,t1])
   · exact .inr (by rw [t2,t1])
 · exact .inr t2
def BLe (B B':BMap):Prop:=∀ (id:Nat) (e:Ent),B id=some e→∃ e',B' id=some e'∧EntLe e e'
theorem BLe.refl (B:BMap):BLe B B:=fun _ e h=>⟨e,h,.refl e⟩
theorem BLe.trans {A B C:BMap} (h:BLe A B) (h':BLe B C):BLe A C:=fun id e he=>
 let ⟨e1,h1,l1⟩:=h id e he
 let ⟨e2,h2,l2⟩:=h' id e1 h1
 ⟨e2,h2,l1.trans l2⟩
theorem BLe.nil (B:BMap):BLe B0 B:=fun _ _ h=>by simp [B0] at h
structure Lasts (Y:Nat→Prop) (w:World) (Y':Nat→Prop) (w':World):Prop where
 size:w.heap.size≤w'.heap.size
 same:∀ r,r < w.heap.size→¬ Y r→w'.heap[r]?=w.heap[r]?
 out:∀ r,r < w.heap.size→¬ Y r→¬ Y' r
theorem Lasts.refl (Y:Nat→Prop) (w:World):Lasts Y w Y w:=⟨Nat.le_refl _,fun _ _ _=>rfl,fun _ _ h=>h⟩
theorem Lasts.trans {Y Y' Y'':Nat→Prop} {w w' w'':World} (h:Lasts Y w Y' w') (h':Lasts Y' w' Y'' w''):Lasts Y w Y'' w'':=
 ⟨Nat.le_trans h.size h'.size,fun r hr hy=>by rw [h'.same r (Nat.lt_of_lt_of_le hr h.size) (h.out r hr hy),h.same r hr hy],
  fun r hr hy=>h'.out r (Nat.lt_of_lt_of_le hr h.size) (h.out r hr hy)⟩
theorem cellsAt.lt {w:World} {r o n:Nat} {vs:List Value} (h:cellsAt w r o n vs):r < w.heap.size:=by
 obtain ⟨c,T,fz,hr,_,_⟩:=h
 exact (Array.getElem?_eq_some_iff.1 hr).1
theorem cellsAt.last {Y Y':Nat→Prop} {w w':World} {r o n:Nat} {vs:List Value} (h:cellsAt w r o n vs) (hl:Lasts Y w Y' w') (hy:¬ Y r):cellsAt w' r o n vs:=by
 have hlt:=h.lt
 obtain ⟨c,T,fz,hr,h1,h2⟩:=h
 exact ⟨c,T,fz,by rw [hl.same r hlt hy,hr],h1,h2⟩
theorem AVal.strong {P:AVal→Prop} {Q:List AVal→Prop}
    (hp:∀ a,(∀ b:AVal,SizeOf.sizeOf b < SizeOf.sizeOf a→P b)→(∀ l:List AVal,SizeOf.sizeOf l < SizeOf.sizeOf a→Q l)→P a)
    (hq:∀ l,(∀ b:AVal,SizeOf.sizeOf b < SizeOf.sizeOf l→P b)→(∀ l':List AVal,SizeOf.sizeOf l' < SizeOf.sizeOf l→Q l')→Q l):(∀ a,P a)∧(∀ l,Q l):=by
 have key:∀ n,(∀ a:AVal,SizeOf.sizeOf a < n→P a)∧(∀ l:List AVal,SizeOf.sizeOf l < n→Q l):=by
  intro n
  induction n with
  | zero=>exact ⟨fun _ h=>by omega,fun _ h=>by omega⟩
  | succ n ih=>exact ⟨fun a h=>hp a (fun b hb=>ih.1 b (by omega)) (fun l hl=>ih.2 l (by omega)),fun l h=>hq l (fun b hb=>ih.1 b (by omega)) (fun l' hl=>ih.2 l' (by omega))⟩
 exact ⟨fun a=>(key _).1 a (Nat.lt_succ_self _),fun l=>(key _).2 l (Nat.lt_succ_self _)⟩
theorem VRel.last_both {Y Y':Nat→Prop} {w w':World} (hl:Lasts Y w Y' w'):
    (∀ a:AVal,∀ (B B':BMap) (v:Value),BLe B B'→VRel Y w B a v→VRel Y' w' B' a v) ∧
    (∀ l:List AVal,∀ (B B':BMap) (vs:List Value),BLe B B'→VRelL Y w B l vs→VRelL Y' w' B' l vs):=by
 refine AVal.strong ?_ ?_
 · intro a ihp ihq B B' v hB h
   cases a with
   | bool _ | int _ _ | str _ | nilptr | nilmap | nilfunc | niliface | undef=>simp only [VRel] at h ⊢ <;> exact h
   | ptr id g i f=>
     simp only [VRel] at h ⊢
     obtain ⟨ad,h0,e,he,hg,h⟩:=h
     obtain ⟨e',he',hle⟩:=hB id e he
     refine ⟨ad,h0,e',he',Nat.le_trans hg hle.1,fun hge r sh tot hst=>?_⟩
     have h1:g=e.g:=Nat.le_antisymm hg (by have:=hle.1;omega)
     obtain ⟨hs,hst'⟩:=hle.2 (by omega)
     rcases hst' with hst' | hst'
     · rw [hs];exact h h1 r sh tot (by rw [← hst',hst])
     · rw [hst'] at hst;cases hst
   | lptr e f=>
     simp only [VRel] at h ⊢
     obtain ⟨r,o,vs,hv,hy,hc,h0,h⟩:=h
     refine ⟨r,o,vs,hv,hl.out r hc.lt hy,hc.last hl hy,h0,?_⟩
     cases e with
     | agg cs=>exact ihq cs (by simp;omega) B0 B0 vs (.refl _) h
     | _=>obtain ⟨v,hv,h⟩:=h;exact ⟨v,hv,ihp _ (by simp only [AVal.lptr.sizeOf_spec];omega) B0 B0 v (.refl _) h⟩
   | lit cl sz es=>
     simp only [VRel] at h ⊢
     obtain ⟨ad,cap,h1,h2,h3,h4,h5,h⟩:=h
     refine ⟨ad,cap,h1,h2,h3,h4,h5,h.imp id ?_⟩
     rintro ⟨r,o,vs,e1,e2,e3,e0,e4,e5⟩
     exact ⟨r,o,vs,e1,hl.out r e4.lt e2,e3,e0,e4.last hl e2,ihq (flatC es) (by have:=z5i es;simp;omega) B0 B0 vs (.refl _) e5⟩
   | ref id g i len cl=>
     simp only [VRel] at h ⊢
     obtain ⟨ad,cap,h0,h1,h2,h3,e,he,hg,h⟩:=h
     obtain ⟨e',he',hle⟩:=hB id e he
     refine ⟨ad,cap,h0,h1,h2,h3,e',he',Nat.le_trans hg hle.1,fun hge=>?_⟩
     have h1:g=e.g:=Nat.le_antisymm hg (by have:=hle.1;omega)
     obtain ⟨hs,hst'⟩:=hle.2 (by omega)
     rcases hst' with hst' | hst'
     · rw [hst',hs];exact h h1
     · rw [hst'];trivial
   | view id g i f len=>
     simp only [VRel] at h ⊢
     obtain ⟨ad,cap,h0,h1,h2,e,he,hg,h⟩:=h
     obtain ⟨e',he',hle⟩:=hB id e he
     refine ⟨ad,cap,h0,h1,h2,e',he',Nat.le_trans hg hle.1,fun hge r sh tot hst=>?_⟩
     have h1:g=e.g:=Nat.le_antisymm hg (by have:=hle.1;omega)
     obtain ⟨hs,hst'⟩:=hle.2 (by omega)
     rcases hst' with hst' | hst'
     · rw [hs];exact h h1 r sh tot (by rw [← hst',hst])
     · rw [hst'] at hst;cases hst
   | mapp id=>
     simp only [VRel] at h ⊢
     obtain ⟨q,h0,e,he,h⟩:=h
     obtain ⟨e',he',hle⟩:=hB id e he
     refine ⟨q,h0,e',he',fun hge r sh tot hst=>?_⟩
     have h1:e.g=0:=by have:=hle.1;omega
     obtain ⟨_,hst'⟩:=hle.2 (by omega)
     rcases hst' with hst' | hst'
     · exact h h1 r sh tot (by rw [← hst',hst])
     · rw [hst'] at hst;cases hst
   | func f a b=>
     simp only [VRel] at h ⊢
     obtain ⟨x,y,h1,h2,h3⟩:=h
     exact ⟨x,y,h1,ihq a (by simp;omega) B B' _ hB h2,ihq b (by simp;omega) B B' _ hB h3⟩
   | iface t x=>
     simp only [VRel] at h ⊢
     obtain ⟨y,h1,h2⟩:=h
     exact ⟨y,h1,ihp x (by simp;omega) B B' y hB h2⟩
   | agg cs=>
     simp only [VRel] at h ⊢
     obtain ⟨vs,h1,h2,h3⟩:=h
     exact ⟨vs,h1,ihq cs (by simp) B B' _ hB h2,h3⟩
   | tuple cs=>
     simp only [VRel] at h ⊢
     obtain ⟨vs,h1,h2⟩:=h
     exact ⟨vs,h1,ihq cs (by simp) B B' _ hB h2⟩
 · intro l ihp ihq B B' vs hB h
   cases l with
   | nil=>rw [z08] at h ⊢;exact h
   | cons a as=>
     obtain ⟨v,vs',rfl,hx,h⟩:=z05.1 h
     exact z0D.2 ⟨ihp a (by simp;omega) B B' v hB hx,ihq as (by simp;omega) B B' vs' hB h⟩
theorem VRel.last {Y Y':Nat→Prop} {w w':World} (hl:Lasts Y w Y' w') {a:AVal} {B B':BMap} {v:Value} (hB:BLe B B') (h:VRel Y w B a v):VRel Y' w' B' a v:=
 (VRel.last_both hl).1 a B B' v hB h
theorem VRelL.last {Y Y':Nat→Prop} {w w':World} (hl:Lasts Y w Y' w') {l:List AVal} {B B':BMap} {vs:List Value} (hB:BLe B B') (h:VRelL Y w B l vs):VRelL Y' w' B' l vs:=
 (VRel.last_both hl).2 l B B' vs hB h
theorem VRel.one {Y:Nat→Prop} {w:World} {B:BMap} {a:AVal} {v:Value} (h:VRel Y w B a v) (ha:a.oneC=true):v.oneCell'=true:=by
 cases a <;> simp only [VRel] at h <;> first
  | (subst h;rfl)
  | exact h
  | (simp [AVal.oneC] at ha;done)
  | (obtain ⟨_,_,_,h,_⟩:=h;subst h;rfl)
  | (obtain ⟨_,_,h,_⟩:=h;subst h;rfl)
  | (obtain ⟨_,h,_⟩:=h;subst h;rfl)
theorem VRelL.one {Y:Nat→Prop} {w:World} {B:BMap} {l:List AVal} {vs:List Value} (h:VRelL Y w B l vs) (ha:∀ a ∈ l,a.oneC=true):∀ v ∈ vs,v.oneCell'=true:=by
 induction l generalizing vs with
 | nil=>rw [z08] at h;simp [h]
 | cons a l ih=>
   obtain ⟨v,vs',rfl,hx,h⟩:=z05.1 h
   intro u hu
   rcases List.mem_cons.1 hu with rfl | hu
   · exact hx.one (ha a (by simp))
   · exact ih h (fun x hx=>ha x (by simp [hx])) u hu
theorem VRel.cells {Y:Nat→Prop} {w:World} {B:BMap} {a:AVal} {v:Value} (h:VRel Y w B a v) (ha:a.isTuple=false):
    VRelL Y w B a.cellsOf v.cells.toList∧∀ c ∈ a.cellsOf,c.oneC=true:=by
 by_cases hc:a.oneC=true
 · have h1:=h.one hc
   have h2:v.cells=#[v]:=by cases v <;> simp_all [Value.cells,Value.oneCell']
   have h3:a.cellsOf=[a]:=by cases a <;> simp_all [AVal.cellsOf,AVal.oneC]
   rw [h2,h3]
   exact ⟨z0D.2 ⟨h,z0N⟩,by simpa using hc⟩
 · cases a <;> simp_all [AVal.oneC,AVal.isTuple]
   simp only [VRel] at h
   obtain ⟨vs,rfl,h1,h2⟩:=h
   exact ⟨h1,h2⟩
theorem z0a {es:List AVal} {sz:Nat} (h:∀ e ∈ es,e.cellsOf.length=sz):(flatC es).length=es.length * sz:=by
 induction es with
 | nil=>simp [flatC]
 | cons e es ih=>
   simp only [flatC,List.length_append,List.length_cons]
   rw [h e (by simp),ih (fun x hx=>h x (by simp [hx]))]
   rw [Nat.succ_mul];omega
def MRel (Y:Nat→Prop) (w:World):List (AVal × AVal)→List MapEntry→Prop
 | [],[]=>True
 | (k,v) :: m,e :: es=>VRel Y w B0 k e.key∧VRel Y w B0 v e.val∧MRel Y w m es
 | _,_=>False
def BOk (Y:Nat→Prop) (w:World) (B:BMap) (b:Blk) (e:Ent):Prop:=match b,e.st with
 | .cells g sz fl es,.real r sh tot=>(e.g=g∧0 < sz)∧e.sz=sz∧es.length≤tot∧(∀ x ∈ es,x.cellsOf.length=sz)∧(∀ c ∈ flatC es,c.oneC=true) ∧
     ∃ (c:Array Value) (T:TypeId),w.heap[r]?=some (.cells c T (0,0))∧c.size=sh+tot * sz ∧
      VRelL Y w (if fl then B0 else B) (flatC es) ((c.toList.drop sh).take (es.length * sz))
 | .cells g sz _ es,.virt=>e.g=g∧e.sz=sz∧es=[]
 | .map m,.real r _ _=>e.g=0∧∃ (me:Array MapEntry) (cl:Nat),w.heap[r]?=some (.map me cl)∧MRel Y w m me.toList
 | .dead,.dead=>True
 | _,_=>False
structure HRel (B:BMap) (X:Nat→Prop) (w:World) (H:Heap):Prop where
 dom:∀ id e,B id=some e→id < H.length
 inj:∀ id id' e e' r s t s' t',B id=some e→B id'=some e'→e.st=.real r s t→e'.st=.real r s' t'→id=id'
 lt:∀ id e r s t,B id=some e→e.st=.real r s t→r < w.heap.size∧¬ X r
 xlt:∀ r,X r→r < w.heap.size
 blk:∀ id b,H[id]?=some b→(b=.free∧B id=none) ∨ ∃ e,B id=some e∧BOk (avoid X B) w B b e
theorem live.of {B:BMap} {id:Nat} {e:Ent} {r s t:Nat} (h:B id=some e) (h':e.st=.real r s t):live B r:=⟨id,e,s,t,h,h'⟩
theorem MRel.last {Y Y':Nat→Prop} {w w':World} (hl:Lasts Y w Y' w') {m:List (AVal × AVal)} {es:List MapEntry} (h:MRel Y w m es):MRel Y' w' m es:=by
 induction m generalizing es with
 | nil=>cases es <;> simp_all [MRel]
 | cons x m ih=>
   obtain ⟨k,v⟩:=x
   cases es with
   | nil=>simp [MRel] at h
   | cons e es=>
     obtain ⟨h1,h2,h3⟩:=h
     exact ⟨h1.last hl (.refl _),h2.last hl (.refl _),ih h3⟩
theorem BOk.last {Y Y':Nat→Prop} {w w':World} (hl:Lasts Y w Y' w') {B B':BMap} (hB:BLe B B') {b:Blk} {e:Ent} (h:BOk Y w B b e)
    (hs:∀ r s t,e.st=.real r s t→w'.heap[r]?=w.heap[r]?):BOk Y' w' B' b e:=by
 unfold BOk at h ⊢
 split at h
 · rename_i g sz fl es r sh tot hst
   obtain ⟨h1,h2,h3,h4,h0,c,T,h5,h6,h7⟩:=h
   refine ⟨h1,h2,h3,h4,h0,c,T,by rw [hs r sh tot hst,h5],h6,?_⟩
   cases fl with
   | true=>exact h7.last hl (.refl _)
   | false=>exact h7.last hl hB
 · exact h
 · rename_i m r s t hst
   obtain ⟨h0,me,cl,h1,h2⟩:=h
   exact ⟨h0,me,cl,by rw [hs r s t hst,h1],h2.last hl⟩
 · trivial
 · exact h.elim
def upd (B:BMap) (id:Nat) (e:Ent):BMap:=fun j=>if j=id then some e else B j
theorem z1H (B:BMap) (id:Nat) (e:Ent):upd B id e id=some e:=by simp [upd]
theorem z1X (B:BMap) {id j:Nat} (e:Ent) (h:j ≠ id):upd B id e j=B j:=by simp [upd,h]
theorem HRel.upd {B:BMap} {X:Nat→Prop} {w w':World} {H:Heap} (h:HRel B X w H) {id:Nat} {b:Blk} {e:Ent} (hid:id < H.length)
    (hsz:w.heap.size≤w'.heap.size)
    (hsame:∀ r,r < w.heap.size→(∀ e0 s t,B id=some e0→e0.st ≠ .real r s t)→w'.heap[r]?=w.heap[r]?)
    (hle:∀ e0,B id=some e0→EntLe e0 e)
    (hreal:∀ r s t,e.st=.real r s t→r < w'.heap.size∧((w.heap.size≤r) ∨ ∃ e0 s0 t0,B id=some e0∧e0.st=.real r s0 t0))
    (hok:∀ Y' B',Lasts (avoid X B) w Y' w'→BLe B B'→BOk Y' w' B' b e):
    HRel (upd B id e) X w' (H.set id b)∧Lasts (avoid X B) w (avoid X (upd B id e)) w'∧BLe B (upd B id e):=by
 have hB:BLe B (Tidy.upd B id e):=by
  intro j e0 he0
  by_cases hj:j=id
  · subst hj;exact ⟨e,z1H _ _ _,hle e0 he0⟩
  · exact ⟨e0,by rw [z1X _ _ hj,he0],.refl _⟩
 have hlive:∀ r,live (Tidy.upd B id e) r→live B r ∨ w.heap.size≤r:=by
  rintro r ⟨j,e1,s,t,h1,h2⟩
  by_cases hj:j=id
  · subst hj;rw [z1H] at h1;cases h1
    rcases (hreal r s t h2).2 with h3 | ⟨e0,s0,t0,h3,h4⟩
    · exact .inr h3
    · exact .inl ⟨_,_,_,_,h3,h4⟩
  · rw [z1X _ _ hj] at h1;exact .inl ⟨_,_,_,_,h1,h2⟩
 have hl:Lasts (avoid X B) w (avoid X (Tidy.upd B id e)) w':=by
  refine ⟨hsz,fun r hr hy=>hsame r hr fun e0 s t h1 h2=>hy (.inr ⟨_,_,_,_,h1,h2⟩),fun r hr hy hy'=>?_⟩
  rcases hy' with hx | hx
  · exact hy (.inl hx)
  · rcases hlive r hx with h1 | h1
    · exact hy (.inr h1)
    · omega
 refine ⟨⟨?_,?_,?_,?_,?_⟩,hl,hB⟩
 · intro j e1 h1
   by_cases hj:j=id
   · subst hj;simpa using hid
   · rw [z1X _ _ hj] at h1;simpa using h.dom j e1 h1
 · intro j j' e1 e2 r s t s' t' h1 h2 h3 h4
   by_cases hj:j=id
   · by_cases hj':j'=id
     · rw [hj,hj']
     · subst hj;rw [z1H] at h1;cases h1
       rw [z1X _ _ hj'] at h2
       rcases (hreal r s t h3).2 with h5 | ⟨e0,s0,t0,h5,h6⟩
       · have:=(h.lt j' e2 r s' t' h2 h4).1;omega
       · exact h.inj _ _ _ _ _ _ _ _ _ h5 h2 h6 h4
   · rw [z1X _ _ hj] at h1
     by_cases hj':j'=id
     · subst hj';rw [z1H] at h2;cases h2
       rcases (hreal r s' t' h4).2 with h5 | ⟨e0,s0,t0,h5,h6⟩
       · have:=(h.lt j e1 r s t h1 h3).1;omega
       · exact h.inj _ _ _ _ _ _ _ _ _ h1 h5 h3 h6
     · rw [z1X _ _ hj'] at h2;exact h.inj _ _ _ _ _ _ _ _ _ h1 h2 h3 h4
 · intro j e1 r s t h1 h2
   by_cases hj:j=id
   · subst hj;rw [z1H] at h1;cases h1
     refine ⟨(hreal r s t h2).1,fun hx=>?_⟩
     rcases (hreal r s t h2).2 with h5 | ⟨e0,s0,t0,h5,h6⟩
     · have:=h.xlt r hx;omega
     · exact (h.lt _ _ _ _ _ h5 h6).2 hx
   · rw [z1X _ _ hj] at h1
     have:=h.lt j e1 r s t h1 h2
     exact ⟨by omega,this.2⟩
 · intro r hx;have:=h.xlt r hx;omega
 · intro j b1 h1
   by_cases hj:j=id
   · subst hj
     rw [List.getElem?_set_self hid] at h1;cases h1
     exact .inr ⟨e,z1H _ _ _,hok _ _ hl hB⟩
   · rw [List.getElem?_set_ne (fun h=>hj h.symm)] at h1
     rcases h.blk j b1 h1 with ⟨h2,h3⟩ | ⟨e1,h2,h3⟩
     · exact .inl ⟨h2,by rw [z1X _ _ hj,h3]⟩
     · refine .inr ⟨e1,by rw [z1X _ _ hj,h2],h3.last hl hB fun r s t hst=>?_⟩
       refine hsame r (h.lt j e1 r s t h2 hst).1 fun e0 s0 t0 h4 h5=>hj (h.inj _ _ _ _ _ _ _ _ _ h2 h4 hst h5)
theorem HRel.slots {B:BMap} {X:Nat→Prop} {w:World} {H:Heap} (h:HRel B X w H) (k:Nat):HRel B X w (H++List.replicate k .free):=by
 refine ⟨fun id e he=>by have:=h.dom id e he;simp;omega,h.inj,h.lt,h.xlt,fun id b hb=>?_⟩
 by_cases hid:id < H.length
 · rw [List.getElem?_append_left hid] at hb;exact h.blk id b hb
 · rw [List.getElem?_append_right (by omega)] at hb
   have hb':b=.free:=by
    have:=List.mem_of_getElem? hb;exact (List.mem_replicate.1 this).2
   refine .inl ⟨hb',?_⟩
   cases hB:B id with
   | none=>rfl
   | some e=>exact absurd (h.dom id e hB) hid
theorem HRel.free {B:BMap} {X:Nat→Prop} {w:World} {H:Heap} (h:HRel B X w H) {id:Nat} (hid:H[id]?=some .free):B id=none:=by
 rcases h.blk id _ hid with ⟨_,h1⟩ | ⟨e,_,h2⟩
 · exact h1
 · unfold BOk at h2;exact h2.elim
theorem HRel.world {B:BMap} {X:Nat→Prop} {w w':World} {H:Heap} (h:HRel B X w H) (hsz:w.heap.size≤w'.heap.size)
    (hsame:∀ r,r < w.heap.size→w'.heap[r]?=w.heap[r]?):HRel B X w' H∧Lasts (avoid X B) w (avoid X B) w':=by
 have hl:Lasts (avoid X B) w (avoid X B) w':=⟨hsz,fun r hr _=>hsame r hr,fun _ _ h=>h⟩
 refine ⟨⟨h.dom,h.inj,fun id e r s t h1 h2=>?_,fun r hx=>?_,fun id b hb=>?_⟩,hl⟩
 · have:=h.lt id e r s t h1 h2;exact ⟨by omega,this.2⟩
 · have:=h.xlt r hx;omega
 · rcases h.blk id b hb with h1 | ⟨e,h1,h2⟩
   · exact .inl h1
   · exact .inr ⟨e,h1,h2.last hl (.refl _) fun r s t hst=>hsame r (h.lt id e r s t h1 hst).1⟩
def tyd:TypeDesc→TyD
 | .bool=>.bool
 | .int k=>.int k
 | .string=>.string
 | .pointer e=>.ptr e
 | .slice e=>.slice e
 | .array n e=>.array n e
 | .struct fs=>.struct (fs.toList.map fun f=>(f.type,f.offset))
 | .map k e=>.map k e
 | .func ..=>.func
 | .interface _=>.iface
 | _=>.other
structure TOk (P:Program) (t:Nat) (ti:TI) (info:TypeInfo) (d:TypeDesc) (z:Value):Prop where
 inf:P.info? t=some info
 und:P.underlying t=some d
 d:tyd d=ti.d
 sz:info.size=ti.sz
 by_:info.bytes=ti.bytes
 hz:info.zero=some z
 zero:∀ Y w B,VRel Y w B ti.zero z
structure EqOk (P:Program) (q:EqTy):Prop where
 und:∃ d,P.underlying q.t=some d
 eq:∀ (Y:Nat→Prop) (w:World) (B:BMap) (x y:AVal) (xv yv:Value) (b:Bool),q.fits x=true→VRel Y w B x xv→VRel Y w B y yv→eqv x y=some b→(Op.equal q.t xv yv).run P w=.ok b w
 guard:P.eqGuardType P.depth q.t=false
 key:∀ (Y:Nat→Prop) (w:World) (B:BMap) (x:AVal) (xv:Value) (e:Bool),q.fits x=true→VRel Y w B x xv→(Instr.checkKey e 10000 q.t xv).run P w=.ok () w
structure EnvOk (E:Env) (P:Program):Prop where
 eqs:∀ q ∈ E.eqs,EqOk P q
 ty:∀ t ti,E.ti t=some ti→∃ info d z,TOk P t ti info d z
 fn:∀ f fn,E.fns f=some fn→P.funcs[f]?=some fn∧(fn.name == "runtime.NumGoroutine")=false
theorem EnvOk.keyOk {E:Env} {P:Program} (hE:EnvOk E P) {t:Nat} {v:AVal} (h:E.keyOk t v=true):∃ q,EqOk P q∧q.t=t∧q.fits v=true:=by
 unfold Env.keyOk at h
 rw [List.any_eq_true] at h
 obtain ⟨q,h1,h2⟩:=h
 simp only [Bool.and_eq_true,beq_iff_eq] at h2
 exact ⟨q,hE.eqs q h1,h2.1,h2.2⟩
theorem zBr:∀ {ds:List TyD} {vs:List AVal},z3Z ds vs=true→(eqvL vs vs).isSome=true
 | [],[],_=>rfl
 | d :: ds,v :: vs,h=>by
   simp only [z3Z,Bool.and_eq_true] at h
   obtain ⟨x,hx⟩:=Option.isSome_iff_exists.1 (zBr h.2)
   cases d <;> cases v <;> simp_all [scal,eqvL,eqv]
 | [],_ :: _,h=>by simp [z3Z] at h
 | _ :: _,[],h=>by simp [z3Z] at h
theorem EqTy.fits_self {q:EqTy} {v:AVal} (h:q.fits v=true):(eqv v v).isSome=true:=by
 obtain ⟨t,ag,ds⟩:=q
 unfold EqTy.fits at h
 split at h
 · rename_i cs
   simp only [Bool.and_eq_true] at h
   simpa [eqv] using zBr h.2
 · simp only [Bool.and_eq_true] at h
   have h2:=h.2
   match ds,h2 with
   | [d],h2=>
     simp only [z3Z,Bool.and_true] at h2
     cases d <;> cases v <;> simp_all [scal,eqv]
   | [],h2=>simp [z3Z] at h2
   | _ :: _ :: _,h2=>simp [z3Z] at h2
section
variable {P:Program} {w:World}
theorem z0G {t:Nat} {d:TypeDesc} (h:P.underlying t=some d) (w:World):(underlying t).run P w=.ok d w:=by
 simp [underlying,program,Sem.run,h]
theorem z7k {t:Nat} {i:TypeInfo} (h:P.info? t=some i) (w:World):(typeInfo t).run P w=.ok i w:=by
 simp [typeInfo,program,Sem.run,h]
theorem z0t {t:Nat} {i:TypeInfo} (h:P.info? t=some i) (w:World):(Go.sizeOf t).run P w=.ok i.size w:=by
 simp [Go.sizeOf,z7k h]
theorem z2y {t:Nat} {i:TypeInfo} {z:Value} (h:P.info? t=some i) (hz:i.zero=some z) (w:World):(zeroValue t).run P w=.ok z w:=by
 simp [zeroValue,z7k h,hz]
theorem zKw {t:Nat} {ti:TI} {i:TypeInfo} {d:TypeDesc} {z:Value} (h:TOk P t ti i d z) (w:World):(isAgg t).run P w=.ok ti.agg w:=by
 have hd:=h.d
 simp only [isAgg,Sem.run_bind,z0G h.und,Result.andThen_ok]
 cases d <;> simp_all [TI.agg,tyd] <;> simp [← hd]
theorem zM4 {r o j:Nat} {c:Array Value} {T:TypeId} {fz:Nat × Nat} (hc:w.heap[r]?=some (.cells c T fz)):w.cell? ((⟨r,o,none⟩:Addr).add j)=c[o+j]?:=by
 unfold Addr.add
 split
 · rename_i h;subst h;simp [World.cell?,hc]
 · simp [World.cell?,hc]
theorem z21 {r o n:Nat} {c:Array Value} {T:TypeId} {fz:Nat × Nat} (hc:w.heap[r]?=some (.cells c T fz)) (hn:o+n≤c.size):
    (loadCells ⟨r,o,none⟩ n).run P w=.ok ((c.toList.drop o).take n).toArray w:=by
 have:=run_loadCells_list (P:=P) w ⟨r,o,none⟩ ((c.toList.drop o).take n) (fun j v hj=>by
  rw [zM4 hc]
  rw [List.getElem?_take] at hj
  split at hj
  · rw [List.getElem?_drop] at hj;simpa using hj
  · cases hj)
 have hl:((c.toList.drop o).take n).length=n:=by simp;omega
 rw [hl] at this
 exact this
theorem z4g {t:Nat} {ti:TI} {i:TypeInfo} {d:TypeDesc} {z:Value} (h:TOk P t ti i d z) {Y:Nat→Prop} {B:BMap} {r o f:Nat} {c:Array Value} {T:TypeId} {fz:Nat × Nat}
    (hc:w.heap[r]?=some (.cells c T fz)) {cs:List AVal} (hn:o+cs.length≤c.size) (hr:VRelL Y w B cs ((c.toList.drop o).take cs.length)) (h1c:∀ x ∈ cs,x.oneC=true) {v:AVal} (hv:part ti cs f=some v):
    ∃ v',(loadVar t ⟨r,o+f,none⟩).run P w=.ok v' w∧VRel Y w B v v':=by
 unfold part at hv
 simp only [loadVar,Sem.run_bind,zKw h,Result.andThen_ok]
 cases ha:ti.agg with
 | true=>
   simp only [ha,if_true] at hv
   split at hv
   · rename_i hf
     cases hv
     simp only [if_true,Sem.run_bind,z0t h.inf,Result.andThen_ok]
     rw [h.sz,z21 hc (by omega)]
     refine ⟨_,rfl,?_⟩
     simp only [VRel]
     refine ⟨_,rfl,?_,fun x hx=>h1c x (List.mem_of_mem_drop (List.mem_of_mem_take hx))⟩
     have:=VRelL_take (VRelL_drop hr f) ti.sz
     rw [List.drop_take,List.drop_drop] at this
     rw [List.take_take] at this
     rwa [Nat.min_eq_left (by omega)] at this
   · cases hv
 | false=>
   simp only [ha,Bool.false_eq_true,if_false] at hv ⊢
   obtain ⟨v',h1,h2⟩:=z3F hr hv
   have hlt:f < cs.length:=(List.getElem?_eq_some_iff.1 hv).1
   rw [List.getElem?_take,if_pos hlt,List.getElem?_drop] at h1
   refine ⟨v',?_,h2⟩
   have:w.cell? ⟨r,o+f,none⟩=some v':=by simp only [World.cell?,hc];simpa using h1
   simp [run_load,this]
theorem z1m {es:List AVal} {sz:Nat} (h:∀ x ∈ es,x.cellsOf.length=sz) (i:Nat):flatC (es.take i)=(flatC es).take (i * sz):=by
 induction es generalizing i with
 | nil=>simp [flatC]
 | cons e es ih=>
   cases i with
   | zero=>simp [flatC]
   | succ i=>
     have he:e.cellsOf.length=sz:=h e (by simp)
     simp only [List.take_succ_cons,flatC]
     rw [ih (fun x hx=>h x (by simp [hx])),Nat.succ_mul,List.take_append,he]
     rw [List.take_of_length_le (l:=e.cellsOf) (by omega),show i * sz+sz - sz=i * sz by omega]
theorem z1k {es:List AVal} {sz:Nat} (h:∀ x ∈ es,x.cellsOf.length=sz) (i:Nat):flatC (es.drop i)=(flatC es).drop (i * sz):=by
 induction es generalizing i with
 | nil=>simp [flatC]
 | cons e es ih=>
   cases i with
   | zero=>simp
   | succ i=>
     have he:e.cellsOf.length=sz:=h e (by simp)
     simp only [List.drop_succ_cons,flatC]
     rw [ih (fun x hx=>h x (by simp [hx])),Nat.succ_mul,List.drop_append,he]
     rw [List.drop_of_length_le (l:=e.cellsOf) (by omega),show i * sz+sz - sz=i * sz by omega]
     simp
theorem z5y {es:List AVal} {sz i:Nat} {e:AVal} (h:∀ x ∈ es,x.cellsOf.length=sz) (hi:es[i]?=some e):((flatC es).drop (i * sz)).take sz=e.cellsOf:=by
 rw [← z1k h]
 have hlt:=(List.getElem?_eq_some_iff.1 hi)
 obtain ⟨h1,h2⟩:=hlt
 rw [List.drop_eq_getElem_cons h1,h2,flatC]
 have he:e.cellsOf.length=sz:=h e (List.mem_of_getElem? hi)
 rw [List.take_append,he,List.take_of_length_le (by omega)]
 simp
theorem zA1 {es:List AVal} {e c:AVal} (he:e ∈ es) (hc:c ∈ e.cellsOf):c ∈ flatC es:=by
 induction es with
 | nil=>cases he
 | cons x es ih=>
   simp only [flatC,List.mem_append]
   rcases List.mem_cons.1 he with rfl | he
   · exact .inl hc
   · exact .inr (ih he)
theorem z87 {Y:Nat→Prop} {B:BMap} {es:List AVal} {sz i sh:Nat} {e:AVal} {c:Array Value} (h:∀ x ∈ es,x.cellsOf.length=sz) (hi:es[i]?=some e)
    (hc:VRelL Y w B (flatC es) ((c.toList.drop sh).take (es.length * sz))):VRelL Y w B e.cellsOf ((c.toList.drop (sh+i * sz)).take e.cellsOf.length):=by
 have he:e.cellsOf.length=sz:=h e (List.mem_of_getElem? hi)
 have hlt:=(List.getElem?_eq_some_iff.1 hi).1
 have:=VRelL_take (VRelL_drop hc (i * sz)) sz
 rw [z5y h hi,List.drop_take,List.drop_drop,List.take_take] at this
 rw [he]
 have hm:(i+1) * sz≤es.length * sz:=Nat.mul_le_mul_right _ hlt
 rw [Nat.succ_mul] at hm
 rwa [Nat.min_eq_left (by omega)] at this
theorem z33 {H:Heap} {id g i:Nat} {sz:Nat} {fl:Bool} {es:List AVal} {e:AVal} (h:z5N H id g i=some (sz,fl,es,e)):H[id]?=some (.cells g sz fl es)∧es[i]?=some e:=by
 unfold z5N at h
 split at h
 · rename_i g' sz' fl' es' hH
   split at h
   · rename_i hg;subst hg
     split at h
     · rename_i e' he;cases h;exact ⟨hH,he⟩
     · cases h
   · cases h
 · cases h
theorem HRel.cells {B:BMap} {X:Nat→Prop} {H:Heap} (h:HRel B X w H) {id g sz:Nat} {fl:Bool} {es:List AVal} (hid:H[id]?=some (.cells g sz fl es)):
    ∃ e,B id=some e∧e.g=g∧e.sz=sz ∧
     ((e.st=.virt∧es=[]) ∨ ∃ r sh tot,e.st=.real r sh tot∧(es.length≤tot∧0 < sz)∧(∀ x ∈ es,x.cellsOf.length=sz)∧(∀ c ∈ flatC es,c.oneC=true) ∧
       ∃ (c:Array Value) (T:TypeId),w.heap[r]?=some (.cells c T (0,0))∧c.size=sh+tot * sz ∧
        VRelL (avoid X B) w (if fl then B0 else B) (flatC es) ((c.toList.drop sh).take (es.length * sz))):=by
 rcases h.blk id _ hid with ⟨h1,_⟩ | ⟨e,h1,h2⟩
 · cases h1
 · unfold BOk at h2
   split at h2
   · rename_i g' sz' fl' es' r sh tot hb hst
     cases hb
     obtain ⟨a1,a2,a3,a4,a0,c,T,a5,a6,a7⟩:=h2
     exact ⟨e,h1,a1.1,a2,.inr ⟨r,sh,tot,hst,⟨a3,a1.2⟩,a4,a0,c,T,a5,a6,a7⟩⟩
   · rename_i hb hst;cases hb;exact ⟨e,h1,h2.1,h2.2.1,.inl ⟨hst,h2.2.2⟩⟩
   · rename_i hb _;cases hb
   · rename_i hb _;cases hb
   · exact h2.elim
theorem VRelL.flat {Y:Nat→Prop} {B:BMap} {fl:Bool} {l:List AVal} {vs:List Value} (h:VRelL Y w (if fl then B0 else B) l vs):VRelL Y w B l vs:=by
 cases fl with
 | true=>exact h.last (.refl _ _) (.nil _)
 | false=>exact h
theorem zBq {E:Env} (hE:EnvOk E P) {X:Nat→Prop} {B:BMap} {H:Heap} (hH:HRel B X w H) {t:Nat} {a v:AVal} {av:Value} (ha:VRel (avoid X B) w B a av) (h:load E t a H=some v):
    ∃ v',(Instr.loadAt t av).run P w=.ok v' w∧VRel (avoid X B) w B v v':=by
 unfold load at h
 cases ht:E.ti t with
 | none=>simp [ht] at h
 | some ti=>
   obtain ⟨info,d,z,hT⟩:=hE.ty t ti ht
   simp only [ht] at h
   cases a with
   | lptr e f=>
     simp only [VRel] at ha
     obtain ⟨r,o,vs,rfl,hy,⟨c,T,fz,hc,hn,hvs⟩,h1c,hr⟩:=ha
     simp only [zED] at h
     have hr':VRelL (avoid X B) w B0 e.cellsOf ((c.toList.drop o).take e.cellsOf.length):=by
      rw [← hvs]
      cases e with
      | agg cs=>exact hr
      | _=>obtain ⟨v,rfl,hr⟩:=hr;exact z0D.2 ⟨hr,z0N⟩
     obtain ⟨v',h1,h2⟩:=z4g hT (f:=f) hc hn hr' h1c h
     exact ⟨v',by simpa [Instr.loadAt,Instr.sureAddr] using h1,h2.last (.refl _ _) (.nil _)⟩
   | ptr id g i f=>
     simp only at h
     split at h
     · rename_i sz fl es e hel
       obtain ⟨hb,hi⟩:=z33 hel
       obtain ⟨en,hB,hg,hs,hh⟩:=hH.cells hb
       simp only [VRel] at ha
       obtain ⟨ad,rfl,en',hB',_,ha⟩:=ha
       rw [hB] at hB';cases hB'
       rcases hh with ⟨_,hnil⟩ | ⟨r,sh,tot,hst,⟨hlen,_⟩,hall,h1c,c,T,hc,hcs,hr⟩
       · rw [hnil] at hi;simp at hi
       · have hav:=ha hg.symm r sh tot hst
         subst hav
         have hlt:=(List.getElem?_eq_some_iff.1 hi).1
         have he:e.cellsOf.length=sz:=hall e (List.mem_of_getElem? hi)
         have hm:(i+1) * sz≤tot * sz:=Nat.mul_le_mul_right _ (by omega)
         rw [Nat.succ_mul] at hm
         have:=z87 hall hi hr.flat
         simp only [zED] at h
         rw [hs]
         obtain ⟨v',h1,h2⟩:=z4g hT (f:=f) hc (o:=sh+i * sz) (by omega) this (fun x hx=>h1c x (zA1 (List.mem_of_getElem? hi) hx)) h
         exact ⟨v',by simpa [Instr.loadAt,Instr.sureAddr] using h1,h2⟩
     · cases h
   | _=>simp at h
end
def putAt {α:Type} (l:List α) (k:Nat) (a:List α):List α:=l.take k++a++l.drop (k+a.length)
theorem getElem?_putAt {α:Type} {l a:List α} {k:Nat} (h:k+a.length≤l.length) (j:Nat):(putAt l k a)[j]?=if k≤j∧j < k+a.length then a[j - k]? else l[j]?:=by
 unfold putAt
 have hk:(l.take k).length=k:=by simp;omega
 by_cases h1:j < k
 · rw [if_neg (by omega),List.append_assoc,List.getElem?_append_left (by omega),List.getElem?_take,if_pos h1]
 · by_cases h2:j < k+a.length
   · rw [if_pos (by omega),List.append_assoc,List.getElem?_append_right (by omega),hk,List.getElem?_append_left (by omega)]
   · rw [if_neg (by omega),List.getElem?_append_right (by simp;omega),List.getElem?_drop]
     congr 1
     simp;omega
theorem z0p {α:Type} {l a:List α} {k:Nat} (h:k+a.length≤l.length):(putAt l k a).length=l.length:=by
 unfold putAt;simp;omega
theorem z1L (l:List AVal) (i:Nat) (vs:List AVal) (h:i+vs.length≤l.length):putList l i vs=putAt l i vs:=by
 induction vs generalizing l i with
 | nil=>simp [putList,putAt]
 | cons v vs ih=>
   simp only [List.length_cons] at h
   rw [putList,ih (l.set i v) (i+1) (by simp;omega)]
   apply List.ext_getElem?
   intro j
   rw [getElem?_putAt (by simp;omega),getElem?_putAt (by simp;omega)]
   simp only [List.length_cons,List.getElem?_set]
   by_cases h1:j=i
   · subst h1;rw [if_neg (by omega),if_pos rfl,if_pos (by omega),if_pos (by omega)];simp
   · by_cases h2:i+1≤j∧j < i+1+vs.length
     · rw [if_pos h2,if_pos (by omega)]
       rw [show j - i=(j - (i+1))+1 by omega,List.getElem?_cons_succ]
     · rw [if_neg h2,if_neg (fun h=>h1 h.symm),if_neg (by omega)]
section
variable {Y:Nat→Prop} {w:World} {B:BMap}
theorem z5G {l a:List AVal} {vs us:List Value} {k:Nat} (h:VRelL Y w B l vs) (h':VRelL Y w B a us) (_hk:k+a.length≤l.length):VRelL Y w B (putAt l k a) (putAt vs k us):=by
 have e':=z0O h'
 unfold putAt
 rw [← e']
 exact VRelL_append (VRelL_append (VRelL_take h k) h') (VRelL_drop h _)
end
theorem putAt_in {α:Type} {l a:List α} {sh k n:Nat} (h:k+a.length≤n) (hn:sh+n≤l.length):((putAt l (sh+k) a).drop sh).take n=putAt ((l.drop sh).take n) k a:=by
 apply List.ext_getElem?
 intro j
 rw [getElem?_putAt (by simp;omega),List.getElem?_take,List.getElem?_drop,getElem?_putAt (by omega),List.getElem?_take,List.getElem?_drop]
 by_cases h1:j < n
 · rw [if_pos h1,if_pos h1]
   by_cases h2:k≤j∧j < k+a.length
   · rw [if_pos (by omega),if_pos h2];congr 1;omega
   · rw [if_neg (by omega),if_neg h2]
 · rw [if_neg h1,if_neg h1,if_neg (by omega)]
theorem zAC {α:Type} {l a:List α} {k m f:Nat} (h:f+a.length≤m) (hm:k+m≤l.length):putAt l k (putAt ((l.drop k).take m) f a)=putAt l (k+f) a:=by
 have e:((l.drop k).take m).length=m:=by simp;omega
 have e2:(putAt ((l.drop k).take m) f a).length=m:=by rw [z0p (by rw [e];omega),e]
 apply List.ext_getElem?
 intro j
 rw [getElem?_putAt (l:=l) (k:=k) (by rw [e2];omega),e2,getElem?_putAt (l:=l) (k:=k+f) (by omega),getElem?_putAt (l:=(l.drop k).take m) (by rw [e];omega),List.getElem?_take,List.getElem?_drop]
 by_cases h1:k≤j∧j < k+m
 · rw [if_pos h1]
   by_cases h2:k+f≤j∧j < k+f+a.length
   · rw [if_pos (by omega),if_pos h2];congr 1;omega
   · rw [if_neg (by omega),if_neg h2,if_pos (by omega)];congr 1;omega
 · rw [if_neg h1,if_neg (by omega)]
theorem z9j {es:List AVal} {sz i:Nat} {e:AVal} (h:∀ x ∈ es,x.cellsOf.length=sz) (hi:i < es.length) (he:e.cellsOf.length=sz):flatC (es.set i e)=putAt (flatC es) (i * sz) e.cellsOf:=by
 have:es.set i e=es.take i++e :: es.drop (i+1):=by rw [List.set_eq_take_append_cons_drop];simp [hi]
 rw [this,z0j,flatC,z1m h,z1k h,putAt,he,Nat.succ_mul,List.append_assoc]
structure Evo (ro:Nat) (B:BMap) (X:Nat→Prop) (w:World) (B':BMap) (w':World):Prop where
 lasts:Lasts (avoid X B) w (avoid X B') w'
 ble:BLe B B'
 os:w'.os=w.os∧w'.output=w.output∧w'.tape=w.tape
 ro:∀ id e,id < ro→B id=some e→B' id=some e∧∀ r s t,e.st=.real r s t→w'.heap[r]?=w.heap[r]?
 fix:∀ r,X r→w'.heap[r]?=w.heap[r]?
theorem Evo.refl (ro:Nat) (B:BMap) (X:Nat→Prop) (w:World):Evo ro B X w B w:=⟨.refl _ _,.refl _,⟨rfl,rfl,rfl⟩,fun _ _ _ h=>⟨h,fun _ _ _ _=>rfl⟩,fun _ _=>rfl⟩
theorem Evo.trans {ro:Nat} {B B' B'':BMap} {X:Nat→Prop} {w w' w'':World} (h:Evo ro B X w B' w') (h':Evo ro B' X w' B'' w''):Evo ro B X w B'' w'':=by
 refine ⟨h.lasts.trans h'.lasts,h.ble.trans h'.ble,⟨h'.os.1.trans h.os.1,h'.os.2.1.trans h.os.2.1,h'.os.2.2.trans h.os.2.2⟩,fun id e hid he=>?_,fun r hx=>(h'.fix r hx).trans (h.fix r hx)⟩
 obtain ⟨h1,h2⟩:=h.ro id e hid he
 obtain ⟨h3,h4⟩:=h'.ro id e hid h1
 exact ⟨h3,fun r s t hst=>(h4 r s t hst).trans (h2 r s t hst)⟩
section
variable {P:Program} {w:World}
theorem z52 (w:World) (g:Nat) (c:Array Value):(w.setRow g c).heap.size=w.heap.size:=by simp [World.setRow]
theorem z4C (w:World) (g:Nat) (c:Array Value) {r:Nat} (h:r ≠ g):(w.setRow g c).heap[r]?=w.heap[r]?:=by
 simp only [World.setRow,Array.getElem?_modify]
 rw [if_neg (fun h'=>h h'.symm)]
theorem HRel.write {B:BMap} {X:Nat→Prop} {H:Heap} (h:HRel B X w H) {id g sz:Nat} {fl:Bool} {es es':List AVal} {e:Ent} {r sh tot ro:Nat} {c c':Array Value} {T:TypeId}
    (hid:H[id]?=some (.cells g sz fl es)) (he:B id=some e) (hst:e.st=.real r sh tot) (hc:w.heap[r]?=some (.cells c T (0,0))) (hro:ro≤id)
    (hlen:es'.length=es.length) (hsz:c'.size=c.size) (hall:∀ x ∈ es',x.cellsOf.length=sz) (h1c:∀ x ∈ flatC es',x.oneC=true)
    (hr:VRelL (avoid X B) w (if fl then B0 else B) (flatC es') ((c'.toList.drop sh).take (es'.length * sz))):
    ∃ B',HRel B' X (w.setRow r c') (H.set id (.cells g sz fl es'))∧Evo ro B X w B' (w.setRow r c'):=by
 obtain ⟨e',he',hg,hs,hh⟩:=h.cells hid
 rw [he] at he';cases he'
 rcases hh with ⟨hv,_⟩ | ⟨r',sh',tot',hst',⟨hlt,hpos⟩,_,_,c0,T0,hc0,hcs,_⟩
 · rw [hst] at hv;cases hv
 rw [hst] at hst';cases hst'
 rw [hc] at hc0;cases hc0
 have hrow:=setRow_heap w r c c' T (0,0) hc
 have:=h.upd (w':=w.setRow r c') (b:=.cells g sz fl es') (e:=e) (h.dom id e he) (by rw [z52];exact Nat.le_refl _)
  (fun q _ hq=>z4C w r c' fun hqr=>hq e sh tot he (hqr ▸ hst)) (fun e0 h0=>by rw [he] at h0;cases h0;exact .refl _)
  (fun q s t hq=>by rw [hst] at hq;cases hq;exact ⟨by rw [z52];exact (h.lt id e r sh tot he hst).1,.inr ⟨e,sh,tot,he,hst⟩⟩)
  (fun Y' B' hl hB=>by
    unfold BOk
    rw [hst]
    refine ⟨⟨hg,hpos⟩,hs,by omega,hall,h1c,c',T,hrow,by omega,?_⟩
    cases fl with
    | true=>exact hr.last hl (.refl _)
    | false=>exact hr.last hl hB)
 obtain ⟨h1,h2,h3⟩:=this
 refine ⟨_,h1,⟨h2,h3,⟨rfl,rfl,rfl⟩,fun j e1 hj hj1=>?_,fun q hx=>z4C w r c' fun hqr=>(h.lt id e r sh tot he hst).2 (hqr ▸ hx)⟩⟩
 have hne:j ≠ id:=by omega
 refine ⟨by rw [z1X _ _ hne,hj1],fun q s t hq=>z4C w r c' fun hqr=>?_⟩
 subst hqr
 exact hne (h.inj _ _ _ _ _ _ _ _ _ hj1 he hq hst)
theorem z2w (m:Nat) (Y:Nat→Prop) (w:World) (B:BMap) (B':BMap) (hB:∀ id e,id < m→B id=some e→B' id=some e):
    (∀ a:AVal,∀ v,a.under m=true→VRel Y w B a v→VRel Y w B' a v)∧(∀ l:List AVal,∀ vs,underL m l=true→VRelL Y w B l vs→VRelL Y w B' l vs):=by
 refine AVal.strong ?_ ?_
 · intro a ihp ihq v hu h
   cases a with
   | bool _ | int _ _ | str _ | nilptr | nilmap | nilfunc | niliface | undef | lptr _ _ | lit _ _ _=>simpa only [VRel] using h
   | ptr id g i f | mapp id=>
     simp only [AVal.under,decide_eq_true_eq] at hu
     simp only [VRel] at h ⊢
     obtain ⟨ad,h0,e,he,h⟩:=h
     exact ⟨ad,h0,e,hB id e hu he,h⟩
   | ref id g i len cl=>
     simp only [AVal.under,decide_eq_true_eq] at hu
     simp only [VRel] at h ⊢
     obtain ⟨ad,cap,h0,h1,h2,h3,e,he,h⟩:=h
     exact ⟨ad,cap,h0,h1,h2,h3,e,hB id e hu he,h⟩
   | view id g i f len=>
     simp only [AVal.under,decide_eq_true_eq] at hu
     simp only [VRel] at h ⊢
     obtain ⟨ad,cap,h0,h1,h2,e,he,h⟩:=h
     exact ⟨ad,cap,h0,h1,h2,e,hB id e hu he,h⟩
   | func f a b=>
     simp only [AVal.under,Bool.and_eq_true] at hu
     simp only [VRel] at h ⊢
     obtain ⟨x,y,h1,h2,h3⟩:=h
     exact ⟨x,y,h1,ihq a (by simp;omega) _ hu.1 h2,ihq b (by simp;omega) _ hu.2 h3⟩
   | iface t x=>
     simp only [AVal.under] at hu
     simp only [VRel] at h ⊢
     obtain ⟨y,h1,h2⟩:=h
     exact ⟨y,h1,ihp x (by simp;omega) y hu h2⟩
   | agg cs=>
     simp only [AVal.under] at hu
     simp only [VRel] at h ⊢
     obtain ⟨vs,h1,h2,h3⟩:=h
     exact ⟨vs,h1,ihq cs (by simp) _ hu h2,h3⟩
   | tuple cs=>
     simp only [AVal.under] at hu
     simp only [VRel] at h ⊢
     obtain ⟨vs,h1,h2⟩:=h
     exact ⟨vs,h1,ihq cs (by simp) _ hu h2⟩
 · intro l ihp ihq vs hu h
   cases l with
   | nil=>rw [z08] at h ⊢;exact h
   | cons a as=>
     simp only [underL,Bool.and_eq_true] at hu
     obtain ⟨v,vs',rfl,hx,h⟩:=z05.1 h
     exact z0D.2 ⟨ihp a (by simp;omega) v hu.1 hx,ihq as (by simp;omega) vs' hu.2 h⟩
theorem VRel.noRef {Y:Nat→Prop} {B B':BMap} {a:AVal} {v:Value} (h:VRel Y w B a v) (hn:noRef a=true):VRel Y w B' a v:=
 (z2w 0 Y w B B' (fun _ _ h=>absurd h (Nat.not_lt_zero _))).1 a v hn h
theorem z3b {m:Nat} {a:AVal} (h:a.under m=true):underL m a.cellsOf=true:=by
 cases a <;> simp_all [AVal.cellsOf,underL,AVal.under]
theorem VRelL.noRefL {Y:Nat→Prop} {B B':BMap} {l:List AVal} {vs:List Value} (h:VRelL Y w B l vs) (hn:underL 0 l=true):VRelL Y w B' l vs:=
 (z2w 0 Y w B B' (fun _ _ h=>absurd h (Nat.not_lt_zero _))).2 l vs hn h
theorem zFh {E:Env} (hE:EnvOk E P) {X:Nat→Prop} {B:BMap} {H:Heap} (hH:HRel B X w H) {ro t:Nat} {a v:AVal} {av vv:Value} {us:Ups} (ha:VRel (avoid X B) w B a av) (hv:VRel (avoid X B) w B v vv)
    (h:store E ro t a v H=some us):
    ∃ w' B',(Instr.storeAt t av vv).run P w=.ok () w'∧HRel B' X w' (putU H us)∧Evo ro B X w B' w':=by
 unfold store at h
 cases ht:E.ti t with
 | none=>simp [ht] at h
 | some ti=>
   obtain ⟨info,d,z,hT⟩:=hE.ty t ti ht
   simp only [ht] at h
   cases a with
   | ptr id g i f=>
     simp only at h
     split at h
     · rename_i sz fl es e hel
       obtain ⟨hb,hi⟩:=z33 hel
       split at h
       · rename_i hcond
         simp only [Bool.and_eq_true,decide_eq_true_eq,Bool.not_eq_true',Bool.or_eq_true] at hcond
         obtain ⟨⟨⟨hro,hsz⟩,htup⟩,hfl⟩:=hcond
         split at h
         · rename_i e' hw
           cases h
           obtain ⟨en,hB,hg,hs,hh⟩:=hH.cells hb
           simp only [VRel] at ha
           obtain ⟨ad,rfl,en',hB',_,ha⟩:=ha
           rw [hB] at hB';cases hB'
           rcases hh with ⟨_,hnil⟩ | ⟨r,sh,tot,hst,⟨hlen,_⟩,hall,h1c,c,T,hc,hcs,hr⟩
           · rw [hnil] at hi;simp at hi
           have hav:=ha hg.symm r sh tot hst
           subst hav
           obtain ⟨hcv,h1v⟩:=hv.cells htup
           have hvl:=z0O hcv
           have hlt:=(List.getElem?_eq_some_iff.1 hi).1
           have hel':e.cellsOf.length=sz:=hall e (List.mem_of_getElem? hi)
           have hm:(i+1) * sz≤es.length * sz:=Nat.mul_le_mul_right _ (by omega)
           have hm2:es.length * sz≤tot * sz:=Nat.mul_le_mul_right _ hlen
           rw [Nat.succ_mul] at hm
           -- the element written
           have hwe:f+v.cellsOf.length≤sz∧e'.cellsOf=putAt e.cellsOf f v.cellsOf:=by
            unfold z0J at hw
            split at hw
            · rename_i cs
              split at hw
              · rename_i hf
                cases hw
                have:cs.length=sz:=hel'
                exact ⟨by omega,by simp only [AVal.cellsOf];exact z1L _ _ _ hf⟩
              · cases hw
            · rename_i hne
              split at hw
              · cases hw
              · rename_i hv2
                cases hw
                have h1:e.cellsOf=[e]:=by cases e <;> simp_all [AVal.cellsOf]
                have h2:v.cellsOf=[v]:=by cases v <;> simp_all [AVal.cellsOf]
                rw [h1] at hel'
                rw [h1,h2]
                exact ⟨by simp at hel' ⊢;omega,by simp [putAt]⟩
              · cases hw
           obtain ⟨hf,hwe⟩:=hwe
           have hfit:sh+(i * sz+f)+vv.cells.toList.length≤c.size:=by rw [← hvl];omega
           have hone:=hcv.one h1v
           -- the model's store
           have hrun:=run_storeCells_at (P:=P) r (sh+i * sz+f) T vv.cells.toList 0 c w hc (by rw [← hvl];omega) hone
           rw [hs]
           refine ⟨w.setRow r (putAt c.toList (sh+(i * sz+f)) vv.cells.toList).toArray,?_⟩
           have hrun2:(Instr.storeAt t (.pointer (some ⟨r,sh+i * sz+f,none⟩)) vv).run P w=.ok () (w.setRow r (putAt c.toList (sh+(i * sz+f)) vv.cells.toList).toArray):=by
            simp only [Instr.storeAt,Instr.sureAddr,storeVar,Sem.run_bind,Sem.run_pure,Result.andThen_ok,z0t hT.inf]
            rw [hT.sz,if_neg (by simp;rw [← Array.length_toList,← hvl,hsz])]
            rw [hrun]
            simp [putAt,Nat.add_assoc]
           have hlen':(putAt c.toList (sh+(i * sz+f)) vv.cells.toList).length=c.size:=by rw [z0p (by simpa using hfit)];simp
           have hset:flatC (es.set i e')=putAt (flatC es) (i * sz+f) v.cellsOf:=by
            rw [z9j hall hlt (by rw [hwe,z0p (by omega)];exact hel'),hwe,← z5y hall hi]
            exact zAC hf (by rw [z0a hall];omega)
           obtain ⟨B',h1,h2⟩:=hH.write (es':=es.set i e') (c':=(putAt c.toList (sh+(i * sz+f)) vv.cells.toList).toArray) (ro:=ro) hb hB hst hc hro (by simp) (by simpa using hlen')
            (fun x hx=>by
              rcases List.mem_or_eq_of_mem_set hx with hx | hx
              · exact hall x hx
              · rw [hx,hwe,z0p (by omega)];exact hel')
            (fun x hx=>by
              rw [hset] at hx
              unfold putAt at hx
              simp only [List.mem_append] at hx
              rcases hx with (hx | hx) | hx
              · exact h1c x (List.mem_of_mem_take hx)
              · exact h1v x hx
              · exact h1c x (List.mem_of_mem_drop hx))
            (by
              rw [hset]
              simp only [List.length_set]
              rw [putAt_in (by rw [← hvl];omega) (by simp;omega)]
              refine z5G hr ?_ (by rw [z0a hall];omega)
              cases fl with
              | false=>exact hcv
              | true=>exact hcv.noRefL (z3b (by simpa [Tidy.noRef] using hfl)))
           refine ⟨B',hrun2,?_,h2⟩
           simp only [putU]
           rw [if_pos (hH.dom id en hB)]
           exact h1
         · cases h
       · cases h
     · cases h
   | _=>simp at h
end
section
variable {P:Program} {w:World} {Y:Nat→Prop} {B:BMap}
theorem z1p {l:List UInt8} {v:Value}:VRel Y w B (.str l) v ↔ v=.string ⟨⟨l⟩⟩:=by simp only [VRel]
theorem z0v {k:IntKind} {n:Int} {v:Value}:VRel Y w B (.int k n) v ↔ v=.int k n:=by simp only [VRel]
theorem z1F {b:Bool} {v:Value}:VRel Y w B (.bool b) v ↔ v=.bool b:=by simp only [VRel]
theorem zQ2 {v:Value} {a:AVal} (h:ofV v=some a):VRel Y w B a v:=by
 unfold ofV at h
 split at h <;> first | (cases h;simp [VRel];done) | skip
 · cases h;simp [VRel];exact ⟨none,0,⟨rfl,rfl⟩,rfl,⟨rfl,rfl⟩,fun _=>rfl⟩
 · cases h;simp only [VRel];exact ⟨#[],rfl,z0N⟩
 · cases h
def TRel (Y:Nat→Prop) (w:World) (B:BMap) (s:St) (a:Act):Prop:=VRelL Y w B s.tmps a.tmps.toList
theorem z0Q {s:St} {a:Act} (h:TRel Y w B s a) {x:Operand} {v:AVal} (hv:s.eval x=some v):VRel Y w B v (a.eval x):=by
 cases x with
 | tmp t=>
   obtain ⟨u,h1,h2⟩:=z3F h hv
   simp only [Act.eval]
   rw [Array.getElem?_toList] at h1
   simp only [Array.getD_eq_getD_getElem?,h1,Option.getD_some]
   exact h2
 | const c=>exact zQ2 hv
 | func f=>simp only [St.eval,Option.some.injEq] at hv;subst hv;simp only [VRel,Act.eval];exact ⟨_,_,rfl,z0N,z0N⟩
 | global g=>simp [St.eval] at hv
theorem z7B {s:St} {a:Act} (h:TRel Y w B s a) {l:List Operand} {vs:List AVal} (hv:z34 s l=some vs):VRelL Y w B vs (l.map a.eval):=by
 induction l generalizing vs with
 | nil=>simp [z34] at hv;subst hv;exact z0N
 | cons x l ih=>
   simp only [z34] at hv
   split at hv
   · rename_i v vs' h1 h2;cases hv;exact z0D.2 ⟨z0Q h h1,ih h2⟩
   · cases hv
def PRel (Y:Nat→Prop) (w:World) (B:BMap):List (Nat × AVal)→List (Nat × Value)→Prop
 | [],[]=>True
 | (i,a) :: l,(j,v) :: m=>i=j∧VRel Y w B a v∧PRel Y w B l m
 | _,_=>False
theorem zDa {s:St} {a:Act} (h:TRel Y w B s a) {l:List (Nat × Operand)} {vs:List (Nat × AVal)} (hv:z7C s l=some vs):PRel Y w B vs (l.map fun (i,x)=>(i,a.eval x)):=by
 induction l generalizing vs with
 | nil=>simp [z7C] at hv;subst hv;trivial
 | cons x l ih=>
   obtain ⟨i,x⟩:=x
   simp only [z7C] at hv
   split at hv
   · rename_i v vs' h1 h2;cases hv;exact ⟨rfl,z0Q h h1,ih h2⟩
   · cases hv
theorem zGK {op:BinOp} {k:IntKind} {x y n:Int} (h:bits op k x y=some n):(Op.intBits op k x y).run P w=.ok (.int k n) w:=by
 unfold bits at h
 simp only at h
 split at h <;> first | (cases h;rfl) | cases h
theorem z8d:∀ a b:List UInt8,bytesLess a b=Op.bytesLess a b
 | _,[]=>by simp [bytesLess,Op.bytesLess]
 | [],_ :: _=>by simp [bytesLess,Op.bytesLess]
 | a :: x,b :: y=>by simp [bytesLess,Op.bytesLess,z8d x y]
theorem zQV {E:Env} {op:BinOp} {a b:List UInt8} {v:AVal} {tn:Nat} {t:TI} (h:binOp E op tn t (.str a) (.str b)=some v):
    ∃ v',(Op.stringOp op ⟨⟨a⟩⟩ ⟨⟨b⟩⟩).run P w=.ok v' w∧VRel Y w B v v':=by
 have e1:(ByteArray.mk ⟨a⟩).toList=a:=by rw [ByteArray.toList_eq]
 have e2:(ByteArray.mk ⟨b⟩).toList=b:=by rw [ByteArray.toList_eq]
 cases op <;> simp only [binOp,reduceCtorEq,Option.some.injEq] at h
 case add=>
  split at h
  · rename_i hl
    cases h
    refine ⟨.string ⟨⟨a++b⟩⟩,?_,by simp [VRel]⟩
    have hs:(ByteArray.mk ⟨a⟩).size+(ByteArray.mk ⟨b⟩).size≤9223372036854775807:=by
     have:z04=35184372088832:=rfl
     simp only [ByteArray.size,List.size_toArray];omega
    rw [run_string_add_sum _ _ _ hs,ByteArray.mk_append_mk]
  · cases h
 all_goals first
  | (subst h;exact ⟨_,rfl,by simp [VRel,e1,e2,z8d]⟩)
  | cases h
theorem zPh {E:Env} {op:BinOp} {k k':IntKind} {x y:Int} {t:Nat} {ti:TI} {v:AVal} (h:binOp E op t ti (.int k x) (.int k' y)=some v):
    ∃ v',(Go.binOp op t (.int k x) (.int k' y)).run P w=.ok v' w∧VRel Y w B v v':=by
 cases op
 case shl=>
  simp only [binOp] at h
  split at h
  · cases h
  · cases h;rename_i hy
    exact ⟨_,by simp only [Go.binOp,Op.shift,if_neg hy];rfl,by simp [VRel]⟩
 case shr=>
  simp only [binOp] at h
  split at h
  · cases h
  · cases h;rename_i hy
    exact ⟨_,by simp only [Go.binOp,Op.shift,if_neg hy];rfl,by simp [VRel]⟩
 all_goals
  simp only [binOp] at h
  split at h
  · cases h
  rename_i hk
  have hk':k=k':=by simpa using hk
  subst hk'
 case quo=>
  split at h
  · cases h
  · cases h;rename_i hy;exact ⟨_,by simp only [Go.binOp,ne_eq,not_true_eq_false,if_false,Op.intDiv,if_neg hy];rfl,by simp [VRel]⟩
 case rem=>
  split at h
  · cases h
  · cases h;rename_i hy;exact ⟨_,by simp only [Go.binOp,ne_eq,not_true_eq_false,if_false,Op.intDiv,if_neg hy];rfl,by simp [VRel]⟩
 case and | or | xor | andNot=>
  simp only [Option.map_eq_some_iff] at h
  obtain ⟨n,h1,rfl⟩:=h
  exact ⟨_,by simp only [Go.binOp,ne_eq,not_true_eq_false,if_false];exact zGK h1,by simp [VRel]⟩
 all_goals
  cases h
  exact ⟨_,by simp only [Go.binOp,ne_eq,not_true_eq_false,if_false,Op.intArith,Op.intCmp];rfl,by simp [VRel]⟩
theorem zNb {op:UnOp} {x v:AVal} {xv:Value} (hx:VRel Y w B x xv) (h:unOp op x=some v):∃ v',(Op.unary op xv).run P w=.ok v' w∧VRel Y w B v v':=by
 unfold unOp at h
 split at h
 · cases h;rw [z0v] at hx;subst hx;exact ⟨_,rfl,by simp [VRel]⟩
 · rw [z0v] at hx;subst hx
   simp only [Option.map_eq_some_iff] at h
   obtain ⟨n,h1,rfl⟩:=h
   exact ⟨_,zGK h1,by simp [VRel]⟩
 · cases h;rw [z1F] at hx;subst hx;exact ⟨_,rfl,by simp [VRel]⟩
 · cases h
end
theorem z0y {d:TypeDesc} {e:Nat} (h:tyd d=.slice e):d=.slice e:=by cases d <;> simp_all [tyd]
theorem z4k {d:TypeDesc} {n e:Nat} (h:tyd d=.array n e):d=.array n e:=by cases d <;> simp_all [tyd]
theorem z2m {d:TypeDesc} (h:tyd d=.string):d=.string:=by cases d <;> simp_all [tyd]
theorem zD8 {d:TypeDesc} {k:IntKind} (h:tyd d=.int k):d=.int k:=by cases d <;> simp_all [tyd]
theorem zG1 {d:TypeDesc} {e:Nat} (h:tyd d=.ptr e):d=.pointer e:=by cases d <;> simp_all [tyd]
theorem zD9 {d:TypeDesc} {k e:Nat} (h:tyd d=.map k e):d=.map k e:=by cases d <;> simp_all [tyd]
theorem z8X {d:TypeDesc} {fs:List (Nat × Nat)} (h:tyd d=.struct fs):∃ f,d=.struct f∧f.toList.map (fun x=>(x.type,x.offset))=fs:=by
 cases d <;> simp_all [tyd]
theorem zEg {d:TypeDesc} (h:tyd d=.iface):∃ m,d=.interface m:=by cases d <;> simp_all [tyd]
theorem z57 {d:TypeDesc} (h:tyd d ≠ .iface):∀ m,d ≠ .interface m:=by rintro m rfl;simp [tyd] at h
section
variable {E:Env} {P:Program} {w:World} {X:Nat→Prop} {B:BMap} {H:Heap}
theorem z1y (r o k:Nat):(⟨r,o,none⟩:Addr).add k=⟨r,o+k,none⟩:=by unfold Addr.add;split <;> simp_all
theorem z7D (hE:EnvOk E P) {t fld off ft:Nat} {fs:List (Nat × Nat)} {sz by_:Nat} {z:AVal} {a b:AVal} {av:Value} {fi:TI} (ht:E.ti t=some ⟨.struct fs,sz,by_,z⟩) (hf:fs[fld]?=some (ft,off))
    (hfi:E.ti ft=some fi) (hz:fi.sz ≠ 0) (ha:VRel (avoid X B) w B a av)
    (hb:(∃ id g i o,a=.ptr id g i o∧b=.ptr id g i (o+off)) ∨ ∃ e o,a=.lptr e o∧b=.lptr e (o+off)):
    ∃ bv,(Instr.fieldAt t av fld).run P w=.ok bv w∧VRel (avoid X B) w B b bv:=by
 obtain ⟨info,d,zz,hT⟩:=hE.ty t _ ht
 obtain ⟨fds,rfl,hfs⟩:=z8X hT.d
 have hx:∃ fd,fds[fld]?=some fd∧fd.type=ft∧fd.offset=off:=by
  rw [← hfs,List.getElem?_map,Array.getElem?_toList] at hf
  cases hfd:fds[fld]? with
  | none=>simp [hfd] at hf
  | some fd=>simp [hfd] at hf;exact ⟨fd,rfl,hf⟩
 obtain ⟨fd,h1,h2,h3⟩:=hx
 obtain ⟨info2,d2,z2,hT2⟩:=hE.ty ft fi hfi
 have hsz:(Go.sizeOf fd.type).run P w=.ok fi.sz w:=by rw [h2,z0t hT2.inf,hT2.sz]
 have key:∀ ad:Addr,(Instr.fieldAt t (.pointer (some ad)) fld).run P w=.ok (.pointer (some (ad.add off))) w:=by
  intro ad
  simp [Instr.fieldAt,z0G hT.und,h1,Instr.sureAddr,fieldPlace,hsz,hz,h3]
 rcases hb with ⟨id,g,i,o,rfl,rfl⟩ | ⟨e,o,rfl,rfl⟩
 · simp only [VRel] at ha
   obtain ⟨ad,rfl,en,he,hg,h⟩:=ha
   refine ⟨_,key ad,?_⟩
   simp only [VRel]
   exact ⟨_,rfl,en,he,hg,fun hge r sh tot hst=>by rw [h hge r sh tot hst,z1y,Nat.add_assoc]⟩
 · simp only [VRel] at ha
   obtain ⟨r,o',vs,rfl,h⟩:=ha
   refine ⟨_,key _,?_⟩
   simp only [VRel]
   exact ⟨r,o',vs,by rw [z1y,Nat.add_assoc],h⟩
theorem z38 (k:IntKind) (n:Int):(asIntOf (.int k n)).run P w=.ok (k,n) w:=rfl
theorem zKH {cl:Bool} {sz n:Nat} {es:List AVal} {e:AVal} {v:Value} (h:VRel (avoid X B) w B (.lit cl sz es) v) (he:es[n]?=some e):
    ∃ r o cap,v=.slice (some ⟨r,o,none⟩) es.length cap∧VRel (avoid X B) w B (.lptr e 0) (.pointer (some ⟨r,o+n * sz,none⟩)):=by
 simp only [VRel] at h
 obtain ⟨ad,cap,rfl,_,_,_,_,h⟩:=h
 have hlt:=(List.getElem?_eq_some_iff.1 he).1
 rcases h with rfl | ⟨r,o,vs,rfl,hy,hall,h1c,⟨c,T,fz,hc,hn,rfl⟩,hr⟩
 · simp at he
 · refine ⟨r,o,cap,rfl,?_⟩
   have hcl:e.cellsOf.length=sz:=hall e (List.mem_of_getElem? he)
   have hm:(n+1) * sz≤es.length * sz:=Nat.mul_le_mul_right _ hlt
   rw [Nat.succ_mul] at hm
   have hx:=z87 hall he hr
   simp only [VRel]
   refine ⟨r,o+n * sz,_,rfl,hy,⟨c,T,fz,hc,by omega,rfl⟩,fun x hx=>h1c x (zA1 (List.mem_of_getElem? he) hx),?_⟩
   cases e with
   | agg cs=>exact hx
   | _=>
     simp only [AVal.cellsOf] at hx
     obtain ⟨v,vs',e1,e2,e3⟩:=z05.1 hx
     rw [z08] at e3
     exact ⟨v,by rw [← e3];simpa [AVal.cellsOf] using e1,e2⟩
theorem z2Z (hE:EnvOk E P) {t e sz by_:Nat} {z:AVal} {te:TI} (ht:E.ti t=some ⟨.slice e,sz,by_,z⟩) (hte:E.ti e=some te) {ad:Addr} {len cap:Nat} {k:IntKind} {n:Int} (h0:0≤n) (hn:n < len):
    (Instr.indexAt t (.slice (some ad) len cap) (.int k n)).run P w=.ok (.pointer (some (ad.add (n.toNat * te.sz)))) w:=by
 obtain ⟨info,d,zz,hT⟩:=hE.ty t _ ht
 have hd:=z0y hT.d;subst hd
 obtain ⟨info2,d2,z2,hT2⟩:=hE.ty e te hte
 simp [Instr.indexAt,z38,z0G hT.und,h0,hn,z0t hT2.inf,hT2.sz]
theorem z3p (hE:EnvOk E P) {t e len sz by_:Nat} {z:AVal} {te:TI} (ht:E.ti t=some ⟨.array len e,sz,by_,z⟩) (hte:E.ti e=some te) {ad:Addr} {k:IntKind} {n:Int} (h0:0≤n) (hn:n < len):
    (Instr.indexAt t (.pointer (some ad)) (.int k n)).run P w=.ok (.pointer (some (ad.add (n.toNat * te.sz)))) w:=by
 obtain ⟨info,d,zz,hT⟩:=hE.ty t _ ht
 have hd:=z4k hT.d;subst hd
 obtain ⟨info2,d2,z2,hT2⟩:=hE.ty e te hte
 simp [Instr.indexAt,z38,z0G hT.und,h0,hn,z0t hT2.inf,hT2.sz,Instr.sureAddr]
theorem zGx (hE:EnvOk E P) {t:Nat} {ti:TI} (ht:E.ti t=some ti) {cs:List AVal} {vs:Array Value} {off:Nat} {v:AVal} {Y:Nat→Prop} (h:VRelL Y w B cs vs.toList) (h1:∀ c ∈ cs,c.oneC=true) (hv:part ti cs off=some v):
    ∃ v',(Go.part t vs off).run P w=.ok v' w∧VRel Y w B v v':=by
 obtain ⟨info,d,z,hT⟩:=hE.ty t ti ht
 unfold part at hv
 simp only [Go.part,Sem.run_bind,zKw hT,Result.andThen_ok]
 cases ha:ti.agg with
 | true=>
   simp only [ha,if_true] at hv
   split at hv
   · cases hv
     simp only [if_true,Sem.run_bind,z0t hT.inf,Result.andThen_ok,Sem.run_pure]
     refine ⟨_,rfl,?_⟩
     simp only [VRel]
     refine ⟨_,rfl,?_,fun x hx=>h1 x (List.mem_of_mem_drop (List.mem_of_mem_take hx))⟩
     have:=VRelL_take (VRelL_drop h off) ti.sz
     have e1:(vs.extract off (off+info.size)).toList=(vs.toList.drop off).take ti.sz:=by
      simp only [Array.toList_extract,List.extract,hT.sz];congr 1;omega
     rw [e1];exact this
   · cases hv
 | false=>
   simp only [ha,Bool.false_eq_true,if_false] at hv ⊢
   obtain ⟨v',h2,h3⟩:=z3F h hv
   rw [Array.getElem?_toList] at h2
   exact ⟨v',by simp [h2],h3⟩
theorem z8t (hE:EnvOk E P) {t sz by_:Nat} {z:AVal} (ht:E.ti t=some ⟨.string,sz,by_,z⟩) {l:List UInt8} {k:IntKind} {n:Int} {b:UInt8} (h0:0≤n) (hb:l[n.toNat]?=some b):
    (Instr.index t (.string ⟨⟨l⟩⟩) (.int k n)).run P w=.ok (.int .u8 b.toNat) w:=by
 obtain ⟨info,d,zz,hT⟩:=hE.ty t _ ht
 have hd:=z2m hT.d;subst hd
 have:(ByteArray.mk ⟨l⟩)[n.toNat]?=some b:=by
  obtain ⟨h1,h2⟩:=List.getElem?_eq_some_iff.1 hb
  have h1':n.toNat < (ByteArray.mk ⟨l⟩).size:=by simpa [ByteArray.size] using h1
  rw [getElem?_pos (ByteArray.mk ⟨l⟩) n.toNat h1']
  exact congrArg some h2
 simp [Instr.index,z38,z0G hT.und,h0,this]
theorem z9t (hE:EnvOk E P) {t e len sz by_:Nat} {z:AVal} {te:TI} (ht:E.ti t=some ⟨.array len e,sz,by_,z⟩) (hte:E.ti e=some te) {vs:Array Value} {k:IntKind} {n:Int} (h0:0≤n) (hn:n < len):
    (Instr.index t (.agg vs) (.int k n)).run P w=(Go.part e vs (n.toNat * te.sz)).run P w:=by
 obtain ⟨info,d,zz,hT⟩:=hE.ty t _ ht
 have hd:=z4k hT.d;subst hd
 obtain ⟨info2,d2,z2,hT2⟩:=hE.ty e te hte
 simp [Instr.index,z38,z0G hT.und,h0,hn,z0t hT2.inf,hT2.sz]
theorem zJw (hE:EnvOk E P) {t fld ft off sz by_:Nat} {fs:List (Nat × Nat)} {z:AVal} (ht:E.ti t=some ⟨.struct fs,sz,by_,z⟩) (hf:fs[fld]?=some (ft,off)) {vs:Array Value}:
    (Instr.field t (.agg vs) fld).run P w=(Go.part ft vs off).run P w:=by
 obtain ⟨info,d,zz,hT⟩:=hE.ty t _ ht
 obtain ⟨fds,rfl,hfs⟩:=z8X hT.d
 rw [← hfs,List.getElem?_map,Array.getElem?_toList] at hf
 cases hfd:fds[fld]? with
 | none=>simp [hfd] at hf
 | some fd=>
   simp [hfd] at hf
   obtain ⟨rfl,rfl⟩:=hf
   simp [Instr.field,z0G hT.und,hfd,asAgg]
end
section
variable {E:Env} {P:Program} {w:World} {X:Nat→Prop} {B:BMap} {H:Heap}
def ORel (Y:Nat→Prop) (w:World) (B:BMap):Option AVal→Option Value→Prop
 | none,none=>True
 | some a,some v=>VRel Y w B a v
 | _,_=>False
theorem z9g {Y:Nat→Prop} {s:St} {a:Act} (h:TRel Y w B s a) {x:Option Operand} {v:Option AVal} (hv:z5Q s x=some v):ORel Y w B v (x.map a.eval):=by
 cases x with
 | none=>simp [z5Q] at hv;subst hv;trivial
 | some x=>
   simp only [z5Q,Option.map_eq_some_iff] at hv
   obtain ⟨y,h1,rfl⟩:=hv
   exact z0Q h h1
theorem z7n {Y:Nat→Prop} {a:AVal} {v:Value} {y d l:Nat} (code:BoundsCode) (h:VRel Y w B a v) (hb:z0Y (some a) d=some l) (hl:l≤y):(Instr.sliceBound v y code).run P w=.ok l w:=by
 unfold z0Y at hb
 split at hb
 · cases ‹some a=none›
 · rename_i k n heq
   cases heq
   split at hb
   · rename_i h0
     cases hb
     rw [z0v] at h;subst h
     have:n≤(y:Int):=by omega
     simp [Instr.sliceBound,z38,h0,this]
   · cases hb
 · cases hb
theorem z4Q {Y:Nat→Prop} {isSlice:Bool} {len cap l h:Nat} {lo hi:Option AVal} {lv hv:Option Value} (hlo:ORel Y w B lo lv) (hhi:ORel Y w B hi hv) (e1:z0Y lo 0=some l) (e2:z0Y hi len=some h)
    (h1:l≤h) (h2:h≤cap):(Instr.sliceBounds isSlice len cap lv hv none).run P w=.ok (l,h,cap) w:=by
 cases lo with
 | none=>
   cases lv with
   | some _=>simp [ORel] at hlo
   | none=>
     simp only [z0Y,Option.some.injEq] at e1;subst e1
     cases hi with
     | none=>
       cases hv with
       | some _=>simp [ORel] at hhi
       | none=>simp only [z0Y,Option.some.injEq] at e2;subst e2;simp [Instr.sliceBounds]
     | some a=>
       cases hv with
       | none=>simp [ORel] at hhi
       | some v=>simp [Instr.sliceBounds,z7n _ hhi e2 h2]
 | some b=>
   cases lv with
   | none=>simp [ORel] at hlo
   | some u=>
     cases hi with
     | none=>
       cases hv with
       | some _=>simp [ORel] at hhi
       | none=>simp only [z0Y,Option.some.injEq] at e2;subst e2;simp [Instr.sliceBounds,z7n _ hlo e1 h1]
     | some a=>
       cases hv with
       | none=>simp [ORel] at hhi
       | some v=>simp [Instr.sliceBounds,z7n _ hhi e2 h2,z7n _ hlo e1 h1]
theorem z4o {Y:Nat→Prop} {len cap l h m:Nat} {lo:Option AVal} {hi mx:AVal} {lv:Option Value} {hv mv:Value} (hlo:ORel Y w B lo lv) (hhi:VRel Y w B hi hv) (hmx:VRel Y w B mx mv) (e1:z0Y lo 0=some l)
    (e2:z0Y (some hi) len=some h) (e3:z0Y (some mx) len=some m) (h1:l≤h) (h2:h≤m) (h3:m≤cap):(Instr.sliceBounds true len cap lv (some hv) (some mv)).run P w=.ok (l,h,m) w:=by
 cases lo with
 | none=>
   cases lv with
   | some _=>simp [ORel] at hlo
   | none=>
     simp only [z0Y,Option.some.injEq] at e1;subst e1
     simp [Instr.sliceBounds,z7n _ hmx e3 h3,z7n _ hhi e2 h2]
 | some b=>
   cases lv with
   | none=>simp [ORel] at hlo
   | some u=>simp [Instr.sliceBounds,z7n _ hmx e3 h3,z7n _ hhi e2 h2,z7n _ hlo e1 h1]
theorem zFM {Y:Nat→Prop} {cl cl':Bool} {sz l h cap:Nat} {es:List AVal} {ad:Option Addr} (hr:VRel Y w B (.lit cl sz es) (.slice ad es.length cap)) (h1:l≤h) (h2:h≤es.length) {m:Nat} (hm:h≤m) (hmc:m≤cap)
    (hcl:cl'=true→m=h):
    VRel Y w B (.lit cl' sz ((es.drop l).take (h - l))) (.slice (if m=l then ad else ad.map (·.add (l * sz))) (h - l) (m - l)):=by
 simp only [VRel] at hr ⊢
 obtain ⟨ad',cap',e,hlc,_,hz,hnil,hr⟩:=hr
 cases e
 have hlen:((es.drop l).take (h - l)).length=h - l:=by simp;omega
 refine ⟨_,_,by rw [hlen],by rw [hlen];omega,fun hc=>by rw [hlen];have:=hcl hc;omega,fun h0=>?_,fun h0=>?_,?_⟩
 · obtain ⟨rfl,rfl⟩:=hz h0;simp;omega
 · split at h0
   · omega
   · cases ad with
     | none=>have:=hnil rfl;omega
     | some _=>simp at h0
 · by_cases hlh:h=l
   · left;simp [hlh]
   · rcases hr with rfl | ⟨r,o,vs,rfl,hy,hall,h1c,⟨c,T,fz,hc,hn,rfl⟩,hr⟩
     · simp at h2;omega
     · right
       have hsub:∀ x ∈ (es.drop l).take (h - l),x ∈ es:=fun x hx=>List.mem_of_mem_drop (List.mem_of_mem_take hx)
       have hmul:h * sz≤es.length * sz:=Nat.mul_le_mul_right _ h2
       have hdist:(h - l) * sz=h * sz - l * sz:=Nat.sub_mul _ _ _
       have hlm:l * sz≤h * sz:=Nat.mul_le_mul_right _ h1
       rw [if_neg (by omega)]
       refine ⟨r,o+l * sz,_,by simp [z1y],hy,fun x hx=>hall x (hsub x hx),fun c hc=>?_,⟨c,T,fz,hc,by rw [hlen];omega,rfl⟩,?_⟩
       · rw [z1m (fun x hx=>hall x (List.mem_of_mem_drop hx)),z1k hall] at hc
         exact h1c c (List.mem_of_mem_drop (List.mem_of_mem_take hc))
       · rw [z1m (fun x hx=>hall x (List.mem_of_mem_drop hx)),z1k hall,hlen]
         have:=VRelL_take (VRelL_drop hr (l * sz)) ((h - l) * sz)
         rw [List.drop_take,List.drop_drop,List.take_take,Nat.min_eq_left (by omega)] at this
         exact this
theorem zFg (hE:EnvOk E P) {t:Nat} {x v:AVal} {lo hi mx:Option AVal} {xv:Value} {lv hv mv:Option Value} (hx:VRel (avoid X B) w B x xv) (hlo:ORel (avoid X B) w B lo lv) (hhi:ORel (avoid X B) w B hi hv) (hmx:ORel (avoid X B) w B mx mv)
    (hH:HRel B X w H) (h:z0g E H t x lo hi mx=some v):∃ v',(Instr.sliceAt t xv lv hv mv).run P w=.ok v' w∧VRel (avoid X B) w B v v':=by
 unfold z0g at h
 cases ht:E.ti t with
 | none=>simp [ht] at h
 | some ti=>
   obtain ⟨info,d,z,hT⟩:=hE.ty t ti ht
   simp only [ht] at h
   split at h
   · -- a string
     rename_i s hd
     have hd':=z2m (hT.d.trans hd);subst hd'
     split at h
     · rename_i l hh e1 e2
       split at h
       · rename_i hc
         simp only [Bool.and_eq_true,decide_eq_true_eq] at hc
         cases h
         rw [z1p] at hx;subst hx
         cases mv with
         | some _=>simp [ORel] at hmx
         | none=>
           have hsz:(ByteArray.mk ⟨s⟩).size=s.length:=by simp [ByteArray.size]
           have hb:=z4Q (P:=P) (isSlice:=false) hlo hhi e1 e2 hc.1 hc.2
           refine ⟨.string ((ByteArray.mk ⟨s⟩).extract l hh),?_,?_⟩
           · simp only [Instr.sliceAt,Sem.run_bind,z0G hT.und,Result.andThen_ok,Instr.slice,Option.isSome_none,Bool.false_eq_true,if_false,Sem.run_pure,hsz,hb]
           · rw [z1p]
             have:=Lib.extract_data (ByteArray.mk ⟨s⟩) l hh
             simp only at this
             rw [← this]
       · cases h
     · cases h
   · -- a slice by value
     rename_i e cl sz es hd
     have hd':=z0y (hT.d.trans hd);subst hd'
     split at h
     · rename_i te l hh m ete e1 e2 e3
       split at h
       · rename_i hc
         simp only [Bool.and_eq_true,decide_eq_true_eq,Bool.or_eq_true,beq_iff_eq,List.isEmpty_iff] at hc
         obtain ⟨⟨⟨⟨⟨c0,c1⟩,c2⟩,c3⟩,c4⟩,c5⟩:=hc
         cases h
         obtain ⟨info2,d2,z2,hT2⟩:=hE.ty e te ete
         have hx0:=hx
         simp only [VRel] at hx0
         obtain ⟨ad,cap,rfl,hle,hcl,_,hnil,_⟩:=hx0
         have hsame:∀ k,k≤es.length→ad.map (·.add (k * te.sz))=ad.map (·.add (k * sz)):=by
          intro k hk
          rcases c0 with c0 | c0
          · subst c0;simp at hk;subst hk;simp
          · rw [c0]
         cases mx with
         | none=>
           cases mv with
           | some _=>simp [ORel] at hmx
           | none=>
             have hb:=z4Q (P:=P) (isSlice:=true) (cap:=cap) hlo hhi e1 e2 c1 (by omega)
             refine ⟨_,?_,zFM (m:=cap) hx c1 (by omega) (by omega) (Nat.le_refl _) (fun hc=>?_)⟩
             · simp only [Instr.sliceAt,Sem.run_bind,z0G hT.und,Result.andThen_ok,Instr.slice,hb,z0t hT2.inf,hT2.sz,Sem.run_pure]
               rw [hsame l (by omega)]
             · simp at hc;rw [hcl hc.1,hc.2]
         | some mx=>
           cases mv with
           | none=>simp [ORel] at hmx
           | some mv=>
             simp only [Option.isNone_some,Bool.false_eq_true,false_or] at c4 c5
             cases hi with
             | none=>simp at c5
             | some hi=>
               cases hv with
               | none=>simp [ORel] at hhi
               | some hv=>
                 have hb:=z4o (P:=P) (cap:=cap) hlo hhi hmx e1 e2 e3 c1 c2 (by omega)
                 refine ⟨_,?_,zFM (m:=m) hx c1 (by omega) c2 (by omega) (fun _=>c4)⟩
                 simp only [Instr.sliceAt,Sem.run_bind,z0G hT.und,Result.andThen_ok,Instr.slice,hb,z0t hT2.inf,hT2.sz,Sem.run_pure]
                 rw [hsame l (by omega)]
       · split at h
         · rename_i hc
           simp only [Bool.and_eq_true,decide_eq_true_eq,Bool.or_eq_true,beq_iff_eq,List.isEmpty_iff] at hc
           obtain ⟨⟨⟨⟨⟨_,c1⟩,c2⟩,c3⟩,c4⟩,c5⟩:=hc
           cases h
           obtain ⟨info2,d2,z2,hT2⟩:=hE.ty e te ete
           simp only [VRel] at hx
           obtain ⟨ad,cap,rfl,hle,_⟩:=hx
           cases mx with
           | none=>simp at c4
           | some mx=>
             cases mv with
             | none=>simp [ORel] at hmx
             | some mv=>
               cases hi with
               | none=>simp at c5
               | some hi=>
                 cases hv with
                 | none=>simp [ORel] at hhi
                 | some hv=>
                   have hb:=z4o (P:=P) (cap:=cap) hlo hhi hmx e1 e2 e3 c1 c2 (by omega)
                   refine ⟨.slice (if m=l then ad else ad.map (·.add (l * te.sz))) (hh - l) (m - l),?_,by simp only [VRel];rfl⟩
                   simp only [Instr.sliceAt,Sem.run_bind,z0G hT.und,Result.andThen_ok,Instr.slice,hb,z0t hT2.inf,hT2.sz,Sem.run_pure]
         · cases h
     · cases h
   · -- a slice of a block
     rename_i e id g i len cl hd
     have hd':=z0y (hT.d.trans hd);subst hd'
     split at h
     · rename_i te g' sz fl bs l hh m ete hbk e1 e2 e3
       split at h
       · rename_i hc
         simp only [Bool.and_eq_true,decide_eq_true_eq,Bool.or_eq_true,beq_iff_eq,List.isEmpty_iff] at hc
         obtain ⟨⟨⟨⟨⟨⟨c00,c0⟩,c1⟩,c23⟩,c4⟩,c5⟩,c6⟩:=hc
         subst c00
         cases h
         obtain ⟨info2,d2,z2,hT2⟩:=hE.ty e te ete
         obtain ⟨en,hB,hg,hs,hh2⟩:=hH.cells hbk
         have hx0:=hx
         simp only [VRel] at hx0
         obtain ⟨ad,cap,rfl,hle,hcl,hnil,en',hB',hgle,hx0⟩:=hx0
         rw [hB] at hB';cases hB'
         have hx1:=hx0 hg.symm
         have hcaph:hh≤cap:=by
          rcases c23 with ⟨c2,c3⟩ | ⟨⟨_,c2⟩,c3⟩
          · omega
          · rcases hh2 with ⟨hst,hnil2⟩ | ⟨r,sh,tot,hst,⟨hlen,_⟩,_⟩
            · subst hnil2;simp at c3;omega
            · rw [hst] at hx1
              obtain ⟨q1,_,_⟩:=hx1
              simp only [Bool.not_eq_true'] at c2
              have:=q1 c2
              omega
         -- the address behind l elements
         have key:∀ m',hh≤m'→m'≤cap→(mx.isSome=true→m'=hh)→(mx.isSome=false→m'=cap) →
             VRel (avoid X B) w B (.ref id g' (i+l) (hh - l) (mx.isSome || cl)) (.slice (if m'=l then ad else ad.map (·.add (l * te.sz))) (hh - l) (m' - l)):=by
          intro m' k1 k2 k3 k4
          simp only [VRel]
          refine ⟨_,_,rfl,by omega,fun hc=>?_,fun hn=>?_,en,hB,by omega,fun _=>?_⟩
          · cases hm:mx.isSome with
            | true=>rw [k3 hm]
            | false=>
              rw [hm] at hc
              simp only [Bool.false_or] at hc
              rw [k4 hm,hcl hc]
              rcases c6 with (c6 | c6) | c6
              · rw [hm] at c6;cases c6
              · rw [hc] at c6;cases c6
              · omega
          · split at hn
            · omega
            · cases ad with
              | none=>have:=hnil rfl;omega
              | some _=>simp at hn
          · rcases hh2 with ⟨hst,hnil2⟩ | ⟨r,sh,tot,hst,⟨hlen,_⟩,_⟩
            · rw [hst] at hx1 ⊢
              obtain ⟨q1,q2,q3⟩:=hx1
              refine ⟨by omega,by omega,fun hz=>?_⟩
              rw [if_pos (by omega)];exact q3 hz
            · rw [hst] at hx1 ⊢
              obtain ⟨q1,q2,q3⟩:=hx1
              refine ⟨fun hc=>?_,by omega,?_⟩
              · cases hm:mx.isSome with
                | true=>rw [hm] at hc;cases hc
                | false=>
                  rw [hm] at hc
                  simp only [Bool.false_or] at hc
                  have:=q1 hc
                  rw [k4 hm];omega
              · by_cases hml:m'=l
                · left;omega
                · right
                  rw [if_neg hml]
                  rcases q3 with q3 | q3
                  · omega
                  · rw [q3]
                    rcases c0 with c0 | c0
                    · rw [← c0,hs];simp [z1y,Nat.add_mul,Nat.add_assoc]
                    · rw [c0.2];simp [Addr.add]
         cases mx with
         | none=>
           cases mv with
           | some _=>simp [ORel] at hmx
           | none=>
             have hb:=z4Q (P:=P) (isSlice:=true) (cap:=cap) hlo hhi e1 e2 c1 hcaph
             refine ⟨_,?_,key cap hcaph (Nat.le_refl _) (by simp) (fun _=>rfl)⟩
             simp only [Instr.sliceAt,Sem.run_bind,z0G hT.und,Result.andThen_ok,Instr.slice,hb,z0t hT2.inf,hT2.sz,Sem.run_pure]
         | some mx=>
           cases mv with
           | none=>simp [ORel] at hmx
           | some mv=>
             simp only [Option.isNone_some,Bool.false_eq_true,false_or] at c4 c5
             cases hi with
             | none=>simp at c5
             | some hi=>
               cases hv with
               | none=>simp [ORel] at hhi
               | some hv=>
                 have c2:hh≤m∧m≤len:=c23.resolve_right (by simp)
                 have hb:=z4o (P:=P) (cap:=cap) hlo hhi hmx e1 e2 e3 c1 c2.1 (by omega)
                 refine ⟨_,?_,key m (by omega) (by omega) (fun _=>c4) (by simp)⟩
                 simp only [Instr.sliceAt,Sem.run_bind,z0G hT.und,Result.andThen_ok,Instr.slice,hb,z0t hT2.inf,hT2.sz,Sem.run_pure]
       · split at h
         · rename_i hc
           simp only [Bool.and_eq_true,decide_eq_true_eq] at hc
           obtain ⟨⟨⟨⟨c1,c2⟩,c3⟩,c4⟩,c5⟩:=hc
           cases h
           obtain ⟨info2,d2,z2,hT2⟩:=hE.ty e te ete
           simp only [VRel] at hx
           obtain ⟨ad,cap,rfl,hle,_⟩:=hx
           cases mx with
           | none=>simp at c4
           | some mx=>
             cases mv with
             | none=>simp [ORel] at hmx
             | some mv=>
               cases hi with
               | none=>simp at c5
               | some hi=>
                 cases hv with
                 | none=>simp [ORel] at hhi
                 | some hv=>
                   have hb:=z4o (P:=P) (cap:=cap) hlo hhi hmx e1 e2 e3 c1 c2 (by omega)
                   refine ⟨.slice (if m=l then ad else ad.map (·.add (l * te.sz))) (hh - l) (m - l),?_,by simp only [VRel];rfl⟩
                   simp only [Instr.sliceAt,Sem.run_bind,z0G hT.und,Result.andThen_ok,Instr.slice,hb,z0t hT2.inf,hT2.sz,Sem.run_pure]
         · cases h
     · cases h
   · -- an array's cells
     rename_i n e id g i f hd
     have hd':=z4k (hT.d.trans hd);subst hd'
     split at h
     · rename_i te l hh ete e1 e2
       split at h
       · rename_i hc
         simp only [Bool.and_eq_true,decide_eq_true_eq] at hc
         obtain ⟨⟨c0,c1⟩,c2⟩:=hc
         cases h
         obtain ⟨info2,d2,z2,hT2⟩:=hE.ty e te ete
         simp only [VRel] at hx
         obtain ⟨ad,rfl,en,hB,hg,hx⟩:=hx
         cases mv with
         | some _=>simp [ORel] at hmx
         | none=>
           have hb:=z4Q (P:=P) (isSlice:=false) hlo hhi e1 e2 c1 c2
           refine ⟨_,by simp only [Instr.sliceAt,Sem.run_bind,z0G hT.und,Result.andThen_ok,Instr.sureAddr,Sem.run_pure,hb,z0t hT2.inf,hT2.sz];rfl,?_⟩
           simp only [VRel]
           refine ⟨_,_,rfl,by omega,by simp,en,hB,hg,fun hge r sh tot hst=>?_⟩
           by_cases hnl:n=l
           · left;omega
           · right;rw [if_neg hnl,hx hge r sh tot hst,z1y,c0];simp [Nat.add_assoc]
       · cases h
     · cases h
   · -- an array's cells,by value
     rename_i n e cs f hd
     have hd':=z4k (hT.d.trans hd);subst hd'
     split at h
     · rename_i te l hh ete e1 e2
       split at h
       · rename_i hc
         simp only [Bool.and_eq_true,decide_eq_true_eq] at hc
         obtain ⟨⟨⟨c0,c1⟩,c2⟩,c3⟩:=hc
         cases h
         obtain ⟨info2,d2,z2,hT2⟩:=hE.ty e te ete
         simp only [VRel] at hx
         obtain ⟨r,o,vs,rfl,hy,⟨c,T,fz,hcc,hn,rfl⟩,h1c,hr⟩:=hx
         simp only [AVal.cellsOf] at hn h1c hr
         cases mv with
         | some _=>simp [ORel] at hmx
         | none=>
           have hb:=z4Q (P:=P) (isSlice:=false) hlo hhi e1 e2 c1 c2
           have hbase:VRel (avoid X B) w B (.lit false 1 ((cs.drop f).take n)) (.slice (some ⟨r,o+f,none⟩) ((cs.drop f).take n).length n):=by
            have hlen:((cs.drop f).take n).length=n:=by simp;omega
            have hone:∀ x ∈ (cs.drop f).take n,x.oneC=true:=fun x hx=>h1c x (List.mem_of_mem_drop (List.mem_of_mem_take hx))
            have hflat:∀ l:List AVal,(∀ x ∈ l,x.oneC=true)→flatC l=l:=by
             intro l hl
             induction l with
             | nil=>rfl
             | cons x l ih=>
               rw [flatC,ih (fun y hy=>hl y (by simp [hy]))]
               have:=hl x (by simp)
               cases x <;> simp_all [AVal.cellsOf,AVal.oneC]
            have hcell:∀ x:AVal,x.oneC=true→x.cellsOf.length=1:=by intro x hx;cases x <;> simp_all [AVal.cellsOf,AVal.oneC]
            simp only [VRel]
            refine ⟨_,_,rfl,by omega,by simp,by simp,by simp,.inr ⟨r,o+f,_,rfl,hy,fun x hx=>hcell x (hone x hx),?_,⟨c,T,fz,hcc,by rw [hlen];omega,rfl⟩,?_⟩⟩
            · rw [hflat _ hone];exact hone
            · rw [hflat _ hone,hlen,Nat.mul_one]
              have:=VRelL_take (VRelL_drop hr f) n
              rw [List.drop_take,List.drop_drop,List.take_take,Nat.min_eq_left (by omega)] at this
              exact this
           refine ⟨_,?_,zFM (m:=n) (cl':=false) hbase c1 (by simp;omega) (by omega) (by omega) (by simp)⟩
           simp only [Instr.sliceAt,Sem.run_bind,z0G hT.und,Result.andThen_ok,Instr.sureAddr,Sem.run_pure,hb,z0t hT2.inf,hT2.sz,c0]
           by_cases hnl:n=l <;> simp [hnl]
       · cases h
     · cases h
   · cases h
end
section
variable {E:Env} {P:Program} {w:World} {X:Nat→Prop} {B:BMap} {H:Heap}
theorem z1N {l:List AVal} (h:∀ x ∈ l,x.oneC=true):flatC l=l:=by
 induction l with
 | nil=>rfl
 | cons x l ih=>
   rw [flatC,ih (fun y hy=>h y (by simp [hy]))]
   have:=h x (by simp)
   cases x <;> simp_all [AVal.cellsOf,AVal.oneC]
theorem z5K {x:AVal} (h:x.oneC=true):x.cellsOf.length=1:=by cases x <;> simp_all [AVal.cellsOf,AVal.oneC]
theorem zDQ {Y:Nat→Prop} (l:List UInt8):VRelL Y w B (l.map fun b=>AVal.int .u8 b.toNat) (l.map fun b=>Value.int .u8 b.toNat):=by
 induction l with
 | nil=>exact z0N
 | cons b l ih=>exact z0D.2 ⟨by simp [VRel],ih⟩
structure Lies (w:World) (Y:Nat→Prop) (B:BMap) (es:List AVal) (sz:Nat) (v:Value):Prop where
 shape:∃ ad cap,v=.slice ad es.length cap∧es.length≤cap∧(es=[] ∨ ∃ (r o:Nat) (c:Array Value) (T:TypeId) (fz:Nat × Nat),ad=some ⟨r,o,none⟩∧w.heap[r]?=some (.cells c T fz)∧o+es.length * sz≤c.size ∧
  VRelL Y w B (flatC es) ((c.toList.drop o).take (es.length * sz)))
 size:∀ x ∈ es,x.cellsOf.length=sz
 one:∀ c ∈ flatC es,c.oneC=true
theorem zBP (hH:HRel B X w H) {x:AVal} {xv:Value} (hx:VRel (avoid X B) w B x xv) {sz:Nat} {es:List AVal} (h:z16 H x=some (sz,es)):
    (∃ s,x=.str s∧sz=1∧es=s.map fun b=>.int .u8 b.toNat) ∨ Lies w (avoid X B) B es sz xv:=by
 unfold z16 at h
 split at h
 · cases h
   simp only [VRel] at hx
   obtain ⟨ad,cap,rfl,hle,_,_,_,hx⟩:=hx
   right
   rcases hx with rfl | ⟨r,o,vs,rfl,hy,hall,h1c,⟨c,T,fz,hc,hn,rfl⟩,hr⟩
   · exact ⟨⟨ad,cap,rfl,hle,.inl rfl⟩,by simp,by simp [flatC]⟩
   · exact ⟨⟨_,cap,rfl,hle,.inr ⟨r,o,c,T,fz,rfl,hc,hn,hr.last (.refl _ _) (.nil _)⟩⟩,hall,h1c⟩
 · cases h;exact .inl ⟨_,rfl,rfl,rfl⟩
 · rename_i id g i len cl
   right
   split at h
   · rename_i g' sz' fl bs hb
     split at h
     · rename_i hc
       simp only [Bool.and_eq_true,decide_eq_true_eq] at hc
       obtain ⟨rfl,hlen⟩:=hc
       cases h
       obtain ⟨en,hB,hg,hs,hh⟩:=hH.cells hb
       simp only [VRel] at hx
       obtain ⟨ad,cap,rfl,hle,_,_,en',hB',_,hx⟩:=hx
       rw [hB] at hB';cases hB'
       have hx:=hx hg.symm
       have hl:((bs.drop i).take len).length=len:=by simp;omega
       rcases hh with ⟨hst,rfl⟩ | ⟨r,sh,tot,hst,⟨hlen2,_⟩,hall,h1c,c,T,hc,hcs,hr⟩
       · have:len=0:=by simp at hlen;omega
         subst this
         exact ⟨⟨ad,cap,by simp,by simp,.inl (by simp)⟩,by simp,by simp [flatC]⟩
       · rw [hst] at hx
         obtain ⟨_,hcap,had⟩:=hx
         have hall':∀ x ∈ (bs.drop i).take len,x.cellsOf.length=sz:=fun x hx=>hall x (List.mem_of_mem_drop (List.mem_of_mem_take hx))
         have hflat:flatC ((bs.drop i).take len)=((flatC bs).drop (i * sz)).take (len * sz):=by
          rw [z1m (fun x hx=>hall x (List.mem_of_mem_drop hx)),z1k hall]
         refine ⟨⟨ad,cap,by rw [hl],by rw [hl];exact hle,?_⟩,hall',fun x hx=>?_⟩
         · rcases had with h0 | rfl
           · left;have:len=0:=by omega
             subst this;simp
           · right
             have hm:(i+len) * sz≤tot * sz:=Nat.mul_le_mul_right _ (by omega)
             have hm2:(i+len) * sz≤bs.length * sz:=Nat.mul_le_mul_right _ (by omega)
             rw [Nat.add_mul] at hm hm2
             refine ⟨r,sh+i * en.sz,c,T,_,rfl,hc,by rw [hl,hs];omega,?_⟩
             rw [hflat,hl,hs]
             have:=VRelL_take (VRelL_drop hr.flat (i * sz)) (len * sz)
             rw [List.drop_take,List.drop_drop,List.take_take,Nat.min_eq_left (by omega)] at this
             exact this
         · rw [hflat] at hx;exact h1c x (List.mem_of_mem_drop (List.mem_of_mem_take hx))
     · cases h
   · cases h
 · rename_i id g i f len
   right
   split at h
   · rename_i sz' fl bs cs hel
     obtain ⟨hb,hi⟩:=z33 hel
     split at h
     · rename_i hc
       cases h
       obtain ⟨en,hB,hg,hs,hh⟩:=hH.cells hb
       simp only [VRel] at hx
       obtain ⟨ad,cap,rfl,hle,_,en',hB',_,hx⟩:=hx
       rw [hB] at hB';cases hB'
       rcases hh with ⟨hst,rfl⟩ | ⟨r,sh,tot,hst,⟨hlen2,_⟩,hall,h1c,c,T,hcc,hcs,hr⟩
       · simp at hi
       · have had:=hx hg.symm r sh tot hst
         have hl:((cs.drop f).take len).length=len:=by simp;omega
         have hcl:cs.length=sz':=hall _ (List.mem_of_getElem? hi)
         have h1:∀ x ∈ cs,x.oneC=true:=fun x hx=>h1c x (zA1 (List.mem_of_getElem? hi) hx)
         have h1':∀ x ∈ (cs.drop f).take len,x.oneC=true:=fun x hx=>h1 x (List.mem_of_mem_drop (List.mem_of_mem_take hx))
         have hlt:=(List.getElem?_eq_some_iff.1 hi).1
         have hm:(i+1) * sz'≤tot * sz':=Nat.mul_le_mul_right _ (by omega)
         rw [Nat.succ_mul] at hm
         refine ⟨⟨ad,cap,by rw [hl],by rw [hl];exact hle,?_⟩,fun x hx=>z5K (h1' x hx),by rw [z1N h1'];exact h1'⟩
         rcases had with h0 | rfl
         · left;have:len=0:=by omega
           subst this;simp
         · right
           refine ⟨r,sh+i * en.sz+f,c,T,_,rfl,hcc,by rw [hl,hs];omega,?_⟩
           rw [z1N h1',hl,Nat.mul_one,hs]
           have:=VRelL_take (VRelL_drop (z87 hall hi hr.flat) f) len
           simp only [AVal.cellsOf] at this
           rw [List.drop_take,List.drop_drop,List.take_take,Nat.min_eq_left (by omega)] at this
           exact this
     · cases h
   · cases h
 · cases h
theorem Lies.len {Y:Nat→Prop} {es:List AVal} {sz:Nat} {v:Value} (h:Lies w Y B es sz v):(Builtin.lenOf v).run P w=.ok es.length w:=by
 obtain ⟨ad,cap,rfl,_⟩:=h.shape;rfl
theorem Lies.first {Y:Nat→Prop} {es:List AVal} {sz:Nat} {v:Value} (h:Lies w Y B es sz v) {n:Nat} (hn:n≤es.length) {size:Nat} (hs:es=[] ∨ size=sz):
    ∃ cs:Array Value,(Builtin.firstCells size n v).run P w=.ok cs w∧VRelL Y w B (flatC (es.take n)) cs.toList:=by
 obtain ⟨ad,cap,rfl,_,hsh⟩:=h.shape
 rcases hsh with rfl | ⟨r,o,c,T,fz,rfl,hc,hle,hr⟩
 · simp at hn;subst hn
   cases ad with
   | none=>exact ⟨#[],rfl,by simp [flatC,z0N]⟩
   | some a=>exact ⟨#[],by simp [Builtin.firstCells,loadCells,loadCellsFrom],by simp [flatC,z0N]⟩
 · by_cases he:es=[]
   · subst he;simp at hn;subst hn
     exact ⟨#[],by simp [Builtin.firstCells,loadCells,loadCellsFrom],by simp [flatC,z0N]⟩
   · have hsz:=hs.resolve_left he
     subst hsz
     have hm:n * size≤es.length * size:=Nat.mul_le_mul_right _ hn
     refine ⟨_,z21 hc (by omega),?_⟩
     rw [z1m h.size]
     have:=VRelL_take hr (n * size)
     rw [List.take_take,Nat.min_eq_left hm] at this
     exact this
theorem zL9 {Y:Nat→Prop} {s:List UInt8} {n:Nat}:
    ∃ cs:Array Value,(Builtin.firstCells 1 n (.string ⟨⟨s⟩⟩)).run P w=.ok cs w∧VRelL Y w B (flatC ((s.map fun b=>AVal.int .u8 b.toNat).take n)) cs.toList:=by
 refine ⟨_,rfl,?_⟩
 rw [z1N (by intro x hx;obtain ⟨b,_,rfl⟩:=List.mem_map.1 (List.mem_of_mem_take hx);rfl)]
 have e1:(((ByteArray.mk ⟨s⟩).extract 0 n).data.map fun b=>Value.int .u8 b.toNat).toList=(s.take n).map fun b=>Value.int .u8 b.toNat:=by
  rw [Array.toList_map,Lib.extract_data];simp
 rw [e1,← List.map_take]
 exact zDQ _
theorem zFv {Y:Nat→Prop} {es:List AVal} {l:List UInt8} (h:z4J es=some l) {vs:List Value} (hr:VRelL Y w B es vs):∃ ns:List Int,vs=ns.map (Value.int .u8)∧l=ns.map fun n=>UInt8.ofNat n.toNat:=by
 induction es generalizing l vs with
 | nil=>simp [z4J] at h;subst h;rw [z08] at hr;exact ⟨[],by simp [hr],rfl⟩
 | cons e es ih=>
   obtain ⟨v,vs',rfl,h1,h2⟩:=z05.1 hr
   unfold z4J at h
   split at h
   · cases ‹e :: es=[]›
   · rename_i n es' heq
     cases heq
     simp only [Option.map_eq_some_iff] at h
     obtain ⟨l',h3,rfl⟩:=h
     obtain ⟨ns,rfl,rfl⟩:=ih h3 h2
     rw [z0v] at h1;subst h1
     exact ⟨n :: ns,rfl,rfl⟩
   · cases h
theorem zFu {es:List AVal} {l:List UInt8} (h:z4J es=some l):∀ x ∈ es,x.oneC=true:=by
 induction es generalizing l with
 | nil=>simp
 | cons e es ih=>
   unfold z4J at h
   split at h
   · cases ‹e :: es=[]›
   · rename_i n es' heq
     cases heq
     simp only [Option.map_eq_some_iff] at h
     obtain ⟨l',h3,rfl⟩:=h
     intro x hx
     rcases List.mem_cons.1 hx with rfl | hx
     · rfl
     · exact ih h3 x hx
   · cases h
end
def z2V (w:World) (o:Obj):World:={ w with heap:=w.heap.push o }
def Slot (H:Heap) (B:BMap) (nx:Nat):Prop:=(nx < H.length∧H[nx]?=some .free∧B nx=none) ∨ nx=H.length
section
variable {E:Env} {P:Program} {w:World} {X:Nat→Prop} {B:BMap} {H:Heap}
theorem z2g (w:World) (o:Obj):(z2V w o).heap.size=w.heap.size+1:=by simp [z2V]
theorem z3v (w:World) (o:Obj) {r:Nat} (h:r < w.heap.size):(z2V w o).heap[r]?=w.heap[r]?:=by
 simp only [z2V,Array.getElem?_push]
 rw [if_neg (by omega)]
theorem z4c (w:World) (o:Obj):(z2V w o).heap[w.heap.size]?=some o:=by simp only [z2V,Array.getElem?_push,if_true]
theorem z23 (T:TypeId) (c:Array Value) (w:World):(newRow T c).run P w=.ok ⟨w.heap.size,0,none⟩ (z2V w (.cells c T)):=by
 simp [newRow,newObj,Sem.run,z2V]
theorem HRel.new (h:HRel B X w H) {w':World} {nx:Nat} {b:Blk} {e:Ent} (ro:Nat) (hs:Slot H B nx) (hsz:w.heap.size≤w'.heap.size) (hsame:∀ r,r < w.heap.size→w'.heap[r]?=w.heap[r]?)
    (hos:w'.os=w.os∧w'.output=w.output∧w'.tape=w.tape)
    (hreal:∀ r s t,e.st=.real r s t→r < w'.heap.size∧w.heap.size≤r) (hok:∀ Y' B',Lasts (avoid X B) w Y' w'→BLe B B'→BOk Y' w' B' b e):
    HRel (Tidy.upd B nx e) X w' (putU H [(nx,b)])∧Evo ro B X w (Tidy.upd B nx e) w':=by
 have hnone:B nx=none:=by
  rcases hs with ⟨_,_,h1⟩ | rfl
  · exact h1
  · cases hB:B H.length with
    | none=>rfl
    | some e0=>have:=h.dom _ _ hB;omega
 have hro:∀ id e1,id < ro→B id=some e1→Tidy.upd B nx e id=some e1∧∀ r s t,e1.st=.real r s t→w'.heap[r]?=w.heap[r]?:=by
  intro id e1 _ h1
  have hne:id ≠ nx:=by rintro rfl;rw [hnone] at h1;cases h1
  exact ⟨by rw [z1X _ _ hne,h1],fun r s t hst=>hsame r (h.lt id e1 r s t h1 hst).1⟩
 rcases hs with ⟨hlt,hd,_⟩ | rfl
 · obtain ⟨h1,h2,h3⟩:=h.upd (w':=w') (b:=b) (e:=e) hlt hsz (fun r hr _=>hsame r hr) (fun e0 h0=>by rw [hnone] at h0;cases h0)
     (fun r s t hst=>⟨(hreal r s t hst).1,.inl (hreal r s t hst).2⟩) hok
   refine ⟨?_,⟨h2,h3,hos,hro,fun r hx=>hsame r (h.xlt r hx)⟩⟩
   simp only [putU];rw [if_pos hlt];exact h1
 · have hsl:=h.slots 1
   obtain ⟨h1,h2,h3⟩:=hsl.upd (w':=w') (id:=H.length) (b:=b) (e:=e) (by simp) hsz (fun r hr _=>hsame r hr) (fun e0 h0=>by rw [hnone] at h0;cases h0)
    (fun r s t hst=>⟨(hreal r s t hst).1,.inl (hreal r s t hst).2⟩) hok
   refine ⟨?_,⟨h2,h3,hos,hro,fun r hx=>hsame r (h.xlt r hx)⟩⟩
   simp only [putU];rw [if_neg (by omega)]
   have:(H++List.replicate 1 Blk.free).set H.length b=H++[b]:=by simp
   rw [← this];exact h1
theorem HRel.newCells (h:HRel B X w H) {nx sz:Nat} {fl:Bool} {es:List AVal} {c:Array Value} {T:TypeId} {tot:Nat} (ro:Nat) (hs:Slot H B nx) (hpos:0 < sz) (hall:∀ x ∈ es,x.cellsOf.length=sz) (h1c:∀ x ∈ flatC es,x.oneC=true)
    (hle:es.length≤tot) (hc:c.size=tot * sz) (hr:VRelL (avoid X B) w B (flatC es) (c.toList.take (es.length * sz))) (hfl:fl=true→underL 0 (flatC es)=true) {w0:World} (hw0:w0.heap=w.heap)
    (hos:w0.os=w.os∧w0.output=w.output∧w0.tape=w.tape):
    HRel (Tidy.upd B nx ⟨0,sz,.real w.heap.size 0 tot⟩) X (z2V w0 (.cells c T)) (putU H [(nx,.cells 0 sz fl es)])∧Evo ro B X w (Tidy.upd B nx ⟨0,sz,.real w.heap.size 0 tot⟩) (z2V w0 (.cells c T)):=by
 have hsz0:w0.heap.size=w.heap.size:=by rw [hw0]
 refine h.new ro hs (by rw [z2g];omega) (fun r hr=>by rw [z3v _ _ (by omega),hw0]) hos (fun r s t hst=>by cases hst;rw [z2g];omega) ?_
 intro Y' B' hl hB
 unfold BOk
 refine ⟨⟨rfl,hpos⟩,rfl,hle,hall,h1c,c,T,by rw [← hsz0];exact z4c _ _,by omega,?_⟩
 rw [List.drop_zero]
 cases fl with
 | true=>exact (hr.noRefL (B':=B0) (hfl rfl)).last hl (.refl _)
 | false=>exact hr.last hl hB
theorem z58 (m:Nat) (a b:List AVal):underL m (a++b)=(underL m a && underL m b):=by
 induction a with
 | nil=>simp [underL]
 | cons x a ih=>simp [underL,ih,Bool.and_assoc]
theorem z59 {m:Nat} {es:List AVal} (h:∀ x ∈ es,x.under m=true):underL m (flatC es)=true:=by
 induction es with
 | nil=>simp [flatC,underL]
 | cons e es ih=>
   rw [flatC,z58,z3b (h e (by simp)),ih (fun x hx=>h x (by simp [hx]))]
   rfl
theorem z5b {need old:Nat} (h:old < need):Builtin.nextslicecap need old≤3 * need:=by
 unfold Builtin.nextslicecap
 split
 · omega
 · split
   · omega
   · rename_i h1 h2
     have hg:∀ k c,c < need→Builtin.growBy need k c≤2 * need+192:=by
      intro k
      induction k with
      | zero=>intro c hc;simp [Builtin.growBy];omega
      | succ k ih=>
        intro c hc
        simp only [Builtin.growBy]
        rw [if_neg (by omega)]
        by_cases hd:c+(c+768) / 4 < need
        · exact ih _ hd
        · cases k with
          | zero=>simp [Builtin.growBy];omega
          | succ k=>simp only [Builtin.growBy];rw [if_pos (by omega)];omega
     have:=hg 4 old h
     omega
theorem z3Y {t e:Nat} {te:TI} {i:TypeInfo} {d:TypeDesc} {z:Value} (ht:P.underlying t=some (.slice e)) (hT:TOk P e te i d z) {ty:TypeId} {at2:TypeId} (ht2:(∃ e2,P.underlying at2=some (.slice e2)) ∨ P.underlying at2=some .string)
    {base:Option Addr} {sLen sCap n:Nat} {x:Value} {cs:Array Value} (hlen:(Builtin.lenOf x).run P w=.ok n w) (hfirst:(Builtin.firstCells te.sz n x).run P w=.ok cs w) (hroom:sLen+n≤sCap) {w':World}
    (hst:∀ a,base=some a→(storeCells (a.add (sLen * te.sz)) cs.toList).run P w=.ok () w') (hnil:base=none→w'=w):
    (Builtin.append_ #[t,at2] ty #[.slice base sLen sCap,x]).run P w=.ok (.slice base (sLen+n) sCap) w':=by
 have hs2:(Go.sizeOf e).run P w=.ok te.sz w:=by rw [z0t hT.inf,hT.sz]
 rcases ht2 with ⟨e2,ht2⟩ | ht2
 · cases base with
   | none=>rw [hnil rfl];simp [Builtin.append_,z0G ht,hs2,z0G ht2,hlen,hroom,hfirst]
   | some a=>simp [Builtin.append_,z0G ht,hs2,z0G ht2,hlen,hroom,hfirst,hst a rfl]
 · cases base with
   | none=>rw [hnil rfl];simp [Builtin.append_,z0G ht,hs2,z0G ht2,hlen,hroom,hfirst]
   | some a=>simp [Builtin.append_,z0G ht,hs2,z0G ht2,hlen,hroom,hfirst,hst a rfl]
theorem zAO (n:Nat) (w:World):(askRoom n).run P w=.ok () w:=by
 unfold askRoom;split <;> simp [mark,Sem.run]
theorem z3y {t e:Nat} {te:TI} {i:TypeInfo} {d:TypeDesc} {z:Value} (ht:P.underlying t=some (.slice e)) (hT:TOk P e te i d z) {ty:TypeId} {at2:TypeId} (ht2:(∃ e2,P.underlying at2=some (.slice e2)) ∨ P.underlying at2=some .string)
    {base:Option Addr} {sLen sCap n:Nat} {x:Value} {old new:Array Value} (hlen:(Builtin.lenOf x).run P w=.ok n w) (hroom:¬ sLen+n≤sCap) (hmax:(sLen+n) * (te.bytes+1)≤z04)
    (hold:∀ w':World,w'.heap=w.heap→(Builtin.firstCells te.sz sLen (.slice base sLen sCap)).run P w'=.ok old w') (hnew:∀ w':World,w'.heap=w.heap→(Builtin.firstCells te.sz n x).run P w'=.ok new w'):
    ∃ cap,sLen+n≤cap∧(Builtin.append_ #[t,at2] ty #[.slice base sLen sCap,x]).run P w =
     .ok (.slice (some ⟨w.heap.size,0,none⟩) (sLen+n) cap) (z2V w.drew (.cells (old++new++Builtin.zeroCells z.cells (cap - (sLen+n))) e)):=by
 have hs2:(Go.sizeOf e).run P w=.ok te.sz w:=by rw [z0t hT.inf,hT.sz]
 have hmx:z04=35184372088832:=rfl
 have hb1:(sLen+n) * te.bytes≤(sLen+n) * (te.bytes+1):=Nat.mul_le_mul_left _ (by omega)
 have hb2:(sLen+n) * 1≤(sLen+n) * (te.bytes+1):=Nat.mul_le_mul_left _ (by omega)
 have hnx:=z5b (need:=sLen+n) (old:=sCap) (by omega)
 have hb3:Builtin.nextslicecap (sLen+n) sCap * te.bytes≤3 * (sLen+n) * te.bytes:=Nat.mul_le_mul_right _ hnx
 have hb4:3 * (sLen+n) * te.bytes=3 * ((sLen+n) * te.bytes):=Nat.mul_assoc _ _ _
 have hnot1:¬ (9223372036854775807 < (sLen:Int)+(n:Int)∧te.bytes=0):=by
  rintro ⟨h,_⟩
  omega
 have hnot2:¬ (281474976710656 < Builtin.nextslicecap (sLen+n) sCap * te.bytes):=by omega
 have hh:w.drew.heap=w.heap:=rfl
 refine ⟨(Question.appendCap (sLen+n) sCap e).cut (w.tape w.drawn (.appendCap (sLen+n) sCap e)),by simp [Question.cut],?_⟩
 have hinf:∀ w',(typeInfo e).run P w'=.ok i w':=z7k hT.inf
 have hzv:∀ w',(zeroValue e).run P w'=.ok z w':=z2y hT.inf hT.hz
 have hforced:(Question.appendCap (sLen+n) sCap e).forced=false:=rfl
 have hby:=hT.by_
 generalize hcap:(Question.appendCap (sLen+n) sCap e).cut (w.tape w.drawn (.appendCap (sLen+n) sCap e))=cap
 rcases ht2 with ⟨e2,ht2⟩ | ht2
 · simp [Builtin.append_,z0G ht,hs2,z0G ht2,hlen,hroom,hinf,hby,hnot1,hnot2,hforced,hcap,hold _ hh,hnew _ hh,hzv,z23]
 · simp [Builtin.append_,z0G ht,hs2,z0G ht2,hlen,hroom,hinf,hby,hnot1,hnot2,hforced,hcap,hold _ hh,hnew _ hh,hzv,z23]
end
section
variable {E:Env} {P:Program} {w:World} {X:Nat→Prop} {B:BMap} {H:Heap}
theorem zEU (hH:HRel B X w H) {x:AVal} {xv:Value} (hx:VRel (avoid X B) w B x xv) {sz:Nat} {es:List AVal} (h:z16 H x=some (sz,es)) {size:Nat} (hs:es=[] ∨ size=sz) {n:Nat} (hn:n≤es.length):
    (∀ x ∈ es,x.cellsOf.length=sz)∧(∀ c ∈ flatC es,c.oneC=true)∧(∀ w':World,(Builtin.lenOf xv).run P w'=.ok es.length w') ∧
    ∃ cs:Array Value,VRelL (avoid X B) w B (flatC (es.take n)) cs.toList∧∀ w':World,w'.heap=w.heap→(Builtin.firstCells size n xv).run P w'=.ok cs w':=by
 rcases zBP hH hx h with ⟨s,rfl,rfl,rfl⟩ | hl
 · rw [z1p] at hx;subst hx
   have h1:∀ x ∈ s.map (fun b=>AVal.int .u8 b.toNat),x.oneC=true:=by
    intro x hx;obtain ⟨b,_,rfl⟩:=List.mem_map.1 hx;rfl
   refine ⟨fun x hx=>z5K (h1 x hx),by rw [z1N h1];exact h1,fun w'=>by simp [Builtin.lenOf,ByteArray.size],?_⟩
   obtain ⟨cs,h2,h3⟩:=zL9 (P:=P) (w:=w) (B:=B) (Y:=avoid X B) (s:=s) (n:=n)
   refine ⟨cs,h3,fun w' _=>?_⟩
   have:(Builtin.firstCells 1 n (.string ⟨⟨s⟩⟩)).run P w=.ok cs w→(Builtin.firstCells size n (.string ⟨⟨s⟩⟩)).run P w'=.ok cs w':=by
    intro h;simp [Builtin.firstCells] at h ⊢;exact h
   exact this h2
 · refine ⟨hl.size,hl.one,fun w'=>?_,?_⟩
   · obtain ⟨ad,cap,rfl,_⟩:=hl.shape;rfl
   · obtain ⟨ad,cap,rfl,_,hsh⟩:=hl.shape
     by_cases he:es=[]
     · subst he;simp at hn;subst hn
       refine ⟨#[],by simp [flatC,z0N],fun w' _=>?_⟩
       cases ad with
       | none=>rfl
       | some a=>simp [Builtin.firstCells,loadCells,loadCellsFrom]
     · obtain ⟨r,o,c,T,fz,rfl,hc,hle,hr⟩:=hsh.resolve_left he
       have hsz:=hs.resolve_left he
       subst hsz
       have hm:n * size≤es.length * size:=Nat.mul_le_mul_right _ hn
       refine ⟨((c.toList.drop o).take (n * size)).toArray,?_,fun w' hw=>z21 (by rw [hw];exact hc) (by omega)⟩
       rw [z1m hl.size]
       have:=VRelL_take hr (n * size)
       rw [List.take_take,Nat.min_eq_left hm] at this
       exact this
theorem z8y (z:Array Value) (n:Nat):(Builtin.zeroCells z n).size=n * z.size:=by simp [Builtin.zeroCells]
theorem z4K {l:List AVal} (h:l.all noRef=true):underL 0 (flatC l)=true:=
 z59 fun x hx=>List.all_eq_true.1 h x hx
theorem zG9 (Y:Nat→Prop) (w:World):(∀ a:AVal,∀ v,VRel Y w B0 a v→a.under 0=true)∧(∀ l:List AVal,∀ vs,VRelL Y w B0 l vs→underL 0 l=true):=by
 refine AVal.strong ?_ ?_
 · intro a ihp ihq v h
   cases a with
   | ptr id g i f=>simp only [VRel] at h;obtain ⟨_,_,_,h,_⟩:=h;cases h
   | mapp id=>simp only [VRel] at h;obtain ⟨_,_,_,h,_⟩:=h;cases h
   | ref id g i len cl=>simp only [VRel] at h;obtain ⟨_,_,_,_,_,_,_,h,_⟩:=h;cases h
   | view id g i f len=>simp only [VRel] at h;obtain ⟨_,_,_,_,_,_,h,_⟩:=h;cases h
   | func f a b=>
     simp only [VRel] at h
     obtain ⟨x,y,_,h2,h3⟩:=h
     simp only [AVal.under,ihq a (by simp;omega) _ h2,ihq b (by simp;omega) _ h3];rfl
   | iface t x=>simp only [VRel] at h;obtain ⟨y,_,h2⟩:=h;simpa only [AVal.under] using ihp x (by simp;omega) y h2
   | agg cs=>simp only [VRel] at h;obtain ⟨vs,_,h2,_⟩:=h;simpa only [AVal.under] using ihq cs (by simp) _ h2
   | tuple cs=>simp only [VRel] at h;obtain ⟨vs,_,h2⟩:=h;simpa only [AVal.under] using ihq cs (by simp) _ h2
   | _=>simp [AVal.under]
 · intro l ihp ihq vs h
   cases l with
   | nil=>rfl
   | cons a as=>
     obtain ⟨v,vs',rfl,hx,h⟩:=z05.1 h
     simp only [underL,ihp a (by simp;omega) v hx,ihq as (by simp;omega) vs' h];rfl
theorem zKD {Y:Nat→Prop} {cl:Bool} {sz:Nat} {es:List AVal} {v:Value} (h:VRel Y w B (.lit cl sz es) v):underL 0 (flatC es)=true:=by
 simp only [VRel] at h
 obtain ⟨_,_,_,_,_,_,_,h⟩:=h
 rcases h with rfl | ⟨_,_,vs,_,_,_,_,_,h⟩
 · rfl
 · exact (zG9 Y w).2 _ _ h
theorem z4t {e:Nat} {te:TI} {i:TypeInfo} {d:TypeDesc} {z:Value} (hT:TOk P e te i d z) (hz:te.zero.cellsOf.length=te.sz) (hzt:te.zero.isTuple=false)
    {es:List AVal} {old new:Array Value} {cap:Nat} (hcap:es.length≤cap) (hr:VRelL (avoid X B) w B (flatC es) (old++new).toList) (hall:∀ x ∈ es,x.cellsOf.length=te.sz):
    (old++new++Builtin.zeroCells z.cells (cap - es.length)).size=cap * te.sz∧VRelL (avoid X B) w B (flatC es) ((old++new++Builtin.zeroCells z.cells (cap - es.length)).toList.take (es.length * te.sz)):=by
 have h1:=z0O hr
 rw [z0a hall] at h1
 have h2:z.cells.size=te.sz:=by
  have:=z0O ((hT.zero (avoid X B) w B).cells hzt).1
  rw [hz] at this;simpa using this.symm
 refine ⟨?_,?_⟩
 · rw [Array.size_append,z8y,h2,← Array.length_toList,← h1,← Nat.add_mul];congr 1;omega
 · rw [Array.toList_append,List.take_append_of_le_length (by omega),List.take_of_length_le (by omega)];exact hr
theorem zIC {α:Type} {l a:List α} {sh k:Nat} (h:sh≤k) (hk:k+a.length≤l.length):((putAt l k a).drop sh).take (k - sh+a.length)=(l.drop sh).take (k - sh)++a:=by
 apply List.ext_getElem?
 intro j
 rw [List.getElem?_take,List.getElem?_drop,getElem?_putAt hk]
 by_cases h1:j < k - sh
 · rw [if_pos (by omega),if_neg (by omega),List.getElem?_append_left (by simp;omega),List.getElem?_take,if_pos h1,List.getElem?_drop]
 · by_cases h2:j < k - sh+a.length
   · rw [if_pos h2,if_pos (by omega),List.getElem?_append_right (by simp;omega)]
     congr 1;simp;omega
   · rw [if_neg h2,List.getElem?_append_right (by simp;omega),List.getElem?_eq_none (by simp;omega)]
theorem zAD {id:Nat} {b:Blk} (h:H[id]?=some b):putU H [(id,b)]=H:=by
 have hlt:=(List.getElem?_eq_some_iff.1 h).1
 simp only [putU];rw [if_pos hlt]
 apply List.ext_getElem?
 intro j
 by_cases hj:j=id
 · subst hj;rw [List.getElem?_set_self hlt,h]
 · rw [List.getElem?_set_ne (fun h=>hj h.symm)]
theorem HRel.grow (h:HRel B X w H) {id ro:Nat} {b:Blk} {e e':Ent} {w':World} (hid:id < H.length) (he:B id=some e) (hro:ro≤id) (hg:e.g < e'.g) (hsz:w.heap.size≤w'.heap.size)
    (hsame:∀ r,r < w.heap.size→(∀ s t,e.st ≠ .real r s t)→w'.heap[r]?=w.heap[r]?) (hos:w'.os=w.os∧w'.output=w.output∧w'.tape=w.tape)
    (hreal:∀ r s t,e'.st=.real r s t→r < w'.heap.size∧((w.heap.size≤r) ∨ ∃ s0 t0,e.st=.real r s0 t0))
    (hok:∀ Y' B',Lasts (avoid X B) w Y' w'→BLe B B'→BOk Y' w' B' b e'):
    HRel (Tidy.upd B id e') X w' (putU H [(id,b)])∧Evo ro B X w (Tidy.upd B id e') w':=by
 obtain ⟨h1,h2,h3⟩:=h.upd (w':=w') (b:=b) (e:=e') hid hsz (fun r hr hq=>hsame r hr fun s t hst=>hq e s t he hst) (fun e0 h0=>by rw [he] at h0;cases h0;exact ⟨by omega,fun hc=>by omega⟩)
  (fun r s t hst=>⟨(hreal r s t hst).1,(hreal r s t hst).2.imp (fun x=>x) fun ⟨s0,t0,h⟩=>⟨e,s0,t0,he,h⟩⟩) hok
 refine ⟨by simp only [putU];rw [if_pos hid];exact h1,⟨h2,h3,hos,fun j e1 hj hj1=>?_,fun r hx=>hsame r (h.xlt r hx) fun s t h0=>(h.lt id e r s t he h0).2 hx⟩⟩
 have hne:j ≠ id:=by omega
 refine ⟨by rw [z1X _ _ hne,hj1],fun r s t hst=>hsame r (h.lt j e1 r s t hj1 hst).1 fun s0 t0 h0=>hne (h.inj _ _ _ _ _ _ _ _ _ hj1 he hst h0)⟩
theorem zDL (hE:EnvOk E P) (hH:HRel B X w H) {ro nx t at2:Nat} {ty:TypeId} {s x y:AVal} {sv xv:Value} {us:Ups} (hs:VRel (avoid X B) w B s sv) (hx:VRel (avoid X B) w B x xv) (hnx:(∃ b,us=[(nx,b)])→Slot H B nx)
    (ht2:(∃ e2,P.underlying at2=some (.slice e2)) ∨ P.underlying at2=some .string) (h:z0H E ro nx t s x H=some (y,us)):
    ∃ v' w' B',(Builtin.append_ #[t,at2] ty #[sv,xv]).run P w=.ok v' w'∧HRel B' X w' (putU H us)∧Evo ro B X w B' w'∧VRel (avoid X B') w' B' y v':=by
 unfold z0H at h
 split at h
 · rename_i e sz0 by0 z0 ht
   split at h
   · rename_i te nsz new hte hel
     split at h
     · rename_i hcnd
       simp only [Bool.and_eq_true,Bool.or_eq_true,Bool.not_eq_true',decide_eq_true_eq,beq_iff_eq,List.isEmpty_iff] at hcnd
       obtain ⟨⟨⟨hns,hpos⟩,hz⟩,hzt⟩:=hcnd
       obtain ⟨info,d,zz,hT0⟩:=hE.ty t _ ht
       have hd:=z0y hT0.d;subst hd
       obtain ⟨info2,d2,z2,hT⟩:=hE.ty e te hte
       obtain ⟨hall,h1c,hlen,cs,hcs,hcr⟩:=zEU (P:=P) hH hx hel (size:=te.sz) (hns.imp id Eq.symm) (Nat.le_refl _)
       rw [List.take_length] at hcs
       have hall':∀ x ∈ new,x.cellsOf.length=te.sz:=fun x hx=>by
        rcases hns with h0 | h0
        · subst h0;cases hx
        · rw [← h0];exact hall x hx
       split at h
       · -- a slice by value,without room
         rename_i sz es
         split at h
         · rename_i hc
           simp only [Bool.and_eq_true,Bool.or_eq_true,Bool.not_eq_true',decide_eq_true_eq,beq_iff_eq,List.isEmpty_iff] at hc
           obtain ⟨⟨⟨hmax,hne⟩,hsz⟩,hfl⟩:=hc
           cases h
           have hs0:=hs
           simp only [VRel] at hs0
           obtain ⟨ad,cap,rfl,_,hcl,_,hnil,_⟩:=hs0
           have hcap:=hcl trivial
           subst hcap
           by_cases hn:new=[]
           · subst hn
             have hes:es=[]:=by rcases hne with h | h
                                · exact h
                                · simp at h
             subst hes
             obtain ⟨hN,hEv⟩:=hH.new (w':=w) (b:=z1Q E e te.sz ([]++[])) (e:=⟨0,te.sz,.virt⟩) ro (hnx ⟨_,rfl⟩) (Nat.le_refl _) (fun _ _=>rfl) ⟨rfl,rfl,rfl⟩ (fun r s t h=>by cases h)
              (fun Y' B' _ _=>by simp [z1Q,BOk])
             refine ⟨_,w,_,z3Y (cs:=cs) hT0.und hT ht2 (hlen w) (hcr w rfl) (by simp) (fun a _=>?_) (fun _=>rfl),hN,hEv,?_⟩
             · have:cs.toList=[]:=by
                 have:=z0O hcs;simp [flatC] at this;exact List.eq_nil_of_length_eq_zero (by rw [Array.length_toList];omega)
               rw [this];rfl
             · simp only [VRel]
               refine ⟨ad,_,rfl,by simp,by simp,by simp,_,z1H _ _ _,Nat.le_refl _,fun _=>⟨trivial,by simp,fun h0=>?_⟩⟩
               simp only at h0;omega
           · have hroom:¬ es.length+new.length≤es.length:=by
               have:=List.length_pos_iff.2 hn;omega
             obtain ⟨_,h1e,_,cs0,hcs0,hcr0⟩:=zEU (P:=P) hH hs (x:=.lit true sz es) rfl (size:=te.sz) (hsz.imp id Eq.symm) (Nat.le_refl _)
             rw [List.take_length] at hcs0
             obtain ⟨cap,hcap,hrun⟩:=z3y (w:=w) (ty:=ty) (old:=cs0) (new:=cs) hT0.und hT ht2 (hlen w) hroom hmax (fun w' hw=>hcr0 w' hw) (fun w' hw=>hcr w' hw)
             have hall2:∀ x ∈ es++new,x.cellsOf.length=te.sz:=by
              intro x hx
              rcases List.mem_append.1 hx with hx | hx
              · rcases hsz with h0 | h0
                · subst h0;cases hx
                · rw [← h0]
                  simp only [VRel] at hs
                  obtain ⟨_,_,_,_,_,_,_,hs⟩:=hs
                  rcases hs with h1 | ⟨_,_,_,_,_,h2,_⟩
                  · subst h1;cases hx
                  · exact h2 x hx
              · exact hall' x hx
             have hrel:VRelL (avoid X B) w B (flatC (es++new)) (cs0++cs).toList:=by
              rw [z0j,Array.toList_append];exact VRelL_append hcs0 hcs
             obtain ⟨g1,g2⟩:=z4t (cap:=cap) hT hz hzt (by simpa using hcap) hrel hall2
             simp only [List.length_append] at g1 g2
             obtain ⟨hN,hEv⟩:=hH.newCells (fl:=z0r E 8 e) (T:=e) (tot:=cap) ro (hnx ⟨_,rfl⟩) hpos hall2
              (fun x hx=>by rw [z0j] at hx;rcases List.mem_append.1 hx with hx | hx
                            · exact h1e x hx
                            · exact h1c x hx) (by simpa using hcap) g1 (by simpa using g2)
              (fun hf=>by
                rcases hfl with h0 | h0
                · rw [hf] at h0;cases h0
                · rw [z0j,z58,zKD hs,z4K h0];rfl) (w0:=w.drew) rfl ⟨rfl,rfl,rfl⟩
             refine ⟨_,_,_,hrun,hN,hEv,?_⟩
             simp only [VRel]
             exact ⟨_,_,rfl,hcap,by simp,by simp,_,z1H _ _ _,Nat.le_refl _,fun _=>⟨fun _=>by simp,by simp,.inr (by simp)⟩⟩
         · cases h
       · -- a full slice of a block
         rename_i id g i len
         split at h
         · rename_i sz es hel0
           split at h
           · rename_i hc
             simp only [Bool.and_eq_true,Bool.or_eq_true,Bool.not_eq_true',decide_eq_true_eq,beq_iff_eq,List.isEmpty_iff] at hc
             obtain ⟨⟨⟨⟨hmax,hne⟩,hsz⟩,hfl⟩,hel⟩:=hc
             cases h
             have hs0:=hs
             simp only [VRel] at hs0
             obtain ⟨ad,cap,rfl,_,hcl,_,_⟩:=hs0
             have hcap:=hcl trivial
             subst hcap
             subst hel
             have hnn:new ≠ []:=by rintro rfl;simp at hne
             have hroom:¬ es.length+new.length≤es.length:=by
              have:=List.length_pos_iff.2 hnn;omega
             obtain ⟨hall0,h1e,_,cs0,hcs0,hcr0⟩:=zEU (P:=P) hH hs (x:=.ref id g i es.length true) hel0 (size:=te.sz) (hsz.imp (fun x=>x) Eq.symm) (Nat.le_refl _)
             rw [List.take_length] at hcs0
             obtain ⟨cap,hcap,hrun⟩:=z3y (w:=w) (ty:=ty) (old:=cs0) (new:=cs) hT0.und hT ht2 (hlen w) hroom hmax (fun w' hw=>hcr0 w' hw) (fun w' hw=>hcr w' hw)
             have hall2:∀ x ∈ es++new,x.cellsOf.length=te.sz:=by
              intro x hx
              rcases List.mem_append.1 hx with hx | hx
              · rcases hsz with h0 | h0
                · subst h0;cases hx
                · rw [← h0];exact hall0 x hx
              · exact hall' x hx
             have hrel:VRelL (avoid X B) w B (flatC (es++new)) (cs0++cs).toList:=by
              rw [z0j,Array.toList_append];exact VRelL_append hcs0 hcs
             obtain ⟨g1,g2⟩:=z4t (cap:=cap) hT hz hzt (by simpa using hcap) hrel hall2
             simp only [List.length_append] at g1 g2
             obtain ⟨hN,hEv⟩:=hH.newCells (fl:=z0r E 8 e) (T:=e) (tot:=cap) ro (hnx ⟨_,rfl⟩) hpos hall2
              (fun x hx=>by rw [z0j] at hx;rcases List.mem_append.1 hx with hx | hx
                            · exact h1e x hx
                            · exact h1c x hx) (by simpa using hcap) g1 (by simpa using g2)
              (fun hf=>by
                rcases hfl with h0 | h0
                · rw [hf] at h0;cases h0
                · exact z4K (by simpa using h0)) (w0:=w.drew) rfl ⟨rfl,rfl,rfl⟩
             refine ⟨_,_,_,hrun,hN,hEv,?_⟩
             simp only [VRel]
             exact ⟨_,_,rfl,hcap,by simp,by simp,_,z1H _ _ _,Nat.le_refl _,fun _=>⟨fun _=>by simp,by simp,.inr (by simp)⟩⟩
           · cases h
         · cases h
       · -- a slice of a block
         rename_i id g i len cl _
         split at h
         · rename_i g' sz fl bs hb
           split at h
           · rename_i hc
             simp only [Bool.and_eq_true,Bool.or_eq_true,Bool.not_eq_true',decide_eq_true_eq,beq_iff_eq,List.isEmpty_iff] at hc
             obtain ⟨⟨⟨⟨⟨hro,rfl⟩,hsz⟩,hil⟩,hmax⟩,rfl⟩:=hc
             obtain ⟨en,hB,hg,hs1,hh⟩:=hH.cells hb
             have hs0:=hs
             simp only [VRel] at hs0
             obtain ⟨ad,cap,rfl,hle,_,hnil,en',hB',_,hs0⟩:=hs0
             rw [hB] at hB';cases hB'
             have hs0:=hs0 hg.symm
             have hidlt:id < H.length:=hH.dom id en hB
             split at h
             · -- into what is there
               rename_i hfit
               split at h
               · cases h
               · rename_i hfl
                 cases h
                 by_cases hn:new=[]
                 · subst hn
                   have hcs0:cs.toList=[]:=by
                    have:=z0O hcs;simp [flatC] at this;exact List.eq_nil_of_length_eq_zero (by rw [Array.length_toList];omega)
                   refine ⟨_,w,B,z3Y (cs:=cs) hT0.und hT ht2 (hlen w) (hcr w rfl) (by simpa using hle) (fun a _=>by rw [hcs0];rfl) (fun _=>rfl),?_,.refl _ _ _ _,by simpa using hs⟩
                   simp only [putList]
                   rw [zAD hb];exact hH
                 · have hnpos:=List.length_pos_iff.2 hn
                   rcases hh with ⟨_,rfl⟩ | ⟨r,sh,tot,hst,⟨hlt,hpos'⟩,hall3,h1c3,c,T,hcc,hcsz,hr⟩
                   · exfalso;simp at hfit;exact hn hfit.2
                   · rw [hst] at hs0
                     obtain ⟨ho,hi2,had⟩:=hs0
                     have ho:=ho trivial
                     have hsz':sz=te.sz:=by rcases hsz with h0 | h0
                                            · exact h0
                                            · omega
                     have had:ad=some ⟨r,sh+i * en.sz,none⟩:=by rcases had with h0 | h0
                                                                · omega
                                                                · exact h0
                     subst had
                     have hcl:=z0O hcs
                     rw [z0a hall'] at hcl
                     have hm1:(i+len+new.length) * sz≤bs.length * sz:=Nat.mul_le_mul_right _ hfit
                     have hm2:bs.length * sz≤tot * sz:=Nat.mul_le_mul_right _ hlt
                     rw [Nat.add_mul,Nat.add_mul,hsz'] at hm1
                     rw [hsz'] at hm2 hcsz
                     have hone:∀ v ∈ cs.toList,v.oneCell'=true:=hcs.one h1c
                     have hrun:=run_storeCells_at (P:=P) r (sh+i * te.sz+len * te.sz) T cs.toList 0 c w hcc (by rw [← hcl];omega) hone
                     have hlen':(putAt c.toList (sh+(i+len) * te.sz) cs.toList).length=c.size:=by rw [z0p (by rw [← hcl,Nat.add_mul];simp;omega)];simp
                     obtain ⟨B',k1,k2⟩:=hH.write (es':=putList bs (i+len) new) (c':=(putAt c.toList (sh+(i+len) * te.sz) cs.toList).toArray) (ro:=ro) hb hB hst hcc hro
                      (by rw [z1L _ _ _ hfit,z0p hfit]) (by simpa using hlen')
                      (fun x hx=>by
                        rw [z1L _ _ _ hfit] at hx
                        unfold putAt at hx
                        simp only [List.mem_append] at hx
                        rcases hx with (hx | hx) | hx
                        · exact hall3 x (List.mem_of_mem_take hx)
                        · rw [hsz'];exact hall' x hx
                        · exact hall3 x (List.mem_of_mem_drop hx))
                      (fun x hx=>by
                        rw [z1L _ _ _ hfit] at hx
                        unfold putAt at hx
                        rw [z0j,z0j] at hx
                        simp only [List.mem_append] at hx
                        rcases hx with (hx | hx) | hx
                        · rw [z1m hall3] at hx;exact h1c3 x (List.mem_of_mem_take hx)
                        · exact h1c x hx
                        · rw [z1k hall3] at hx;exact h1c3 x (List.mem_of_mem_drop hx))
                      (by
                        have e1:flatC (putList bs (i+len) new)=putAt (flatC bs) ((i+len) * sz) (flatC new):=by
                         rw [z1L _ _ _ hfit]
                         unfold putAt
                         rw [z0j,z0j,z1m hall3,z1k hall3,z0a hall',← hsz',← Nat.add_mul]
                        have e2:(putList bs (i+len) new).length=bs.length:=by rw [z1L _ _ _ hfit,z0p hfit]
                        rw [e1,e2]
                        simp only [hsz']
                        rw [putAt_in (by rw [← hcl,Nat.add_mul];omega) (by simp;omega)]
                        rw [hsz'] at hr
                        refine z5G hr ?_ (by rw [z0a hall3,z0a hall',hsz',Nat.add_mul];omega)
                        cases fl with
                        | false=>exact hcs
                        | true=>exact hcs.noRefL (z4K (by simpa using hfl)))
                     refine ⟨_,_,B',z3Y (cs:=cs) hT0.und hT ht2 (hlen w) (hcr w rfl) (by omega) (fun a ha=>?_) (by simp),?_,k2,?_⟩
                     · cases ha
                       rw [z1y,hs1,hsz',hrun]
                       simp [putAt,Nat.add_mul,Nat.add_assoc]
                     · simp only [putU];rw [if_pos hidlt];exact k1
                     · obtain ⟨en2,hB2,hle2⟩:=k2.ble id en hB
                       have hen:=k1.cells (id:=id) (g:=g') (sz:=sz) (fl:=fl) (es:=putList bs (i+len) new) (by rw [List.getElem?_set_self hidlt])
                       obtain ⟨en3,hB3,hg3,hs3,_⟩:=hen
                       rw [hB2] at hB3;cases hB3
                       have hst2:=(hle2.2 (by rw [hg,hg3])).2
                       simp only [VRel]
                       refine ⟨_,_,rfl,by omega,by simp,by simp,en2,hB2,by omega,fun _=>?_⟩
                       rcases hst2 with h0 | h0
                       · rw [h0,hst];exact ⟨fun _=>ho,hi2,.inr (by rw [hs1,hs3])⟩
                       · rw [h0];trivial
             · rename_i hfit
               split at h
               · -- behind all that is there
                 rename_i hend
                 simp only at h
                 generalize hfl':(if bs.isEmpty=true then z0r E 8 e else fl)=fl' at h
                 split at h
                 · cases h
                 · rename_i hfl
                   cases h
                   have hnpos:0 < new.length:=by omega
                   have hcl:=z0O hcs
                   rw [z0a hall'] at hcl
                   -- what lay there,at the type's size
                   have hold:∀ x ∈ bs,x.cellsOf.length=te.sz:=by
                    rcases hh with ⟨_,h0⟩ | ⟨r,sh,tot,hst,⟨hlt,hpos'⟩,hall3,_⟩
                    · subst h0;simp
                    · rcases hsz with h0 | h0
                      · rw [← h0];exact hall3
                      · rw [h0.2];simp
                   have hone3:∀ x ∈ flatC bs,x.oneC=true:=by
                    rcases hh with ⟨_,h0⟩ | ⟨r,sh,tot,hst,_,_,h1c3,_⟩
                    · subst h0;simp [flatC]
                    · exact h1c3
                   have hrel:∃ vs,VRelL (avoid X B) w (if fl'=true then B0 else B) (flatC (bs.drop i)) vs∧vs.length=len * te.sz ∧
                       (∀ r sh tot,en.st=.real r sh tot→∃ (c:Array Value) (T:TypeId),w.heap[r]?=some (.cells c T (0,0))∧c.size=sh+tot * te.sz∧vs=(c.toList.drop (sh+i * te.sz)).take (len * te.sz)):=by
                    rcases hh with ⟨hst,h0⟩ | ⟨r,sh,tot,hst,⟨hlt,hpos'⟩,hall3,h1c3,c,T,hcc,hcsz,hr⟩
                    · subst h0
                      simp only [List.length_nil] at hend
                      have:len=0:=by omega
                      subst this
                      exact ⟨[],by simp [flatC,z0N],by simp,fun r sh tot h=>by rw [hst] at h;cases h⟩
                    · have hsz':sz=te.sz:=by rcases hsz with h0 | h0
                                             · exact h0
                                             · omega
                      subst hsz'
                      have hm:(i+len) * te.sz≤tot * te.sz:=Nat.mul_le_mul_right _ (by omega)
                      rw [Nat.add_mul] at hm
                      refine ⟨(c.toList.drop (sh+i * te.sz)).take (len * te.sz),?_,by simp;omega,fun r' sh' tot' h=>by rw [hst] at h;cases h;exact ⟨c,T,hcc,hcsz,rfl⟩⟩
                      have:=VRelL_drop hr (i * te.sz)
                      rw [List.drop_take,List.drop_drop,← z1k hall3] at this
                      have hlen2:bs.length * te.sz - i * te.sz=len * te.sz:=by rw [← hend,Nat.add_mul];omega
                      rw [hlen2] at this
                      by_cases hbe:bs=[]
                      · subst hbe;simp at hend;obtain ⟨rfl,rfl⟩:=hend;simp [flatC,z0N]
                      · have:bs.isEmpty=false:=by simpa using hbe
                        rw [this] at hfl'
                        simp only [Bool.false_eq_true,if_false] at hfl'
                        subst hfl';assumption
                   obtain ⟨vs,hv1,hv2,hv3⟩:=hrel
                   have hnewrel:VRelL (avoid X B) w (if fl'=true then B0 else B) (flatC new) cs.toList:=by
                    cases fl' with
                    | false=>exact hcs
                    | true=>exact hcs.noRefL (z4K (by simpa using hfl))
                   have hallN:∀ x ∈ bs.drop i++new,x.cellsOf.length=te.sz:=fun x hx=>by
                    rcases List.mem_append.1 hx with hx | hx
                    · exact hold x (List.mem_of_mem_drop hx)
                    · exact hall' x hx
                   have honeN:∀ x ∈ flatC (bs.drop i++new),x.oneC=true:=fun x hx=>by
                    rw [z0j,z1k hold] at hx
                    rcases List.mem_append.1 hx with hx | hx
                    · exact hone3 x (List.mem_of_mem_drop hx)
                    · exact h1c x hx
                   have hlenN:(bs.drop i++new).length=len+new.length:=by simp;omega
                   have hrelN:VRelL (avoid X B) w (if fl'=true then B0 else B) (flatC (bs.drop i++new)) (vs++cs.toList):=by
                    rw [z0j];exact VRelL_append hv1 hnewrel
                   by_cases hroom:len+new.length≤cap
                   · -- behind them,in place
                     rcases hh with ⟨hst,_⟩ | ⟨r,sh,tot,hst,⟨hlt,hpos'⟩,_⟩
                     · rw [hst] at hs0;omega
                     · obtain ⟨c,T,hcc,hcsz,rfl⟩:=hv3 r sh tot hst
                       rw [hst] at hs0
                       obtain ⟨ho,hi2,had⟩:=hs0
                       have ho:=ho trivial
                       have hsz':en.sz=te.sz:=by rcases hsz with h0 | h0
                                                 · omega
                                                 · omega
                       have had:ad=some ⟨r,sh+i * en.sz,none⟩:=by rcases had with h0 | h0
                                                                  · omega
                                                                  · exact h0
                       subst had
                       have hm1:(i+(len+new.length)) * te.sz≤tot * te.sz:=Nat.mul_le_mul_right _ (by omega)
                       rw [Nat.add_mul,Nat.add_mul] at hm1
                       have hone:∀ v ∈ cs.toList,v.oneCell'=true:=hcs.one h1c
                       have hrun:=run_storeCells_at (P:=P) r (sh+i * te.sz+len * te.sz) T cs.toList 0 c w hcc (by rw [← hcl];omega) hone
                       have hlen':(putAt c.toList (sh+i * te.sz+len * te.sz) cs.toList).length=c.size:=by rw [z0p (by rw [← hcl];simp;omega)];simp
                       have hrow:=setRow_heap w r c (putAt c.toList (sh+i * te.sz+len * te.sz) cs.toList).toArray T (0,0) hcc
                       obtain ⟨k1,k2⟩:=hH.grow (b:=.cells (g'+1) te.sz fl' (bs.drop i++new)) (e':=⟨g'+1,te.sz,.real r (sh+i * te.sz) (tot - i)⟩)
                        (w':=w.setRow r (putAt c.toList (sh+i * te.sz+len * te.sz) cs.toList).toArray) hidlt hB hro (by simp only;omega) (by rw [z52];exact Nat.le_refl _)
                        (fun q _ hq=>z4C _ _ _ fun hqr=>by subst hqr;exact hq _ _ hst) ⟨rfl,rfl,rfl⟩
                        (fun q s t hq=>by cases hq;exact ⟨by rw [z52];exact (hH.lt id en r sh tot hB hst).1,.inr ⟨_,_,hst⟩⟩)
                        (fun Y' B' hl hB'=>by
                          unfold BOk
                          refine ⟨⟨rfl,hpos⟩,rfl,by rw [hlenN];omega,hallN,honeN,_,T,hrow,?_,?_⟩
                          · simp only [List.size_toArray]
                            rw [hlen',hcsz,Nat.sub_mul];omega
                          · have e1:=zIC (l:=c.toList) (a:=cs.toList) (sh:=sh+i * te.sz) (k:=sh+i * te.sz+len * te.sz) (by omega) (by rw [← hcl];simp;omega)
                            rw [← hcl,show sh+i * te.sz+len * te.sz - (sh+i * te.sz)+new.length * te.sz=(len+new.length) * te.sz by rw [Nat.add_mul];omega,
                             show sh+i * te.sz+len * te.sz - (sh+i * te.sz)=len * te.sz by omega] at e1
                            rw [hlenN,e1]
                            cases fl' with
                            | false=>exact hrelN.last hl hB'
                            | true=>exact hrelN.last hl (.refl _))
                       refine ⟨_,_,_,z3Y (cs:=cs) hT0.und hT ht2 (hlen w) (hcr w rfl) hroom (fun a ha=>?_) (by simp),k1,k2,?_⟩
                       · cases ha
                         rw [z1y,hsz',hrun]
                         simp [putAt,Nat.add_assoc]
                       · simp only [VRel]
                         refine ⟨_,_,rfl,by omega,by simp,by simp,_,z1H _ _ _,Nat.le_refl _,fun _=>⟨fun _=>by omega,by omega,.inr (by simp [hsz'])⟩⟩
                   · -- into a new block
                     have hold2:∃ old:Array Value,old.toList=vs∧∀ w':World,w'.heap=w.heap→(Builtin.firstCells te.sz len (.slice ad len cap)).run P w'=.ok old w':=by
                      by_cases hl0:len=0
                      · subst hl0
                        have:vs=[]:=List.eq_nil_of_length_eq_zero (by omega)
                        subst this
                        refine ⟨#[],rfl,fun w' _=>?_⟩
                        cases ad with
                        | none=>rfl
                        | some a=>simp [Builtin.firstCells,loadCells,loadCellsFrom]
                      · rcases hh with ⟨hst,h0⟩ | ⟨r,sh,tot,hst,⟨hlt,hpos'⟩,_⟩
                        · subst h0;simp at hend;omega
                        · obtain ⟨c,T,hcc,hcsz,rfl⟩:=hv3 r sh tot hst
                          rw [hst] at hs0
                          obtain ⟨ho,hi2,had⟩:=hs0
                          have hsz':en.sz=te.sz:=by rcases hsz with h0 | h0
                                                    · omega
                                                    · omega
                          have had:ad=some ⟨r,sh+i * en.sz,none⟩:=by rcases had with h0 | h0
                                                                     · omega
                                                                     · exact h0
                          subst had
                          have hm1:(i+len) * te.sz≤tot * te.sz:=Nat.mul_le_mul_right _ (by omega)
                          rw [Nat.add_mul] at hm1
                          refine ⟨_,rfl,fun w' hw=>?_⟩
                          simp only [Builtin.firstCells,hsz']
                          exact z21 (by rw [hw];exact hcc) (by omega)
                     obtain ⟨old,rfl,holdr⟩:=hold2
                     obtain ⟨ncap,hncap,hrun⟩:=z3y (w:=w) (ty:=ty) (base:=ad) (sCap:=cap) (old:=old) (new:=cs) hT0.und hT ht2 (hlen w) hroom hmax holdr hcr
                     obtain ⟨g1,g2⟩:=z4t (es:=bs.drop i++new) (old:=old) (new:=cs) (cap:=ncap) hT hz hzt (by rw [hlenN];exact hncap)
                      (show VRelL (avoid X B) w B _ _ by rw [Array.toList_append];exact hrelN.flat) hallN
                     rw [hlenN] at g1 g2
                     obtain ⟨k1,k2⟩:=hH.grow (b:=.cells (g'+1) te.sz fl' (bs.drop i++new)) (e':=⟨g'+1,te.sz,.real w.heap.size 0 ncap⟩)
                         (w':=z2V w.drew (.cells (old++cs++Builtin.zeroCells z2.cells (ncap - (len+new.length))) e)) hidlt hB hro (by simp only;omega) (by rw [z2g];exact Nat.le_succ _)
                         (fun q hq _=>z3v _ _ hq) ⟨rfl,rfl,rfl⟩
                         (fun q s t hq=>by cases hq;rw [z2g];exact ⟨Nat.lt_succ_self _,.inl (Nat.le_refl _)⟩)
                         (fun Y' B' hl hB'=>by
                           unfold BOk
                           refine ⟨⟨rfl,hpos⟩,rfl,by rw [hlenN];exact hncap,hallN,honeN,_,e,z4c w.drew _,by omega,?_⟩
                           rw [List.drop_zero,hlenN]
                           have e1:((old++cs++Builtin.zeroCells z2.cells (ncap - (len+new.length))).toList.take ((len+new.length) * te.sz))=old.toList++cs.toList:=by
                            rw [Array.toList_append,Array.toList_append,List.take_append_of_le_length (by simp only [List.length_append,hv2,← hcl,Nat.add_mul];omega)]
                            exact List.take_of_length_le (by simp only [List.length_append,hv2,← hcl,Nat.add_mul];omega)
                           rw [e1]
                           cases fl' with
                           | false=>exact hrelN.last hl hB'
                           | true=>exact hrelN.last hl (.refl _))
                     refine ⟨_,_,_,hrun,k1,k2,?_⟩
                     simp only [VRel]
                     exact ⟨_,_,rfl,hncap,by simp,by simp,_,z1H _ _ _,Nat.le_refl _,fun _=>⟨fun _=>by simp,by simp,.inr (by simp)⟩⟩
               · cases h
           · cases h
         · cases h
       · cases h
     · cases h
   · cases h
 · cases h
end
section
variable {E:Env} {P:Program} {w:World} {X:Nat→Prop} {B:BMap} {H:Heap}
theorem zBL {T:TypeId} {t sz:Nat} {y:AVal} {v:Value} (hH:HRel B X w H) {nx:Nat} (ro:Nat) (hs:Slot H B nx) (hpos:0 < sz) (hv:VRel (avoid X B) w B y v) (hsz:y.cellsOf.length=sz) (ht:y.isTuple=false)
    (hfl:z0r E 8 t=true→noRef y=true):
    HRel (upd B nx ⟨0,sz,.real w.heap.size 0 1⟩) X (z2V w (.cells v.cells T)) (putU H [(nx,z1Q E t sz [y])])∧Evo ro B X w (upd B nx ⟨0,sz,.real w.heap.size 0 1⟩) (z2V w (.cells v.cells T)) ∧
     VRel (avoid X (upd B nx ⟨0,sz,.real w.heap.size 0 1⟩)) (z2V w (.cells v.cells T)) (upd B nx ⟨0,sz,.real w.heap.size 0 1⟩) (.ptr nx 0 0 0) (.pointer (some ⟨w.heap.size,0,none⟩)):=by
 obtain ⟨h1,h2⟩:=hv.cells ht
 have hl:=z0O h1
 have e1:flatC [y]=y.cellsOf:=by simp [flatC]
 obtain ⟨k1,k2⟩:=hH.newCells (fl:=z0r E 8 t) (es:=[y]) (c:=v.cells) (T:=T) (tot:=1) ro hs hpos (by simpa using hsz) (by rw [e1];exact h2) (by simp)
  (by rw [← Array.length_toList,← hl,hsz];omega) (by rw [e1];simp only [List.length_singleton,Nat.one_mul];rw [List.take_of_length_le (by omega)];exact h1)
  (fun hf=>by rw [e1];exact z3b (hfl hf)) (w0:=w) rfl ⟨rfl,rfl,rfl⟩
 refine ⟨k1,k2,?_⟩
 simp only [VRel]
 exact ⟨_,rfl,_,z1H _ _ _,Nat.le_refl _,fun _ r sh tot h=>by cases h;simp⟩
def Slots (H:Heap) (B:BMap) (nx k:Nat):Prop:=nx=H.length ∨ ∀ j,j < k→nx+j < H.length∧H[nx+j]?=some .free∧B (nx+j)=none
theorem Slots.head {nx k:Nat} (h:Slots H B nx (k+1)):Slot H B nx:=by
 rcases h with h | h
 · exact .inr h
 · obtain ⟨h1,h2,h3⟩:=h 0 (by omega);exact .inl ⟨h1,h2,h3⟩
theorem Slots.next {nx k:Nat} {b:Blk} {e:Ent} (h:Slots H B nx (k+1)):Slots (putU H [(nx,b)]) (upd B nx e) (nx+1) k:=by
 rcases h with h | h
 · subst h;left;simp [putU]
 · right
   intro j hj
   obtain ⟨h1,_,_⟩:=h 0 (by omega)
   obtain ⟨h4,h5,h6⟩:=h (j+1) (by omega)
   have e1:nx+1+j=nx+(j+1):=by omega
   simp only [putU]
   rw [if_pos (show nx < H.length from h1),e1]
   exact ⟨by simpa using h4,by rw [List.getElem?_set_ne (by omega)];exact h5,by rw [z1X _ _ (by omega)];exact h6⟩
theorem z6r (H:Heap) (us vs:Ups):putU H (us++vs)=putU (putU H us) vs:=by
 induction us generalizing H with
 | nil=>rfl
 | cons u us ih=>obtain ⟨id,b⟩:=u;simp only [List.cons_append,putU];exact ih _
theorem z5A (ro:Nat):∀ (cs:List AVal) (vs:List Value) (B:BMap) (H:Heap) (nx k:Nat),HRel B X w H→VRelL (avoid X B) w B cs vs→Slots H B nx ((z0I nx cs).2.length+k) →
    ∃ B',HRel B' X w (putU H (z0I nx cs).2)∧Evo ro B X w B' w∧VRelL (avoid X B') w B' (z0I nx cs).1 vs∧Slots (putU H (z0I nx cs).2) B' (nx+(z0I nx cs).2.length) k
 | [],vs,B,H,nx,k,hH,hr,hs=>by
   rw [z08] at hr;subst hr
   simp only [z0I,List.length_nil,Nat.zero_add,putU,Nat.add_zero] at hs ⊢
   exact ⟨B,hH,.refl _ _ _ _,z0N,hs⟩
 | c :: cs,vs,B,H,nx,k,hH,hr,hs=>by
   obtain ⟨v,vs',rfl,h1,h2⟩:=z05.1 hr
   by_cases hc:c=.lit true 0 []
   · subst hc
     simp only [z0I,List.length_cons] at hs ⊢
     have hs':Slots H B nx ((z0I (nx+1) cs).2.length+k+1):=by
      rw [show (z0I (nx+1) cs).2.length+k+1=(z0I (nx+1) cs).2.length+1+k by omega];exact hs
     obtain ⟨k1,k2⟩:=hH.new (w':=w) (b:=.cells 0 0 false []) (e:=⟨0,0,.virt⟩) ro hs'.head (Nat.le_refl _) (fun _ _=>rfl) ⟨rfl,rfl,rfl⟩ (fun r s t h=>by cases h) (fun Y' B' _ _=>by simp [BOk])
     obtain ⟨B',k3,k4,k5,k6⟩:=z5A ro cs vs' _ _ (nx+1) k k1 (h2.last k2.lasts k2.ble) hs'.next
     refine ⟨B',?_,k2.trans k4,z0D.2 ⟨?_,k5⟩,?_⟩
     · simpa only [putU] using k3
     · have hv:VRel (avoid X (Tidy.upd B nx ⟨0,0,.virt⟩)) w (Tidy.upd B nx ⟨0,0,.virt⟩) (.ref nx 0 0 0 false) v:=by
         simp only [VRel] at h1 ⊢
         obtain ⟨ad,cap,rfl,_,_,hz,_,_⟩:=h1
         obtain ⟨rfl,rfl⟩:=hz trivial
         exact ⟨none,0,rfl,by simp,by simp,by simp,_,z1H _ _ _,Nat.le_refl _,fun _=>by simp⟩
       exact hv.last k4.lasts k4.ble
     · rw [show nx+((z0I (nx+1) cs).2.length+1)=nx+1+(z0I (nx+1) cs).2.length by omega];simpa only [putU] using k6
   · have e1:z0I nx (c :: cs)=(c :: (z0I nx cs).1,(z0I nx cs).2):=by
       rw [z0I];intro h;exact hc h
     rw [e1] at hs ⊢
     obtain ⟨B',k3,k4,k5,k6⟩:=z5A ro cs vs' B H nx k hH h2 hs
     exact ⟨B',k3,k4,z0D.2 ⟨h1.last k4.lasts k4.ble,k5⟩,k6⟩
theorem zB6 (nx:Nat):∀ cs:List AVal,(z0I nx cs).1.length=cs.length:=by
 intro cs
 induction cs generalizing nx with
 | nil=>rfl
 | cons c cs ih=>
   by_cases hc:c=.lit true 0 []
   · subst hc;simp [z0I,ih]
   · rw [z0I];simp [ih];intro h;exact hc h
theorem zG4 (nx:Nat):∀ cs:List AVal,(∀ c ∈ cs,c.oneC=true)→∀ c ∈ (z0I nx cs).1,c.oneC=true:=by
 intro cs
 induction cs generalizing nx with
 | nil=>intro _ c hc;simp [z0I] at hc
 | cons c cs ih=>
   intro h x hx
   by_cases hc:c=.lit true 0 []
   · subst hc
     simp only [z0I,List.mem_cons] at hx
     rcases hx with rfl | hx
     · rfl
     · exact ih (nx+1) (fun y hy=>h y (by simp [hy])) x hx
   · rw [z0I] at hx
     · simp only [List.mem_cons] at hx
       rcases hx with rfl | hx
       · exact h _ (by simp)
       · exact ih nx (fun y hy=>h y (by simp [hy])) x hx
     · intro h;exact hc h
theorem z7v {T:TypeId} {t sz:Nat} {y:AVal} {v:Value} (hH:HRel B X w H) {nx:Nat} (ro:Nat) (hpos:0 < sz) (hv:VRel (avoid X B) w B y v) (hsz:y.cellsOf.length=sz) (ht:y.isTuple=false)
    (hfl:z0r E 8 t=false) (agg:Bool) (hagg:agg=true ∨ sz=1) (hs:Slots H B nx ((z0I nx y.cellsOf).2.length+1)):
    ∃ B',HRel B' X (z2V w (.cells v.cells T)) (putU H ((z0I nx y.cellsOf).2++[(nx+(z0I nx y.cellsOf).2.length,z1Q E t sz [if agg then .agg (z0I nx y.cellsOf).1 else (z0I nx y.cellsOf).1.headD .undef])])) ∧
     Evo ro B X w B' (z2V w (.cells v.cells T))∧VRel (avoid X B') (z2V w (.cells v.cells T)) B' (.ptr (nx+(z0I nx y.cellsOf).2.length) 0 0 0) (.pointer (some ⟨w.heap.size,0,none⟩)):=by
 obtain ⟨h1,h2⟩:=hv.cells ht
 have hl:=z0O h1
 obtain ⟨B1,k1,k2,k3,k4⟩:=z5A ro y.cellsOf v.cells.toList B H nx 1 hH h1 hs
 have hlen:=zB6 nx y.cellsOf
 have hone:=zG4 nx y.cellsOf h2
 generalize z0I nx y.cellsOf=p at *
 have e1:(if agg then AVal.agg p.1 else p.1.headD .undef).cellsOf=p.1:=by
  cases agg with
  | true=>rfl
  | false=>
    have:p.1.length=1:=by
     rcases hagg with h | h
     · cases h
     · omega
    match hp:p.1,this with
    | [c],_=>
      have hc:=hone c (by rw [hp];simp)
      cases c <;> simp_all [AVal.cellsOf,AVal.oneC]
 have e2:flatC [if agg then AVal.agg p.1 else p.1.headD .undef]=p.1:=by simp only [flatC,e1,List.append_nil]
 obtain ⟨k5,k6⟩:=k1.newCells (fl:=z0r E 8 t) (es:=[if agg then AVal.agg p.1 else p.1.headD .undef]) (c:=v.cells) (T:=T) (tot:=1) ro k4.head hpos
  (fun x hx=>by simp only [List.mem_singleton] at hx;rw [hx,e1,hlen,hsz]) (by rw [e2];exact hone) (by simp)
  (by rw [← Array.length_toList,← hl,hsz];omega) (by rw [e2];simp only [List.length_singleton,Nat.one_mul];rw [List.take_of_length_le (by omega)];exact k3)
  (fun hf=>by rw [hfl] at hf;cases hf) (w0:=w) rfl ⟨rfl,rfl,rfl⟩
 refine ⟨_,by rw [z6r];exact k5,k2.trans k6,?_⟩
 simp only [VRel]
 exact ⟨_,rfl,_,z1H _ _ _,Nat.le_refl _,fun _ r sh tot h=>by cases h;simp⟩
theorem z9k (off:Nat):∀ (l:List Value) (k:Nat) (c:Array Value),off+k+l.length≤c.size →
    ((l.zipIdx k).foldl (fun cs (x:Value × Nat)=>cs.setIfInBounds (off+x.2) x.1) c).toList=putAt c.toList (off+k) l
 | [],k,c,_=>by simp [putAt]
 | v :: l,k,c,h=>by
   simp only [List.length_cons] at h
   simp only [List.zipIdx_cons,List.foldl_cons]
   rw [z9k off l (k+1) (c.setIfInBounds (off+k) v) (by simp;omega)]
   apply List.ext_getElem?
   intro j
   rw [getElem?_putAt (by simp;omega),getElem?_putAt (by simp;omega)]
   simp only [Array.toList_setIfInBounds,List.getElem?_set,List.length_cons,Array.length_toList]
   by_cases h1:j=off+k
   · subst h1;rw [if_neg (by omega),if_pos rfl,if_pos (by omega),if_pos (by omega)];simp
   · by_cases h2:off+(k+1)≤j∧j < off+(k+1)+l.length
     · rw [if_pos h2,if_pos (by omega),show j - (off+k)=(j - (off+(k+1)))+1 by omega,List.getElem?_cons_succ]
     · rw [if_neg h2,if_neg (fun h=>h1 h.symm),if_neg (by omega)]
theorem z8A {Y:Nat→Prop} {place placeR:Nat→Option (Nat × Nat)} (hp:∀ i x,place i=some x→placeR i=some x):∀ (ps:List (Nat × AVal)) (psv:List (Nat × Value)) (cs cs':List AVal) (c:Array Value),
    PRel Y w B ps psv→VRelL Y w B cs c.toList→(∀ x ∈ cs,x.oneC=true)→fill place cs ps=some cs'→∃ c',Instr.fill placeR c psv=some c'∧VRelL Y w B cs' c'.toList∧(∀ x ∈ cs',x.oneC=true)∧cs'.length=cs.length
 | [],psv,cs,cs',c,hps,hr,h1,h=>by
   cases psv with
   | nil=>simp only [fill,Option.some.injEq] at h;subst h;exact ⟨c,rfl,hr,h1,rfl⟩
   | cons _ _=>simp [PRel] at hps
 | (i,a) :: ps,psv,cs,cs',c,hps,hr,h1,h=>by
   cases psv with
   | nil=>simp [PRel] at hps
   | cons q psv=>
     obtain ⟨j,v⟩:=q
     obtain ⟨rfl,hv,hps⟩:=hps
     simp only [fill] at h
     split at h
     · rename_i off size hpl
       split at h
       · rename_i hc
         simp only [Bool.and_eq_true,decide_eq_true_eq,Bool.not_eq_true'] at hc
         obtain ⟨⟨hs,ht⟩,hfit⟩:=hc
         obtain ⟨hv1,hv2⟩:=hv.cells ht
         have hl:=z0O hv1
         have hl2:=z0O hr
         simp only [Array.length_toList] at hl hl2
         have hput:putList cs off a.cellsOf=putAt cs off a.cellsOf:=z1L _ _ _ (by omega)
         have hz:v.cells.zipIdx.foldl (fun cs (x:Value × Nat)=>cs.setIfInBounds (off+x.2) x.1) c=(putAt c.toList off v.cells.toList).toArray:=by
          apply Array.ext'
          have:=z9k off v.cells.toList 0 c (by simp;omega)
          rw [← Array.foldl_toList]
          simp only [Nat.add_zero] at this
          simpa [Array.toList_zipIdx] using this
         have hrel:VRelL Y w B (putAt cs off a.cellsOf) (putAt c.toList off v.cells.toList):=z5G hr hv1 (by omega)
         rw [hput] at h
         obtain ⟨c',k1,k2,k3,k4⟩:=z8A hp ps psv (putAt cs off a.cellsOf) cs' (putAt c.toList off v.cells.toList).toArray hps hrel (fun x hx=>by
          unfold putAt at hx
          simp only [List.mem_append] at hx
          rcases hx with (hx | hx) | hx
          · exact h1 x (List.mem_of_mem_take hx)
          · exact hv2 x hx
          · exact h1 x (List.mem_of_mem_drop hx)) h
         refine ⟨c',?_,k2,k3,by rw [k4,z0p (by omega)]⟩
         simp only [Instr.fill,hp i _ hpl]
         rw [if_neg (by simp;omega)]
         rw [← k1,← hz]
       · cases h
     · cases h
end
section
variable {E:Env} {P:Program} {w:World} {X:Nat→Prop} {B:BMap} {H:Heap}
theorem zEm (z:Array Value):∀ n:Nat,((Array.range (n * z.size)).map fun i=>z[i % z.size]!).toList=(List.replicate n z.toList).flatten:=by
 intro n
 induction n with
 | zero=>simp
 | succ n ih=>
   rw [List.replicate_succ',List.flatten_append,← ih]
   simp only [Array.toList_map,Array.toList_range,Nat.succ_mul,List.range_add,List.map_append,List.map_map,List.flatten_cons,List.flatten_nil,List.append_nil]
   congr 1
   apply List.ext_getElem
   · simp
   · intro i h1 h2
     simp at h1 h2
     simp [Nat.add_mod,Nat.mod_eq_of_lt h1,getElem!_pos,h1]
theorem z7x {Y:Nat→Prop} {y:AVal} {z:Value} (h:VRel Y w B y z) (ht:y.isTuple=false) (n:Nat):
    VRelL Y w B (flatC (List.replicate n y)) ((Array.range (n * y.cellsOf.length)).map fun i=>z.cells[i % z.cells.size]!).toList:=by
 obtain ⟨h1,_⟩:=h.cells ht
 have hl:=z0O h1
 simp only [Array.length_toList] at hl
 rw [hl,zEm z.cells]
 induction n with
 | zero=>simp [flatC,z0N]
 | succ n ih=>
   simp only [List.replicate_succ,flatC,List.flatten_cons]
   exact VRelL_append h1 ih
theorem z6Q {Y:Nat→Prop} {sz:Nat} {B2:BMap}:∀ (ps:List (Nat × AVal)) (psv:List (Nat × Value)) (es es':List AVal) (c:Array Value),PRel Y w B ps psv→(∀ p ∈ ps,∀ v,VRel Y w B p.2 v→VRel Y w B2 p.2 v) →
    VRelL Y w B2 (flatC es) c.toList→(∀ x ∈ es,x.cellsOf.length=sz)→(∀ x ∈ flatC es,x.oneC=true)→z6E es sz ps=some es' →
    ∃ c',Instr.fill (fun i=>some (i * sz,sz)) c psv=some c'∧VRelL Y w B2 (flatC es') c'.toList∧(∀ x ∈ es',x.cellsOf.length=sz)∧(∀ x ∈ flatC es',x.oneC=true)∧es'.length=es.length
 | [],psv,es,es',c,hps,_,hr,ha,h1,h=>by
   cases psv with
   | nil=>simp only [z6E,Option.some.injEq] at h;subst h;exact ⟨c,rfl,hr,ha,h1,rfl⟩
   | cons _ _=>simp [PRel] at hps
 | (i,a) :: ps,psv,es,es',c,hps,hn,hr,ha,h1,h=>by
   cases psv with
   | nil=>simp [PRel] at hps
   | cons q psv=>
     obtain ⟨j,v⟩:=q
     obtain ⟨rfl,hv,hps⟩:=hps
     simp only [z6E] at h
     split at h
     · rename_i hc
       simp only [Bool.and_eq_true,decide_eq_true_eq,Bool.not_eq_true'] at hc
       obtain ⟨⟨hi,hs⟩,ht⟩:=hc
       have hv0:VRel Y w B2 a v:=hn (i,a) (by simp) v hv
       obtain ⟨hv1,hv2⟩:=hv0.cells ht
       have hl:=z0O hv1
       have hl2:=z0O hr
       simp only [Array.length_toList] at hl hl2
       rw [z0a ha] at hl2
       have hm:(i+1) * sz≤es.length * sz:=Nat.mul_le_mul_right _ hi
       rw [Nat.succ_mul] at hm
       have hset:=z9j ha hi hs
       have hz:v.cells.zipIdx.foldl (fun cs (x:Value × Nat)=>cs.setIfInBounds (i * sz+x.2) x.1) c=(putAt c.toList (i * sz) v.cells.toList).toArray:=by
        apply Array.ext'
        have:=z9k (i * sz) v.cells.toList 0 c (by simp;omega)
        rw [← Array.foldl_toList]
        simp only [Nat.add_zero] at this
        simpa [Array.toList_zipIdx] using this
       obtain ⟨c',k1,k2,k3,k4,k5⟩:=z6Q ps psv (es.set i a) es' (putAt c.toList (i * sz) v.cells.toList).toArray hps (fun p hp=>hn p (by simp [hp]))
        (by rw [hset];exact z5G hr hv1 (by rw [z0a ha];omega))
        (fun x hx=>by
          rcases List.mem_or_eq_of_mem_set hx with hx | hx
          · exact ha x hx
          · rw [hx];exact hs)
        (fun x hx=>by
          rw [hset] at hx
          unfold putAt at hx
          simp only [List.mem_append] at hx
          rcases hx with (hx | hx) | hx
          · exact h1 x (List.mem_of_mem_take hx)
          · exact hv2 x hx
          · exact h1 x (List.mem_of_mem_drop hx)) h
       refine ⟨c',?_,k2,k3,k4,by rw [k5];simp⟩
       simp only [Instr.fill]
       rw [if_neg (by simp;omega)]
       rw [← k1,← hz]
     · cases h
theorem z4E (hE:EnvOk E P) {B2:BMap} {t len:Nat} {ti:TI} (ht:E.ti t=some ti) {ps:List (Nat × AVal)} {psv:Array (Nat × Value)} (hps:PRel (avoid X B) w B ps psv.toList) (hn:∀ p ∈ ps,∀ v,VRel (avoid X B) w B p.2 v→VRel (avoid X B) w B2 p.2 v) {sz:Nat} {es:List AVal} (h:z3d E ti len ps=some (sz,es)):
    ∃ (e:Nat) (c:Array Value),ti.d=.slice e∧es.length=len∧0 < sz∧(∀ x ∈ es,x.cellsOf.length=sz)∧(∀ x ∈ flatC es,x.oneC=true)∧c.size=len * sz ∧
     VRelL (avoid X B) w B2 (flatC es) c.toList∧(Instr.buildSlice t len psv).run P w=.ok (.slice (some ⟨w.heap.size,0,none⟩) len len) (z2V w (.cells c e)):=by
 obtain ⟨info,d,z,hT0⟩:=hE.ty t ti ht
 unfold z3d at h
 split at h
 · rename_i e hd
   have hd':=z0y (hT0.d.trans hd);subst hd'
   split at h
   · rename_i te hte
     obtain ⟨info2,d2,z2,hT⟩:=hE.ty e te hte
     split at h
     · rename_i hc
       simp only [Bool.and_eq_true,decide_eq_true_eq,Bool.not_eq_true'] at hc
       obtain ⟨⟨⟨hm,hpos⟩,hz⟩,hzt⟩:=hc
       simp only [Option.map_eq_some_iff,Prod.mk.injEq] at h
       obtain ⟨es',hes,rfl,rfl⟩:=h
       have hz0:=hT.zero (avoid X B) w B2
       have hzc:=(hz0.cells hzt)
       have hzl:=z0O hzc.1
       simp only [Array.length_toList] at hzl
       have hrep:=z7x hz0 hzt len
       obtain ⟨c,k1,k2,k3,k4,k5⟩:=z6Q ps psv.toList (List.replicate len te.zero) es' _ hps hn hrep
        (fun x hx=>by rw [(List.mem_replicate.1 hx).2];exact hz)
        (fun x hx=>by
          have:∀ n,x ∈ flatC (List.replicate n te.zero)→x ∈ te.zero.cellsOf:=by
           intro n
           induction n with
           | zero=>simp [flatC]
           | succ n ih=>simp only [List.replicate_succ,flatC,List.mem_append];exact fun h=>h.elim (fun h=>h) ih
          exact hzc.2 x (this len hx)) hes
       refine ⟨e,c,hd,by simpa using k5,hpos,k3,k4,?_,k2,?_⟩
       · have:=z0O k2
         rw [z0a k3,k5] at this
         simpa using this.symm
       · have hsz:(Go.sizeOf e).run P w=.ok te.sz w:=by rw [z0t hT.inf,hT.sz]
         have hzv:=z2y (w:=w) hT.inf hT.hz
         have hnot:¬ (16777216 < len * te.sz):=by omega
         rw [hz] at k1
         simp only [Instr.buildSlice,Sem.run_bind,z0G hT0.und,Result.andThen_ok,hsz]
         rw [if_neg (by omega)]
         by_cases hl0:len * te.sz=0
         · have e1:((Array.range (len * te.sz)).map fun i=>z2.cells[i % z2.cells.size]!)=((Array.range (len * te.sz)).map fun i=>(#[]:Array Value)[i % (#[]:Array Value).size]!):=by
             rw [hl0];apply Array.ext' ;simp
           rw [e1] at k1
           rw [if_pos hl0,pure_bind,k1]
           simp [z23]
         · rw [if_neg hl0]
           simp only [Sem.run_bind,hzv,Result.andThen_ok,Sem.run_pure]
           rw [k1]
           simp [z23]
     · cases h
   · cases h
 · cases h
theorem zAp (hE:EnvOk E P) {t len:Nat} {ti:TI} (ht:E.ti t=some ti) {ps:List (Nat × AVal)} {psv:Array (Nat × Value)} (hps:PRel (avoid X B) w B ps psv.toList) {v:AVal} (h:buildSlice E ti len ps=some v):
    ∃ (e sz:Nat) (es:List AVal) (c:Array Value),ti.d=.slice e∧v=.lit true sz es∧es.length=len∧0 < sz∧(∀ x ∈ es,x.cellsOf.length=sz)∧(∀ x ∈ flatC es,x.oneC=true)∧c.size=len * sz ∧
     VRelL (avoid X B) w B0 (flatC es) c.toList∧(Instr.buildSlice t len psv).run P w=.ok (.slice (some ⟨w.heap.size,0,none⟩) len len) (z2V w (.cells c e)):=by
 unfold buildSlice at h
 split at h
 · rename_i hn
   simp only [Option.map_eq_some_iff] at h
   obtain ⟨⟨sz,es⟩,hes,rfl⟩:=h
   obtain ⟨e,c,h1,h2,h3⟩:=z4E (P:=P) (B2:=B0) hE ht hps (fun p hp v hv=>hv.noRef (List.all_eq_true.1 hn p hp)) hes
   exact ⟨e,sz,es,c,h1,rfl,h2,h3⟩
 · cases h
theorem zPp (hH:HRel B X w H) {e sz:Nat} {es:List AVal} {c:Array Value} (hsz:0 < sz) (ha:∀ x ∈ es,x.cellsOf.length=sz) (h1:∀ x ∈ flatC es,x.oneC=true) (hc:c.size=es.length * sz) (hr:VRelL (avoid X B) w B0 (flatC es) c.toList):
    HRel B X (z2V w (.cells c e)) H∧Lasts (avoid X B) w (avoid X B) (z2V w (.cells c e)) ∧
     VRel (avoid X B) (z2V w (.cells c e)) B (.lit true sz es) (.slice (some ⟨w.heap.size,0,none⟩) es.length es.length):=by
 obtain ⟨k1,k2⟩:=hH.world (w':=z2V w (.cells c e)) (by rw [z2g];omega) (fun r hr=>z3v _ _ hr)
 refine ⟨k1,k2,?_⟩
 simp only [VRel]
 refine ⟨_,_,rfl,Nat.le_refl _,fun _=>rfl,fun h=>by omega,by simp,.inr ⟨w.heap.size,0,c.toList,rfl,?_,ha,h1,⟨c,e,(0,0),z4c _ _,by omega,?_⟩,hr.last k2 (.refl _)⟩⟩
 · rintro (h | ⟨id,en,s,t,h2,h3⟩)
   · have:=hH.xlt _ h;omega
   · have:=(hH.lt id en _ s t h2 h3).1;omega
 · rw [List.drop_zero,List.take_of_length_le (by simp;omega)]
theorem zCa (hE:EnvOk E P) {t e sz0 by0:Nat} {z0:AVal} {te:TI} (ht:E.ti t=some ⟨.slice e,sz0,by0,z0⟩) (hte:E.ti e=some te) {n:Int} (hn:0≤n) (hb:n.toNat * (te.bytes+1)≤z04) (hH:HRel B X w H) {nx:Nat} (ro:Nat)
    (hs:Slot H B nx) (hpos:0 < te.sz) (hz:te.zero.cellsOf.length=te.sz) (hzt:te.zero.isTuple=false) (hzu:te.zero.under 0=true):
    ∃ v' w' B',(Instr.makeSlice t (.int .i64 n) (.int .i64 n)).run P w=.ok v' w'∧HRel B' X w' (putU H [(nx,z1Q E e te.sz (List.replicate n.toNat te.zero))])∧Evo ro B X w B' w'∧VRel (avoid X B') w' B' (.ref nx 0 0 n.toNat false) v':=by
 obtain ⟨info,d,zz,hT0⟩:=hE.ty t _ ht
 have hd:=z0y hT0.d;subst hd
 obtain ⟨info2,d2,z2,hT⟩:=hE.ty e te hte
 have hz0:=hT.zero (avoid X B) w B
 have hzc:=(hz0.cells hzt)
 have hzl:=z0O hzc.1
 simp only [Array.length_toList] at hzl
 have hmx:z04=35184372088832:=rfl
 have hb1:n.toNat * te.bytes≤n.toNat * (te.bytes+1):=Nat.mul_le_mul_left _ (by omega)
 have hb2:n.toNat * 1≤n.toNat * (te.bytes+1):=Nat.mul_le_mul_left _ (by omega)
 have hw:IntKind.i64.wrap n=n:=by
  simp [IntKind.wrap,IntKind.bits,IntKind.signed]
  omega
 have hbI:(te.bytes:Int) * n=((n.toNat * te.bytes:Nat):Int):=by
  rw [Int.natCast_mul,Int.toNat_of_nonneg hn,Int.mul_comm]
 have hnot:(decide (n < 0) || decide ((te.bytes:Int) * n > 2 ^ 48))=false:=by
  simp only [Bool.or_eq_false_iff,decide_eq_false_iff_not]
  constructor
  · omega
  · rw [hbI];omega
 have hrep:=z7x hz0 hzt n.toNat
 have hmem:∀ x ∈ List.replicate n.toNat te.zero,x=te.zero:=fun x hx=>(List.mem_replicate.1 hx).2
 have hall:∀ x ∈ List.replicate n.toNat te.zero,x.cellsOf.length=te.sz:=fun x hx=>by rw [hmem x hx];exact hz
 have hone:∀ x ∈ flatC (List.replicate n.toNat te.zero),x.oneC=true:=fun x hx=>by
  have:∀ m,x ∈ flatC (List.replicate m te.zero)→x ∈ te.zero.cellsOf:=by
   intro m
   induction m with
   | zero=>simp [flatC]
   | succ m ih=>simp only [List.replicate_succ,flatC,List.mem_append];exact fun h=>h.elim (fun h=>h) ih
  exact hzc.2 x (this _ hx)
 rw [hz] at hrep
 obtain ⟨k1,k2⟩:=hH.newCells (fl:=z0r E 8 e) (es:=List.replicate n.toNat te.zero) (c:=(Array.range (n.toNat * te.sz)).map fun i=>z2.cells[i % z2.cells.size]!) (T:=e) (tot:=n.toNat) ro hs hpos hall hone (by simp) (by simp)
  (by rw [List.take_of_length_le (by simp)];exact hrep) (fun _=>z59 fun x hx=>by rw [hmem x hx];exact hzu) (w0:=w) rfl ⟨rfl,rfl,rfl⟩
 refine ⟨.slice (some ⟨w.heap.size,0,none⟩) n.toNat n.toNat,_,_,?_,k1,k2,?_⟩
 · have hinf:=z7k (w:=w) hT.inf
   have hsz:(Go.sizeOf e).run P w=.ok te.sz w:=by rw [z0t hT.inf,hT.sz]
   have hzv:=z2y (w:=w) hT.inf hT.hz
   have hcond:((decide (n < 0) || decide ((info2.bytes:Int) * n > 2 ^ 48)) || decide (n < 0) || decide (n > n))=false:=by
    rw [hT.by_,hnot];simp;omega
   simp only [Instr.makeSlice,Sem.run_bind,z0G hT0.und,Result.andThen_ok,asInt,asIntOf,Sem.run_pure,hinf,hw]
   rw [if_neg (by rw [hcond];simp)]
   simp only [Sem.run_bind,Sem.run_pure,Result.andThen_ok,zAO,hsz]
   by_cases h0:n.toNat * te.sz=0
   · have hn0:n.toNat=0:=by rcases Nat.mul_eq_zero.1 h0 with h | h <;> omega
     rw [if_pos h0,pure_bind]
     simp [z23,hn0]
     congr 2
     apply Array.ext';simp
   · rw [if_neg h0]
     simp [hzv,z23]
 · simp only [VRel]
   exact ⟨_,_,rfl,Nat.le_refl _,by simp,by simp,_,z1H _ _ _,Nat.le_refl _,fun _=>⟨fun _=>by simp,by simp,.inr (by simp)⟩⟩
theorem z81 (hE:EnvOk E P) (hH:HRel B X w H) {ro nx t at2:Nat} {ty:TypeId} {s x y:AVal} {sv xv:Value} {us:Ups} (hs:VRel (avoid X B) w B s sv) (hx:VRel (avoid X B) w B x xv) (hnx:(∃ b,us=[(nx,b)])→Slot H B nx)
    {k:IntKind} (ht2:P.underlying at2=some (.int k)) (h:z6V E nx t s x=some (y,us)):
    ∃ v' w' B',(Builtin.append_ #[t,at2] ty #[sv,xv]).run P w=.ok v' w'∧HRel B' X w' (putU H us)∧Evo ro B X w B' w'∧VRel (avoid X B') w' B' y v':=by
 unfold z6V at h
 split at h
 · rename_i sz n
   split at h
   · rename_i e sz0 by0 z0 ht
     split at h
     · rename_i te hte
       split at h
       · rename_i hcnd
         simp only [Bool.and_eq_true,Bool.not_eq_true',decide_eq_true_eq] at hcnd
         obtain ⟨⟨⟨⟨⟨hn,hb⟩,hz⟩,hzt⟩,hzu⟩,hpos⟩:=hcnd
         cases h
         obtain ⟨info,d,zz,hT0⟩:=hE.ty t _ ht
         have hd:=z0y hT0.d;subst hd
         obtain ⟨info2,d2,z2,hT⟩:=hE.ty e te hte
         rw [z0v] at hx;subst hx
         obtain ⟨_,_,_,cs,hcs,hcr⟩:=zEU (P:=P) hH hs (x:=.lit true sz []) rfl (size:=te.sz) (.inl rfl) (Nat.le_refl _)
         have hcs0:cs=#[]:=by
          have:=z0O hcs
          simp [flatC] at this
          exact Array.eq_empty_of_size_eq_zero (by omega)
         subst hcs0
         simp only [VRel] at hs
         obtain ⟨ad,cap0,rfl,_,hcl,_⟩:=hs
         have:=hcl trivial;subst this
         have hz0:=hT.zero (avoid X B) w B
         have hzc:=(hz0.cells hzt)
         have hzl:=z0O hzc.1
         simp only [Array.length_toList] at hzl
         have hmx:z04=35184372088832:=rfl
         have hb1:n.toNat * te.bytes≤n.toNat * (te.bytes+1):=Nat.mul_le_mul_left _ (by omega)
         have hb2:n.toNat * 1≤n.toNat * (te.bytes+1):=Nat.mul_le_mul_left _ (by omega)
         have hw:IntKind.i64.wrap n=n:=by
          simp [IntKind.wrap,IntKind.bits,IntKind.signed]
          omega
         have hbI:n * (te.bytes:Int)=((n.toNat * te.bytes:Nat):Int):=by
          rw [Int.natCast_mul,Int.toNat_of_nonneg (by omega)]
         have hrep:=z7x hz0 hzt n.toNat
         have hmem:∀ x ∈ List.replicate n.toNat te.zero,x=te.zero:=fun x hx=>(List.mem_replicate.1 hx).2
         have hall:∀ x ∈ List.replicate n.toNat te.zero,x.cellsOf.length=te.sz:=fun x hx=>by rw [hmem x hx];exact hz
         have hone:∀ x ∈ flatC (List.replicate n.toNat te.zero),x.oneC=true:=fun x hx=>by
          have:∀ m,x ∈ flatC (List.replicate m te.zero)→x ∈ te.zero.cellsOf:=by
           intro m
           induction m with
           | zero=>simp [flatC]
           | succ m ih=>simp only [List.replicate_succ,flatC,List.mem_append];exact fun h=>h.elim (fun h=>h) ih
          exact hzc.2 x (this _ hx)
         have hzs:z2.cells.size=te.sz:=by omega
         have hrep':VRelL (avoid X B) w B (flatC (List.replicate n.toNat te.zero)) ((#[]:Array Value)++Builtin.zeroCells z2.cells n.toNat).toList:=by
          rw [hzl] at hrep
          simpa [Builtin.zeroCells] using hrep
         have hforced:(Question.appendCap n.toNat 0 e).forced=false:=rfl
         have hcut:n.toNat≤(Question.appendCap n.toNat 0 e).cut (w.tape w.drawn (.appendCap n.toNat 0 e)):=by simp [Question.cut]
         generalize hcap:(Question.appendCap n.toNat 0 e).cut (w.tape w.drawn (.appendCap n.toNat 0 e))=cap at hcut
         obtain ⟨g1,g2⟩:=z4t (cap:=cap) hT hz hzt (es:=List.replicate n.toNat te.zero) (by simpa using hcut) hrep' hall
         simp only [List.length_replicate] at g1 g2
         obtain ⟨hN,hEv⟩:=hH.newCells (fl:=z0r E 8 e) (T:=e) (tot:=cap) ro (hnx ⟨_,rfl⟩) hpos hall hone (by simpa using hcut) g1 (by simpa using g2) (fun _=>z59 fun x hx=>by rw [hmem x hx];exact hzu) (w0:=w.drew) rfl ⟨rfl,rfl,rfl⟩
         refine ⟨.slice (some ⟨w.heap.size,0,none⟩) n.toNat cap,_,_,?_,hN,hEv,?_⟩
         · have hs2:(Go.sizeOf e).run P w=.ok te.sz w:=by rw [z0t hT.inf,hT.sz]
           have hinf:∀ w',(typeInfo e).run P w'=.ok info2 w':=z7k hT.inf
           have hzv:∀ w',(zeroValue e).run P w'=.ok z2 w':=z2y hT.inf hT.hz
           have hby:=hT.by_
           have hnx2:=z5b (need:=n.toNat) (old:=0) (by omega)
           have hb3:Builtin.nextslicecap n.toNat 0 * te.bytes≤3 * n.toNat * te.bytes:=Nat.mul_le_mul_right _ hnx2
           have hb4:3 * n.toNat * te.bytes=3 * (n.toNat * te.bytes):=Nat.mul_assoc _ _ _
           have c1:¬ n < 0:=by omega
           have c2:¬ (281474976710656 < n * (te.bytes:Int)):=by rw [hbI];omega
           have c3:¬ (n.toNat=0):=by omega
           have c4:¬ (281474976710656 < Builtin.nextslicecap n.toNat 0 * te.bytes):=by omega
           have c5:¬ (9223372036854775807 < max n 0):=by omega
           have c6:¬ (te.sz=0):=by omega
           have c7:¬ (n≤0):=by omega
           have hfc:∀ w':World,w'.heap=w.heap→(Builtin.firstCells te.sz 0 (.slice ad 0 0)).run P w'=.ok #[] w':=by simpa using hcr
           have hh:w.drew.heap=w.heap:=rfl
           simp [Builtin.append_,z0G hT0.und,hs2,z0G ht2,asInt,asIntOf,hw,hinf,hby,c1,c2,c3,c4,c5,c6,c7,hforced,hcap,hfc _ hh,hzv,z23,zAO]
           intro h
           exfalso
           rcases Nat.mul_eq_zero.1 h with h | h <;> omega
         · simp only [VRel]
           exact ⟨_,_,rfl,hcut,by simp,by simp,_,z1H _ _ _,Nat.le_refl _,fun _=>⟨fun _=>by simp,by simp,.inr (by simp)⟩⟩
       · cases h
     · cases h
   · cases h
 · cases h
theorem HRel.mapp (hH:HRel B X w H) {id:Nat} {m:List (AVal × AVal)} (hid:H[id]?=some (.map m)):
    ∃ e r sh tot me cl,B id=some e∧e.g=0∧e.st=.real r sh tot∧w.heap[r]?=some (.map me cl)∧MRel (avoid X B) w m me.toList:=by
 rcases hH.blk id _ hid with ⟨h1,_⟩ | ⟨e,h1,h2⟩
 · cases h1
 · unfold BOk at h2
   split at h2
   · rename_i hb _;cases hb
   · rename_i hb _;cases hb
   · rename_i m' r s t hb hst
     cases hb
     obtain ⟨h0,me,cl,h3,h4⟩:=h2
     exact ⟨e,r,s,t,me,cl,h1,h0,hst,h3,h4⟩
   · rename_i hb _;cases hb
   · exact h2.elim
theorem zEn {Y:Nat→Prop} {m:List (AVal × AVal)} {es:List MapEntry} (h:MRel Y w m es):m.length=es.length:=by
 induction m generalizing es with
 | nil=>cases es <;> simp_all [MRel]
 | cons x m ih=>obtain ⟨k,v⟩:=x;cases es with
   | nil=>simp [MRel] at h
   | cons e es=>simp [ih h.2.2]
end
def DRel (Y:Nat→Prop) (w:World) (B:BMap):List (Nat × List AVal)→List Deferred→Prop
 | [],[]=>True
 | (f,as) :: l,d :: m=>(∃ cap,d.target=.fn (.func f) cap∧VRelL Y w B as (d.args++cap).toList)∧DRel Y w B l m
 | _,_=>False
theorem DRel.last {Y Y':Nat→Prop} {w w':World} (hl:Lasts Y w Y' w') {B B':BMap} (hB:BLe B B'):∀ {l:List (Nat × List AVal)} {m:List Deferred},DRel Y w B l m→DRel Y' w' B' l m
 | [],[],_=>trivial
 | (_,_) :: _,_ :: _,⟨⟨cap,h1,h2⟩,h3⟩=>⟨⟨cap,h1,h2.last hl hB⟩,DRel.last hl hB h3⟩
 | [],_ :: _,h=>h.elim
 | _ :: _,[],h=>by obtain ⟨_,_⟩:=‹Nat × List AVal›;exact h.elim
structure Sim (X:Nat→Prop) (B:BMap) (w:World) (s:St) (a:Act):Prop where
 heap:HRel B X w s.H
 tmps:TRel (avoid X B) w B s a
 defs:DRel (avoid X B) w B s.defers a.defers
section
variable {E:Env} {P:Program} {w:World} {X:Nat→Prop} {B:BMap}
def StepOk (P:Program) (X:Nat→Prop) (B:BMap) (w:World) (s:St) (a:Act) (o:Oper):ORes→Prop
 | .val v us=>∃ v' w' B',((execOp a.eval o).run P w=.ok (.value v') w' ∨ ((execOp a.eval o).run P w=.ok .skip w'∧v'=undef))∧HRel B' X w' (putU s.H us)∧Evo s.ro B X w B' w'∧VRel (avoid X B') w' B' v v'
 | .call f args=>∃ vs:Array Value,VRelL (avoid X B) w B args vs.toList∧(execOp a.eval o).run P w=(callFunc f vs).run P w
 | .panic v=>∃ v',(execOp a.eval o).run P w=.halt (.panic v') w∧VRel (avoid X B) w B v v'
 | .defer f args=>∃ d:Deferred,(execOp a.eval o).run P w=.ok (.defer d) w∧∃ cap,d.target=.fn (.func f) cap∧VRelL (avoid X B) w B args (d.args++cap).toList
theorem StepOk.pure {s:St} {a:Act} {o:Oper} (hS:Sim X B w s a) {v:AVal} {v':Value} (h:(execOp a.eval o).run P w=.ok (.value v') w) (hv:VRel (avoid X B) w B v v'):StepOk P X B w s a o (.val v []):=
 ⟨v',w,B,.inl h,hS.heap,.refl _ _ _ _,hv⟩
theorem tuple0 {Y:Nat→Prop}:VRel Y w B (.tuple []) undef:=by simp only [VRel];exact ⟨#[],rfl,z0N⟩
def Free (s:St) (B:BMap) (nx:Nat):ORes→Prop
 | .val _ us=>(∀ u ∈ us,nx≤u.1)→Slots s.H B nx us.length
 | _=>True
theorem zIg (nx m:Nat) (h:m≤nx) (cs:List AVal):∀ u ∈ (z0I nx cs).2,m≤u.1:=by
 induction cs generalizing nx with
 | nil=>simp [z0I]
 | cons c cs ih=>
   have h2:∀ u ∈ (z0I nx cs).2,m≤u.1:=ih nx h
   have h3:=ih (nx+1) (by omega)
   unfold z0I
   split
   · simp
   · rename_i heq
     cases heq
     intro u hu
     rcases List.mem_cons.1 hu with rfl | hu
     · exact h
     · exact h3 u hu
   · rename_i heq
     cases heq
     exact h2
theorem zAj (nx:Nat) (cs:List AVal) {k:Nat} {b:Blk}:∀ u ∈ (z0I nx cs).2++[(nx+k,b)],nx≤u.1:=by
 intro u hu
 rcases List.mem_append.1 hu with hu | hu
 · exact zIg nx nx (Nat.le_refl _) cs u hu
 · rw [List.mem_singleton.1 hu];exact Nat.le_add_right _ _
theorem zIO (hE:EnvOk E P) {s:St} {a:Act} (hS:Sim X B w s a) {nx:Nat} {o:Oper} {res:ORes} {t:Nat} (ho:o.op=.alloc t) (h:stepOp E nx s o=some res) (hf:Free s B nx res):StepOk P X B w s a o res:=by
 simp only [stepOp,ho] at h
 split at h
 · rename_i ti ht
   obtain ⟨info,d,z,hT⟩:=hE.ty t ti ht
   have hz:=hT.zero (avoid X B) w B
   have hrun:(execOp a.eval o).run P w=.ok (.value (.pointer (some ⟨w.heap.size,0,none⟩))) (z2V w (.cells z.cells t)):=by
    simp [execOp,ho,Instr.alloc,z2y hT.inf hT.hz,newVar,z23]
   split at h
   · rename_i hc
     simp only [Bool.and_eq_true,decide_eq_true_eq,Bool.not_eq_true'] at hc
     obtain ⟨⟨⟨hpos,hsz⟩,htup⟩,hun⟩:=hc
     split at h
     · rename_i hc2
       simp only [Bool.and_eq_true,Bool.not_eq_true',Bool.or_eq_true,beq_iff_eq] at hc2
       cases h
       obtain ⟨B',k1,k2,k3⟩:=z7v (T:=t) (t:=t) (E:=E) hS.heap s.ro hpos hz hsz htup hc2.1.2 ti.agg hc2.2 (by simpa using hf (zAj _ _))
       exact ⟨_,_,B',.inl hrun,k1,k2,k3⟩
     · cases h
       obtain ⟨k1,k2,k3⟩:=zBL (T:=t) (t:=t) (E:=E) hS.heap s.ro (hf (by simp)).head hpos hz hsz htup (fun _=>hun)
       exact ⟨_,_,_,.inl hrun,k1,k2,k3⟩
   · cases h
 · cases h
theorem zNH (hE:EnvOk E P) {s:St} {a:Act} (hS:Sim X B w s a) {nx:Nat} {o:Oper} {res:ORes} {t:Nat} {x:Operand} (ho:o.op=.box t x) (h:stepOp E nx s o=some res) (hf:Free s B nx res):StepOk P X B w s a o res:=by
 simp only [stepOp,ho] at h
 split at h
 · rename_i ti y ht hx
   obtain ⟨info,d,z,hT⟩:=hE.ty t ti ht
   have hv:=z0Q hS.tmps hx
   have hrun:(execOp a.eval o).run P w=.ok (.value (.pointer (some ⟨w.heap.size,0,none⟩))) (z2V w (.cells (a.eval x).cells t)):=by
    simp [execOp,ho,Instr.box,newVar,z23]
   split at h
   · rename_i hc
     simp only [Bool.and_eq_true,decide_eq_true_eq,Bool.not_eq_true',Bool.or_eq_true] at hc
     obtain ⟨⟨⟨hpos,hsz⟩,htup⟩,hfl⟩:=hc
     split at h
     · rename_i hc2
       simp only [Bool.and_eq_true,Bool.not_eq_true',Bool.or_eq_true,beq_iff_eq] at hc2
       cases h
       obtain ⟨B',k1,k2,k3⟩:=z7v (T:=t) (t:=t) (E:=E) hS.heap s.ro hpos hv hsz htup hc2.1.2 ti.agg hc2.2 (by simpa using hf (zAj _ _))
       exact ⟨_,_,B',.inl hrun,k1,k2,k3⟩
     · cases h
       obtain ⟨k1,k2,k3⟩:=zBL (T:=t) (t:=t) (E:=E) hS.heap s.ro (hf (by simp)).head hpos hv hsz htup (fun h=>hfl.resolve_left (by rw [h];simp))
       exact ⟨_,_,_,.inl hrun,k1,k2,k3⟩
   · cases h
 · cases h
theorem z7l {α β:Type}:∀ (l:List α) (f:α→Sem β) (g:α→β),(∀ x ∈ l,(f x).run P w=.ok (g x) w)→(l.mapM f).run P w=.ok (l.map g) w
 | [],_,_,_=>rfl
 | x :: l,f,g,h=>by
   simp only [List.mapM_cons,Sem.run_bind,h x (by simp),Result.andThen_ok,z7l l f g (fun y hy=>h y (by simp [hy])),Sem.run_pure,List.map_cons]
theorem zIQ (hE:EnvOk E P) {s:St} {a:Act} (hS:Sim X B w s a) {nx:Nat} {o:Oper} {res:ORes} {t:Nat} {ps:Array (Nat × Operand)} (ho:o.op=.build t ps) (h:stepOp E nx s o=some res):StepOk P X B w s a o res:=by
 simp only [stepOp,ho] at h
 split at h
 · rename_i ti psv ht hx
   simp only [Option.map_eq_some_iff] at h
   obtain ⟨v,hb,rfl⟩:=h
   obtain ⟨info,d,z,hT⟩:=hE.ty t ti ht
   have hz:=hT.zero (avoid X B) w B
   have hp:=zDa hS.tmps hx
   unfold build at hb
   split at hb
   · rename_i fs zc hd hzc
     obtain ⟨fds,rfl,hfs⟩:=z8X (hT.d.trans hd)
     split at hb
     case isFalse=>cases hb
     rename_i hall
     simp only [Option.map_eq_some_iff] at hb
     obtain ⟨cs,hfill,rfl⟩:=hb
     rw [hzc] at hz
     simp only [VRel] at hz
     obtain ⟨zs,rfl,hz1,hz2⟩:=hz
     -- where the fields lie
     have hpl:∃ pls:Array (Nat × Nat),(fds.mapM fun f=>do pure (f.offset,← Go.sizeOf f.type):Sem _).run P w=.ok pls w∧∀ i x,places E fs i=some x→pls[i]?=some x:=by
      refine ⟨fds.map fun f=>(f.offset,((E.ti f.type).map TI.sz).getD 0),?_,?_⟩
      · rw [Array.mapM_eq_mapM_toList]
        have hg:∀ f ∈ fds.toList,(do pure (f.offset,← Go.sizeOf f.type):Sem (Nat × Nat)).run P w=.ok (f.offset,((E.ti f.type).map TI.sz).getD 0) w:=by
         intro f hf
         have hmem:(f.type,f.offset) ∈ fs:=by rw [← hfs];exact List.mem_map.2 ⟨f,hf,rfl⟩
         have:=List.all_eq_true.1 hall _ hmem
         cases hti:E.ti f.type with
         | none=>simp [hti] at this
         | some ti'=>
           obtain ⟨info',d',z',hT'⟩:=hE.ty f.type ti' hti
           simp [z0t hT'.inf,hT'.sz]
        simp only [Sem.run_map]
        rw [z7l fds.toList _ _ hg]
        simp only [Result.andThen_ok]
        congr 1
        apply Array.ext';simp
      · intro i x hx
        unfold places at hx
        rw [← hfs,List.getElem?_map,Array.getElem?_toList] at hx
        cases hfd:fds[i]? with
        | none=>simp [hfd] at hx
        | some fd=>
          simp only [hfd,Option.map_some] at hx
          cases hti:E.ti fd.type with
          | none=>simp [hti] at hx
          | some ti'=>simp [hti] at hx;simp [hfd,hti,hx]
     obtain ⟨pls,hp1,hp2⟩:=hpl
     obtain ⟨c',k1,k2,k3,_⟩:=z8A hp2 _ _ _ _ zs hp hz1 hz2 hfill
     refine .pure hS (v':=.agg c') ?_ (by simp only [VRel];exact ⟨c',rfl,k2,k3⟩)
     have e1:(ps.map fun x=>(x.1,a.eval x.2)).toList=ps.toList.map fun x=>(x.1,a.eval x.2):=by simp
     simp only [execOp,ho,Instr.build,Sem.run_bind,z2y hT.inf hT.hz,Result.andThen_ok,z0G hT.und,Value.cells,hp1]
     rw [e1,k1]
     rfl
   · rename_i n e zc hd hzc
     split at hb
     · rename_i te hte
       obtain ⟨info2,d2,z2,hT2⟩:=hE.ty e te hte
       have hd':=z4k (hT.d.trans hd);subst hd'
       simp only [Option.map_eq_some_iff] at hb
       obtain ⟨cs,hfill,rfl⟩:=hb
       rw [hzc] at hz
       simp only [VRel] at hz
       obtain ⟨zs,rfl,hz1,hz2⟩:=hz
       obtain ⟨c',k1,k2,k3,_⟩:=z8A (fun i x h=>h) _ _ _ _ zs hp hz1 hz2 hfill
       refine .pure hS (v':=.agg c') ?_ (by simp only [VRel];exact ⟨c',rfl,k2,k3⟩)
       have e1:(ps.map fun x=>(x.1,a.eval x.2)).toList=ps.toList.map fun x=>(x.1,a.eval x.2):=by simp
       simp only [execOp,ho,Instr.build,Sem.run_bind,z2y hT.inf hT.hz,Result.andThen_ok,z0G hT.und,Value.cells,z0t hT2.inf,hT2.sz]
       rw [e1,k1]
       rfl
     · cases hb
   · cases hb
 · cases h
theorem zAW (hE:EnvOk E P) {s:St} {a:Act} (hS:Sim X B w s a) {nx:Nat} {o:Oper} {res:ORes} {t len:Nat} {ps:Array (Nat × Operand)} (ho:o.op=.buildSlice t len ps) (h:stepOp E nx s o=some res) (hf:Free s B nx res):StepOk P X B w s a o res:=by
 simp only [stepOp,ho] at h
 split at h
 · rename_i ti psv ht hx
   have hp:=zDa hS.tmps hx
   have hp':PRel (avoid X B) w B psv (ps.map fun x=>(x.1,a.eval x.2)).toList:=by simpa using hp
   have hex:(execOp a.eval o).run P w=((Instr.buildSlice t len (ps.map fun x=>(x.1,a.eval x.2))).run P w).andThen fun v w'=>.ok (.value v) w':=by
    simp [execOp,ho]
   split at h
   · rename_i hv
     split at h
     · rename_i e sz es hd hb
       split at h
       rotate_left
       · cases h
       rename_i hflat
       cases h
       obtain ⟨e',c,h1,h3,h4,h5,h6,h7,h8,h9⟩:=z4E (P:=P) (B2:=B) hE ht hp' (fun _ _ _ h=>h) hb
       have hnr:z0r E 8 e=true→underL 0 (flatC es)=true:=by
        intro hf
        rw [hf] at hflat
        obtain ⟨e2,c2,_,_,_,_,_,_,k8,_⟩:=z4E (P:=P) (B2:=B0) hE ht hp' (fun p hp v hv=>hv.noRef (by simp only [Bool.not_true,Bool.false_or] at hflat;exact List.all_eq_true.1 hflat p hp)) hb
        exact (zG9 _ _).2 _ _ k8
       rw [hd] at h1;cases h1
       obtain ⟨k1,k2⟩:=hS.heap.newCells (fl:=z0r E 8 e) (es:=es) (c:=c) (T:=e) (tot:=es.length) s.ro (hf (by simp)).head h4 h5 h6 (Nat.le_refl _) (by rw [h7,h3])
        (by rw [List.take_of_length_le (by simp;rw [h7,h3];exact Nat.le_refl _)];exact h8) hnr (w0:=w) rfl ⟨rfl,rfl,rfl⟩
       refine ⟨.slice (some ⟨w.heap.size,0,none⟩) es.length es.length,_,_,.inl ?_,k1,k2,?_⟩
       · rw [hex,h9,h3];rfl
       · simp only [VRel]
         exact ⟨_,_,rfl,Nat.le_refl _,by simp,by simp,_,z1H _ _ _,Nat.le_refl _,fun _=>⟨fun _=>by simp,by simp,.inr (by simp)⟩⟩
     · cases h
   · simp only [Option.map_eq_some_iff] at h
     obtain ⟨v,hb,rfl⟩:=h
     obtain ⟨e',sz',es',c,h1,rfl,h3,h4,h5,h6,h7,h8,h9⟩:=zAp (P:=P) hE ht hp' hb
     obtain ⟨k1,k2,k3⟩:=zPp (e:=e') hS.heap h4 h5 h6 (by rw [h7,h3]) h8
     refine ⟨_,_,B,.inl (by rw [hex,h9];rfl),k1,⟨k2,.refl _,⟨rfl,rfl,rfl⟩,fun id e _ he=>⟨he,fun r s' t hst=>z3v _ _ (hS.heap.lt id e r s' t he hst).1⟩,fun r hx=>z3v _ _ (hS.heap.xlt r hx)⟩,?_⟩
     rw [h3] at k3;exact k3
 · cases h
theorem zL3 (hE:EnvOk E P) {s:St} {a:Act} (hS:Sim X B w s a) {nx:Nat} {o:Oper} {res:ORes} {t:Nat} {x:Operand} (ho:o.op=.load t x) (h:stepOp E nx s o=some res):StepOk P X B w s a o res:=by
 simp only [stepOp,ho] at h
 split at h
 · rename_i ax hx
   simp only [Option.map_eq_some_iff] at h
   obtain ⟨v,hl,rfl⟩:=h
   obtain ⟨v',h1,h2⟩:=zBq (P:=P) hE hS.heap (z0Q hS.tmps hx) hl
   exact .pure hS (by simp [execOp,ho,h1]) h2
 · cases h
theorem zIW (hE:EnvOk E P) {s:St} {a:Act} (hS:Sim X B w s a) {nx:Nat} {o:Oper} {res:ORes} {t:Nat} {x y:Operand} (ho:o.op=.store t x y) (h:stepOp E nx s o=some res):StepOk P X B w s a o res:=by
 simp only [stepOp,ho] at h
 split at h
 · rename_i ax ay hx hy
   simp only [Option.map_eq_some_iff] at h
   obtain ⟨us,hs,rfl⟩:=h
   obtain ⟨w',B',h1,h2,h3⟩:=zFh (P:=P) hE hS.heap (z0Q hS.tmps hx) (z0Q hS.tmps hy) hs
   exact ⟨undef,w',B',.inr ⟨by simp [execOp,ho,h1],rfl⟩,h2,h3,tuple0⟩
 · cases h
theorem zD3 {s:St} {a:Act} (hS:Sim X B w s a) {nx:Nat} {o:Oper} {res:ORes} {x:Operand} (ho:o.op=.nilCheck x) (h:stepOp E nx s o=some res):StepOk P X B w s a o res:=by
 simp only [stepOp,ho] at h
 split at h
 · rename_i id g i f hx
   simp only [Option.map_some,Option.some.injEq] at h;subst h
   have hr:=z0Q hS.tmps hx
   refine .pure hS ?_ hr
   simp only [VRel] at hr
   obtain ⟨ad,hv,_⟩:=hr
   simp [execOp,ho,hv]
 · rename_i e f hx
   simp only [Option.map_some,Option.some.injEq] at h;subst h
   have hr:=z0Q hS.tmps hx
   refine .pure hS ?_ hr
   simp only [VRel] at hr
   obtain ⟨r,o',vs,hv,_⟩:=hr
   simp [execOp,ho,hv]
 · cases h
end
section
variable {E:Env} {P:Program} {w:World} {X:Nat→Prop} {B:BMap}
theorem zL6 {s:St} {a:Act} (hS:Sim X B w s a) {nx:Nat} {o:Oper} {res:ORes} {op:UnOp} {t:Nat} {x:Operand} (ho:o.op=.unOp op t x) (h:stepOp E nx s o=some res):StepOk P X B w s a o res:=by
 simp only [stepOp,ho] at h
 split at h
 · rename_i ax hx
   simp only [Option.map_eq_some_iff] at h
   obtain ⟨v,hu,rfl⟩:=h
   obtain ⟨v',h1,h2⟩:=zNb (P:=P) (z0Q hS.tmps hx) hu
   exact .pure hS (by simp [execOp,ho,h1]) h2
 · cases h
theorem z7q (hE:EnvOk E P) {s:St} {a:Act} (hS:Sim X B w s a) {nx:Nat} {o:Oper} {res:ORes} {t:Nat} {x:Operand} (ho:o.op=.makeInterface t x) (h:stepOp E nx s o=some res):StepOk P X B w s a o res:=by
 simp only [stepOp,ho] at h
 split at h
 · rename_i ti y ht hx
   obtain ⟨info,d,z,hT⟩:=hE.ty t ti ht
   split at h
   · cases h
   · rename_i hd
     simp only [Option.map_some,Option.some.injEq] at h;subst h
     refine .pure hS (v':=.iface t (a.eval x)) ?_ (by simp only [VRel];exact ⟨_,rfl,z0Q hS.tmps hx⟩)
     have hni:=z57 (d:=d) (by rw [hT.d];exact hd)
     simp only [execOp,ho,Instr.makeInterface,Sem.run_bind,z0G hT.und,Result.andThen_ok]
     cases d <;> first | rfl | exact absurd rfl (hni _)
 · cases h
theorem zD2 {s:St} {a:Act} (hS:Sim X B w s a) {nx:Nat} {o:Oper} {res:ORes} {f:Nat} {x y:Array Operand} (ho:o.op=.makeFunc (.func f) x y) (h:stepOp E nx s o=some res):StepOk P X B w s a o res:=by
 simp only [stepOp,ho] at h
 split at h
 · rename_i u v hu hv
   simp only [Option.map_some,Option.some.injEq] at h;subst h
   refine .pure hS (v':=.func (.func f) (x.map a.eval) (y.map a.eval)) (by simp [execOp,ho,Instr.makeFunc]) ?_
   simp only [VRel]
   exact ⟨_,_,rfl,by simpa using z7B hS.tmps hu,by simpa using z7B hS.tmps hv⟩
 · cases h
theorem zEY {s:St} {a:Act} (hS:Sim X B w s a) {nx:Nat} {o:Oper} {res:ORes} {t:Nat} (ho:o.op=.makeMap t none) (h:stepOp E nx s o=some res) (hf:Free s B nx res):StepOk P X B w s a o res:=by
 simp only [stepOp,ho] at h
 cases h
 obtain ⟨k1,k2⟩:=hS.heap.new (w':=z2V w (.map #[] 0)) (b:=.map []) (e:=⟨0,0,.real w.heap.size 0 0⟩) s.ro (hf (by simp)).head (by rw [z2g];omega) (fun r hr=>z3v _ _ hr) ⟨rfl,rfl,rfl⟩
  (fun r s t h=>by cases h;rw [z2g];omega) (fun Y' B' _ _=>by simp only [BOk];exact ⟨trivial,#[],0,z4c _ _,trivial⟩)
 refine ⟨.map (some w.heap.size),_,_,.inl ?_,k1,k2,?_⟩
 · simp [execOp,ho,Instr.makeMap,newObj,Sem.run,z2V]
 · simp only [VRel]
   exact ⟨_,rfl,_,z1H _ _ _,fun _ r sh tot h=>by cases h;rfl⟩
theorem zB3 (hE:EnvOk E P) {s:St} {a:Act} (hS:Sim X B w s a) {nx:Nat} {o:Oper} {res:ORes} {t:Nat} {l c:Operand} (ho:o.op=.makeSlice t l c) (h:stepOp E nx s o=some res) (hf:Free s B nx res):StepOk P X B w s a o res:=by
 simp only [stepOp,ho] at h
 split at h
 · rename_i e sz by0 z0 ht
   split at h
   · rename_i te n m hte hl hc
     split at h
     · rename_i hcc
       simp only [Bool.and_eq_true,decide_eq_true_eq,Bool.not_eq_true'] at hcc
       obtain ⟨⟨⟨⟨⟨⟨rfl,h0⟩,hb⟩,hz⟩,hzt⟩,hzu⟩,hpos⟩:=hcc
       cases h
       have h1:=z0Q hS.tmps hl
       have h2:=z0Q hS.tmps hc
       rw [z0v] at h1 h2
       obtain ⟨v',w',B',k1,k2,k3,k4⟩:=zCa (P:=P) hE ht hte h0 hb hS.heap s.ro (hf (by simp)).head hpos hz hzt hzu
       exact ⟨v',w',B',.inl (by simp [execOp,ho,h1,h2,k1]),k2,k3,k4⟩
     · cases h
   · cases h
 · cases h
theorem zIV (hE:EnvOk E P) {s:St} {a:Act} (hS:Sim X B w s a) {nx:Nat} {o:Oper} {res:ORes} {t:Nat} {x:Operand} {lo hi mx:Option Operand} (ho:o.op=.slice t x lo hi mx) (h:stepOp E nx s o=some res):StepOk P X B w s a o res:=by
 simp only [stepOp,ho] at h
 split at h
 · rename_i xv l hh m hx hl hhi hm
   simp only [Option.map_eq_some_iff] at h
   obtain ⟨v,hs,rfl⟩:=h
   obtain ⟨v',h1,h2⟩:=zFg (P:=P) hE (z0Q hS.tmps hx) (z9g hS.tmps hl) (z9g hS.tmps hhi) (z9g hS.tmps hm) hS.heap hs
   exact .pure hS (by simp [execOp,ho,h1]) h2
 · cases h
theorem zAz (hE:EnvOk E P) {s:St} {a:Act} (hS:Sim X B w s a) {nx:Nat} {o:Oper} {res:ORes} {t f:Nat} {x:Operand} (ho:o.op=.fieldAddr t x f) (h:stepOp E nx s o=some res):StepOk P X B w s a o res:=by
 simp only [stepOp,ho] at h
 split at h
 · rename_i fs sz by0 z0 ax ht hx
   split at h
   · rename_i ft off hf
     split at h
     · rename_i fi hfi
       split at h
       · cases h
       · rename_i hz
         have hr:=z0Q hS.tmps hx
         split at h
         · simp only [Option.map_some,Option.some.injEq] at h;subst h
           obtain ⟨bv,h1,h2⟩:=z7D (P:=P) hE ht hf hfi hz hr (.inl ⟨_,_,_,_,rfl,rfl⟩)
           exact .pure hS (by simp [execOp,ho,h1]) h2
         · simp only [Option.map_some,Option.some.injEq] at h;subst h
           obtain ⟨bv,h1,h2⟩:=z7D (P:=P) hE ht hf hfi hz hr (.inr ⟨_,_,rfl,rfl⟩)
           exact .pure hS (by simp [execOp,ho,h1]) h2
         · cases h
     · cases h
   · cases h
 · cases h
theorem zIS (hE:EnvOk E P) {s:St} {a:Act} (hS:Sim X B w s a) {nx:Nat} {o:Oper} {res:ORes} {t f:Nat} {x:Operand} (ho:o.op=.field t x f) (h:stepOp E nx s o=some res):StepOk P X B w s a o res:=by
 simp only [stepOp,ho] at h
 split at h
 · rename_i fs sz by0 z0 cs ht hx
   split at h
   · rename_i ft off hf
     split at h
     · rename_i fi hfi
       simp only [Option.map_eq_some_iff] at h
       obtain ⟨v,hp,rfl⟩:=h
       have hr:=z0Q hS.tmps hx
       simp only [VRel] at hr
       obtain ⟨vs,hv,h1,h2⟩:=hr
       obtain ⟨v',h3,h4⟩:=zGx (P:=P) hE hfi h1 h2 hp
       exact .pure hS (by simp [execOp,ho,hv,zJw hE ht hf,h3]) h4
     · cases h
   · cases h
 · cases h
theorem zEX {s:St} {a:Act} (hS:Sim X B w s a) {nx:Nat} {o:Oper} {res:ORes} {x:Operand} {i:Nat} (ho:o.op=.extract x i) (h:stepOp E nx s o=some res):StepOk P X B w s a o res:=by
 simp only [stepOp,ho] at h
 split at h
 · rename_i vs hx
   simp only [Option.map_eq_some_iff] at h
   obtain ⟨v,hp,rfl⟩:=h
   have hr:=z0Q hS.tmps hx
   simp only [VRel] at hr
   obtain ⟨us,hv,h1⟩:=hr
   obtain ⟨v',h2,h3⟩:=z3F h1 hp
   rw [Array.getElem?_toList] at h2
   exact .pure hS (by simp [execOp,ho,hv,Instr.extract,h2]) h3
 · cases h
theorem zIU {s:St} {a:Act} (hS:Sim X B w s a) {nx:Nat} {o:Oper} {res:ORes} {x:Operand} (ho:o.op=.panic x) (h:stepOp E nx s o=some res):StepOk P X B w s a o res:=by
 simp only [stepOp,ho] at h
 split at h
 · rename_i t y hx
   cases h
   have hr:=z0Q hS.tmps hx
   refine ⟨a.eval x,?_,hr⟩
   simp only [VRel] at hr
   obtain ⟨u,hv,_⟩:=hr
   simp [execOp,ho,hv,Instr.panic,goPanic]
 · cases h
theorem zAX (hE:EnvOk E P) {s:St} {a:Act} (hS:Sim X B w s a) {nx:Nat} {o:Oper} {res:ORes} {x:Operand} {xt t:Nat} {ok:Bool} (ho:o.op=.typeAssert x xt t ok) (h:stepOp E nx s o=some res):StepOk P X B w s a o res:=by
 simp only [stepOp,ho] at h
 split at h
 · rename_i ti u y ht hx
   obtain ⟨info,d,z,hT⟩:=hE.ty t ti ht
   have hr:=z0Q hS.tmps hx
   simp only [VRel] at hr
   obtain ⟨yv,hv,hy⟩:=hr
   split at h
   · cases h
   · rename_i hd
     have hni:=z57 (d:=d) (by rw [hT.d];exact hd)
     split at h
     · rename_i hut
       simp only [Option.map_some,Option.some.injEq] at h;subst h
       subst hut
       refine .pure hS (v':=if ok then .tuple #[yv,.bool true] else yv) ?_ ?_
       · simp only [execOp,ho,hv,Instr.typeAssert,Sem.run_bind,z0G hT.und,Result.andThen_ok]
         cases d <;> first | (exact absurd rfl (hni _)) | (cases ok <;> simp)
       · cases ok with
         | true=>simp only [if_true,VRel];exact ⟨_,rfl,z0D.2 ⟨hy,z0D.2 ⟨by simp [VRel],z0N⟩⟩⟩
         | false=>simpa using hy
     · rename_i hut
       split at h
       · rename_i hok
         simp only [Option.map_some,Option.some.injEq] at h;subst h
         refine .pure hS (v':=.tuple #[z,.bool false]) ?_ ?_
         · simp only [execOp,ho,hv,Instr.typeAssert,Sem.run_bind,z0G hT.und,Result.andThen_ok]
           cases d <;> first | (exact absurd rfl (hni _)) | simp [hut,hok,z2y hT.inf hT.hz]
         · simp only [VRel];exact ⟨_,rfl,z0D.2 ⟨hT.zero _ _ _,z0D.2 ⟨by simp [VRel],z0N⟩⟩⟩
       · cases h
 · rename_i ti ht hx
   obtain ⟨info,d,z,hT⟩:=hE.ty t ti ht
   have hr:=z0Q hS.tmps hx
   simp only [VRel] at hr
   split at h
   · cases h
   · rename_i hd
     have hni:=z57 (d:=d) (by rw [hT.d];exact hd)
     split at h
     · rename_i hok
       simp only [Option.map_some,Option.some.injEq] at h;subst h
       refine .pure hS (v':=.tuple #[z,.bool false]) ?_ ?_
       · simp only [execOp,ho,hr,Instr.typeAssert,Sem.run_bind,z0G hT.und,Result.andThen_ok]
         cases d <;> first | (exact absurd rfl (hni _)) | simp [hok,z2y hT.inf hT.hz]
       · simp only [VRel];exact ⟨_,rfl,z0D.2 ⟨hT.zero _ _ _,z0D.2 ⟨by simp [VRel],z0N⟩⟩⟩
     · cases h
 · cases h
end
section
variable {E:Env} {P:Program} {w:World} {X:Nat→Prop} {B:BMap}
theorem z4u {op:BinOp} {t:Nat} {x y:Operand} {a b:Value} (h1:¬ (a=.nilIface∧b=.nilIface∧∀ c,y ≠ .const c)) (h2:(∀ u,a ≠ .agg u) ∨ (∀ u,b ≠ .agg u) ∨ P.eqGuardType P.depth t=false):
    (eqGuard op t x y a b).run P w=.ok () w:=by
 unfold eqGuard
 cases op <;> simp only [Bool.not_true,Bool.not_false,Bool.false_eq_true,if_false,if_true,Sem.run_pure] <;>
 · cases a <;> cases b <;> first
     | rfl
     | (have hy:∃ c,y=.const c:=by
         cases y <;> first | exact ⟨_,rfl⟩ | (exfalso;exact h1 ⟨rfl,rfl,fun c h=>by cases h⟩)
        obtain ⟨c,rfl⟩:=hy
        simp)
     | (have hg:P.eqGuardType P.depth t=false:=by
         rcases h2 with h | h | h
         · exact absurd rfl (h _)
         · exact absurd rfl (h _)
         · exact h
        simp [program,Sem.run,hg])
theorem z7A {t:Nat} {ti:TI} {y:AVal} {b:Bool} (h:eqOp E t ti .niliface y=some b):ti.d=.iface:=by
 unfold eqOp at h;split at h <;> simp_all
theorem zBR {t:Nat} {ti:TI} {y:AVal} {b:Bool} (h:eqOp E t ti .undef y=some b):False:=by
 unfold eqOp at h;split at h <;> simp_all
section
variable {t:Nat} {d:TypeDesc} (n:Nat) (w:World)
theorem zJk (hd:d=.bool) (a b:Bool) (hu:P.underlying t=some d):(Op.equalIn (n+1) t (.bool a) (.bool b)).run P w=.ok (a == b) w:=by
 subst hd;simp only [Op.equalIn,Sem.run_bind,z0G hu,Result.andThen_ok,Sem.run_pure]
theorem zGW {e:Nat} (hd:d=.pointer e) (b:Option Addr) (hu:P.underlying t=some d):(Op.equalIn (n+1) t (.pointer none) (.pointer b)).run P w=.ok b.isNone w:=by
 subst hd;simp only [Op.equalIn,Sem.run_bind,z0G hu,Result.andThen_ok,Sem.run_pure]
theorem zJl {e:Nat} (hd:d=.pointer e) (b:Addr) (hu:P.underlying t=some d):(Op.equalIn (n+1) t (.pointer (some b)) (.pointer none)).run P w=.ok false w:=by
 subst hd;simp only [Op.equalIn,Sem.run_bind,z0G hu,Result.andThen_ok,Sem.run_pure]
theorem zHl {m:Array (String × TypeId)} (hd:d=.interface m) (hu:P.underlying t=some d):(Op.equalIn (n+1) t .nilIface .nilIface).run P w=.ok true w:=by
 subst hd;simp only [Op.equalIn,Sem.run_bind,z0G hu,Result.andThen_ok,Sem.run_pure]
theorem zFA {m:Array (String × TypeId)} (hd:d=.interface m) (u:TypeId) (v:Value) (hu:P.underlying t=some d):(Op.equalIn (n+1) t (.iface u v) .nilIface).run P w=.ok false w:=by
 subst hd;simp only [Op.equalIn,Sem.run_bind,z0G hu,Result.andThen_ok,Sem.run_pure]
theorem zHm {e:Nat} (hd:d=.slice e) (l c l' c':Nat) (hu:P.underlying t=some d):(Op.equalIn (n+1) t (.slice none l c) (.slice none l' c')).run P w=.ok true w:=by
 subst hd;simp only [Op.equalIn,Sem.run_bind,z0G hu,Result.andThen_ok,Sem.run_pure];rfl
theorem z9e {e:Nat} (hd:d=.slice e) (ad:Addr) (l c l' c':Nat) (hu:P.underlying t=some d):(Op.equalIn (n+1) t (.slice (some ad) l c) (.slice none l' c')).run P w=.ok false w:=by
 subst hd;simp only [Op.equalIn,Sem.run_bind,z0G hu,Result.andThen_ok,Sem.run_pure]
end
theorem eq_both {t:Nat} {xv yv:Value} {b:Bool} (h:(Op.equal t xv yv).run P w=.ok b w) (h1:Go.binOp .eql t xv yv=(do pure (.bool (← Op.equal t xv yv)))) (h2:Go.binOp .neq t xv yv=(do pure (.bool (!(← Op.equal t xv yv))))):
    (Go.binOp .eql t xv yv).run P w=.ok (.bool b) w∧(Go.binOp .neq t xv yv).run P w=.ok (.bool !b) w:=by
 rw [h1,h2];simp only [Sem.run_bind,h,Result.andThen_ok,Sem.run_pure];exact ⟨trivial,trivial⟩
theorem z6z {Y:Nat→Prop} {x:AVal} (h:VRel Y w B x .nilIface):x=.niliface ∨ x=.undef:=by
 cases x <;> simp only [VRel] at h <;> first
  | exact .inl rfl
  | exact .inr rfl
  | (cases h;done)
  | (obtain ⟨_,h,_⟩:=h;cases h;done)
  | (obtain ⟨_,_,h,_⟩:=h;cases h;done)
  | (obtain ⟨_,_,_,h,_⟩:=h;cases h;done)
theorem zGX (hE:EnvOk E P) {t:Nat} {ti:TI} (ht:E.ti t=some ti) {x y:AVal} {xv yv:Value} {Y:Nat→Prop} (hx:VRel Y w B x xv) (hy:VRel Y w B y yv) {b:Bool} (h:eqOp E t ti x y=some b):
    (Go.binOp .eql t xv yv).run P w=.ok (.bool b) w∧(Go.binOp .neq t xv yv).run P w=.ok (.bool !b) w∧((∀ u,xv ≠ .agg u) ∨ (∀ u,yv ≠ .agg u) ∨ P.eqGuardType P.depth t=false):=by
 obtain ⟨info,d,z,hT⟩:=hE.ty t ti ht
 have hd:=hT.d
 unfold eqOp at h
 split at h
 · rename_i hd2
   rw [z1F] at hx hy
   subst hx;subst hy
   cases h
   rw [hd2] at hd
   cases d <;> simp [tyd] at hd
   obtain ⟨q1,q2⟩:=eq_both (P:=P) (w:=w) (t:=t) (zJk 9999 w rfl _ _ hT.und) rfl rfl
   exact ⟨q1,q2,.inl (by intro u h;cases h)⟩
 · rename_i e hd2
   simp only [VRel] at hx hy
   subst hx;subst hy
   cases h
   rw [hd2] at hd
   have:=zG1 hd;subst this
   obtain ⟨q1,q2⟩:=eq_both (P:=P) (w:=w) (t:=t) (zGW 9999 w rfl none hT.und) rfl rfl
   exact ⟨q1,q2,.inl (by intro u h;cases h)⟩
 · rename_i e _ _ _ _ hd2
   simp only [VRel] at hx hy
   obtain ⟨ad,rfl,_⟩:=hy
   subst hx
   cases h
   rw [hd2] at hd
   have:=zG1 hd;subst this
   obtain ⟨q1,q2⟩:=eq_both (P:=P) (w:=w) (t:=t) (zGW 9999 w rfl (some _) hT.und) rfl rfl
   exact ⟨q1,q2,.inl (by intro u h;cases h)⟩
 · rename_i e _ _ _ _ hd2
   simp only [VRel] at hx hy
   obtain ⟨ad,rfl,_⟩:=hx
   subst hy
   cases h
   rw [hd2] at hd
   have:=zG1 hd;subst this
   obtain ⟨q1,q2⟩:=eq_both (P:=P) (w:=w) (t:=t) (zJl 9999 w rfl _ hT.und) rfl rfl
   exact ⟨q1,q2,.inl (by intro u h;cases h)⟩
 · rename_i hd2
   simp only [VRel] at hx hy
   subst hx;subst hy
   cases h
   rw [hd2] at hd
   obtain ⟨m,rfl⟩:=zEg hd
   obtain ⟨q1,q2⟩:=eq_both (P:=P) (w:=w) (t:=t) (zHl 9999 w rfl hT.und) rfl rfl
   exact ⟨q1,q2,.inl (by intro u h;cases h)⟩
 · rename_i u v hd2
   simp only [VRel] at hx hy
   obtain ⟨y',rfl,_⟩:=hx
   subst hy
   cases h
   rw [hd2] at hd
   obtain ⟨m,rfl⟩:=zEg hd
   obtain ⟨q1,q2⟩:=eq_both (P:=P) (w:=w) (t:=t) (zFA 9999 w rfl _ _ hT.und) rfl rfl
   exact ⟨q1,q2,.inl (by intro u h;cases h)⟩
 · rename_i e hd2
   simp only [VRel] at hx hy
   obtain ⟨ad,cap,rfl,_,_,hz,_,_⟩:=hx
   obtain ⟨ad',cap',rfl,_,_,hz',_,_⟩:=hy
   obtain ⟨rfl,rfl⟩:=hz trivial
   obtain ⟨rfl,rfl⟩:=hz' trivial
   cases h
   rw [hd2] at hd
   have:=z0y hd;subst this
   obtain ⟨q1,q2⟩:=eq_both (P:=P) (w:=w) (t:=t) (zHm 9999 w rfl _ _ _ _ hT.und) rfl rfl
   exact ⟨q1,q2,.inl (by intro u h;cases h)⟩
 · rename_i e cl sz c cs hd2
   simp only [VRel] at hx hy
   obtain ⟨ad,cap,rfl,_,_,_,_,hx⟩:=hx
   obtain ⟨ad',cap',rfl,_,_,hz',_,_⟩:=hy
   obtain ⟨rfl,rfl⟩:=hz' trivial
   rcases hx with h0 | ⟨r,o,vs,rfl,_⟩
   · cases h0
   cases h
   rw [hd2] at hd
   have:=z0y hd;subst this
   obtain ⟨q1,q2⟩:=eq_both (P:=P) (w:=w) (t:=t) (z9e 9999 w rfl _ _ _ _ _ hT.und) rfl rfl
   exact ⟨q1,q2,.inl (by intro u h;cases h)⟩
 · rename_i e id g i n cl hd2
   simp only [VRel] at hx hy
   obtain ⟨ad,cap,rfl,hlc,_,hna,_⟩:=hx
   obtain ⟨ad',cap',rfl,_,_,hz',_,_⟩:=hy
   obtain ⟨rfl,rfl⟩:=hz' trivial
   obtain ⟨a,rfl⟩:∃ a,ad=some a:=by
    cases ad with
    | none=>have:=hna rfl;omega
    | some a=>exact ⟨a,rfl⟩
   cases h
   rw [hd2] at hd
   have:=z0y hd;subst this
   obtain ⟨q1,q2⟩:=eq_both (P:=P) (w:=w) (t:=t) (z9e 9999 w rfl _ _ _ _ _ hT.und) rfl rfl
   exact ⟨q1,q2,.inl (by intro u h;cases h)⟩
 · rename_i fs a b' hd2
   split at h
   · rename_i hc
     obtain ⟨q,he,rfl,hft⟩:=hE.keyOk hc
     have hq:=he.eq Y w B _ _ xv yv b hft hx hy (by simp only [eqv];exact h)
     simp only [VRel] at hx hy
     obtain ⟨u,rfl,_⟩:=hx
     obtain ⟨u',rfl,_⟩:=hy
     obtain ⟨q1,q2⟩:=eq_both (P:=P) (w:=w) (t:=q.t) hq rfl rfl
     exact ⟨q1,q2,.inr (.inr he.guard)⟩
   · cases h
 · rename_i n e a b' hd2
   split at h
   · rename_i hc
     obtain ⟨q,he,rfl,hft⟩:=hE.keyOk hc
     have hq:=he.eq Y w B _ _ xv yv b hft hx hy (by simp only [eqv];exact h)
     simp only [VRel] at hx hy
     obtain ⟨u,rfl,_⟩:=hx
     obtain ⟨u',rfl,_⟩:=hy
     obtain ⟨q1,q2⟩:=eq_both (P:=P) (w:=w) (t:=q.t) hq rfl rfl
     exact ⟨q1,q2,.inr (.inr he.guard)⟩
   · cases h
 · cases h
theorem zEt (hE:EnvOk E P) {op:BinOp} {t:Nat} {ti:TI} (ht:E.ti t=some ti) {x y v:AVal} {xv yv:Value} {xo yo:Operand} (hx:VRel (avoid X B) w B x xv) (hy:VRel (avoid X B) w B y yv) (h:binOp E op t ti x y=some v)
    (hif:ti.d=.iface→∃ c,yo=.const c):
    ∃ v',(do eqGuard op t xo yo xv yv;Go.binOp op t xv yv:Sem Value).run P w=.ok v' w∧VRel (avoid X B) w B v v':=by
 have hints:∀ k a k' b,x=.int k a→y=.int k' b→∃ v',(do eqGuard op t xo yo xv yv;Go.binOp op t xv yv:Sem Value).run P w=.ok v' w∧VRel (avoid X B) w B v v':=by
  rintro k a k' b rfl rfl
  rw [z0v] at hx hy
  subst hx;subst hy
  obtain ⟨v',h1,h2⟩:=zPh (P:=P) (w:=w) (Y:=avoid X B) (B:=B) h
  have hg:=z4u (P:=P) (w:=w) (op:=op) (t:=t) (x:=xo) (y:=yo) (a:=.int k a) (b:=.int k' b) (by rintro ⟨h,_⟩;cases h) (.inl (by intro u h;cases h))
  exact ⟨v',by simp [hg,h1],h2⟩
 have hstrs:∀ a b,x=.str a→y=.str b→∃ v',(do eqGuard op t xo yo xv yv;Go.binOp op t xv yv:Sem Value).run P w=.ok v' w∧VRel (avoid X B) w B v v':=by
  rintro a b rfl rfl
  rw [z1p] at hx hy
  subst hx;subst hy
  obtain ⟨v',h1,h2⟩:=zQV (P:=P) (w:=w) (Y:=avoid X B) (B:=B) h
  have hg:=z4u (P:=P) (w:=w) (op:=op) (t:=t) (x:=xo) (y:=yo) (a:=.string ⟨⟨a⟩⟩) (b:=.string ⟨⟨b⟩⟩) (by rintro ⟨h,_⟩;cases h) (.inl (by intro u h;cases h))
  refine ⟨v',?_,h2⟩
  have:Go.binOp op t (.string ⟨⟨a⟩⟩) (.string ⟨⟨b⟩⟩)=Op.stringOp op ⟨⟨a⟩⟩ ⟨⟨b⟩⟩:=by cases op <;> rfl
  simp [hg,this,h1]
 unfold binOp at h
 split at h
 · exact hints _ _ _ _ rfl rfl
 · exact hints _ _ _ _ rfl rfl
 · exact hints _ _ _ _ rfl rfl
 · exact hstrs _ _ rfl rfl
 · simp only [Option.map_eq_some_iff] at h
   obtain ⟨b,hb,rfl⟩:=h
   obtain ⟨h1,_,h3⟩:=zGX (P:=P) hE ht hx hy hb
   have hg:=z4u (P:=P) (w:=w) (op:=.eql) (t:=t) (x:=xo) (y:=yo) (a:=xv) (b:=yv) (by
    rintro ⟨e1,e2,e3⟩
    by_cases hi:ti.d=.iface
    · obtain ⟨c,hc⟩:=hif hi;exact e3 c hc
    · subst e1
      rcases z6z hx with rfl | rfl
      · exact hi (z7A hb)
      · exact zBR hb) h3
   exact ⟨.bool b,by simp [hg,h1],by simp [VRel]⟩
 · simp only [Option.map_eq_some_iff] at h
   obtain ⟨b,hb,rfl⟩:=h
   obtain ⟨_,h1,h3⟩:=zGX (P:=P) hE ht hx hy hb
   have hg:=z4u (P:=P) (w:=w) (op:=.neq) (t:=t) (x:=xo) (y:=yo) (a:=xv) (b:=yv) (by
    rintro ⟨e1,e2,e3⟩
    by_cases hi:ti.d=.iface
    · obtain ⟨c,hc⟩:=hif hi;exact e3 c hc
    · subst e1
      rcases z6z hx with rfl | rfl
      · exact hi (z7A hb)
      · exact zBR hb) h3
   exact ⟨.bool !b,by simp [hg,h1],by simp [VRel]⟩
 · cases h
theorem zIP (hE:EnvOk E P) {s:St} {a:Act} (hS:Sim X B w s a) {nx:Nat} {o:Oper} {res:ORes} {op:BinOp} {t t2:Nat} {x y:Operand} (ho:o.op=.binOp op t x y t2) (h:stepOp E nx s o=some res):StepOk P X B w s a o res:=by
 simp only [stepOp,ho] at h
 split at h
 · rename_i ti ax ay ht hx hy
   have key:∀ v,binOp E op t ti ax ay=some v→(ti.d=.iface→∃ c,y=.const c)→StepOk P X B w s a o (.val v []):=by
    intro v hb hi
    obtain ⟨v',h1,h2⟩:=zEt (P:=P) (xo:=x) (yo:=y) hE ht (z0Q hS.tmps hx) (z0Q hS.tmps hy) hb hi
    refine .pure hS ?_ h2
    simp only [execOp,ho]
    rw [Sem.run_bind,h1]
    rfl
   split at h
   · rename_i c hd
     simp only [Option.map_eq_some_iff] at h
     obtain ⟨v,hb,rfl⟩:=h
     exact key v hb fun _=>⟨c,rfl⟩
   · cases h
   · rename_i hn1 hn2
     simp only [Option.map_eq_some_iff] at h
     obtain ⟨v,hb,rfl⟩:=h
     exact key v hb fun hd=>(hn1 hd).elim
 · cases h
end
end Go.Proofs.Ytgfejpngfikjiaa.Tidy
