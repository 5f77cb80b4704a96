/-
 The table of types and functions is the program’s;a law as a contract.
-/
import Derived.Test.YtgfejpngfikjiaaMc
import Derived.Test.YtgfejpngfikjiaaMt
import Derived.KernelRfl
set_option linter.all false
namespace Go.Proofs.Ytgfejpngfikjiaa.Tidy
open Go
theorem zG2:zHK Try.prog 0 tys=true:=by kernel_rfl
theorem zFB:(eqL.all fun q=>q.chk Try.prog)=true:=by kernel_rfl
theorem zML:fnL=Try.prog.funcs.toList:=by kernel_rfl
theorem zCk:(fnL.all fun f=>!(f.name == "runtime.NumGoroutine"))=true:=by kernel_rfl
theorem zDV:(fnL.all fun f=>match f.body with | some c=>z2t c | none=>true)=true:=by kernel_rfl
theorem zSG:EnvOk env Try.prog where
 eqs:=by
  intro q hq
  have:=List.all_eq_true.1 zFB q hq
  exact q.ok this
 ty:=by
  intro t ti h
  have:=zEh zG2 t ti h
  rwa [Nat.zero_add] at this
 fn:=by
  intro f fn h
  have h1:fnL[f]?=some fn:=h
  refine ⟨?_,?_⟩
  · rw [← Array.getElem?_toList,← zML];exact h1
  · have:=List.all_eq_true.1 zCk fn (List.mem_of_getElem? h1)
    simpa using this
theorem zRf:zLX env:=by
 intro f fn c h hb
 have h1:fnL[f]?=some fn:=h
 have:=List.all_eq_true.1 zDV fn (List.mem_of_getElem? h1)
 simpa [hb] using this
theorem HRel.nothing (w:World):HRel B0 (fun _=>False) w []:=
 { dom:=by intro id e h;cases h
   inj:=by intro id id' e e' r s t s' t' h;cases h
   lt:=by intro id e r s t h;cases h
   xlt:=by intro r h;exact h.elim
   blk:=by intro id b h;simp at h }
theorem zSV {n:Nat} {args:List AVal} {vs:Array Value} {W:World} (h:∃ H',runT env n args [] 0=some (.ret (.bool true),H')) (hv:VRelL (fun _=>False) W B0 args vs.toList):
    Calls Try.prog n vs W fun e W'=>e=.returned (.bool true)∧Go.RowKit.Below W.heap.size W W':=by
 obtain ⟨H',h⟩:=h
 have hno:∀ r,¬ avoid (fun _=>False) B0 r:=by
  rintro r (h | ⟨id,e,s,t,h,_⟩)
  · exact h
  · cases h
 have hl:Lasts (fun _=>False) W (avoid (fun _=>False) B0) W:=⟨Nat.le_refl _,fun _ _ _=>rfl,fun r _ _=>hno r⟩
 obtain ⟨_,h2⟩:=zQN zSG zRf n args [] 0 _ H' h (fun _=>False) B0 W vs (HRel.nothing W) (hv.last hl (.refl _))
 refine Calls.mono h2 fun e W' he=>?_
 obtain ⟨B',_,hE,hR⟩:=he
 cases e with
 | returned v=>
   have:v=.bool true:=by simpa only [zNj,VRel] using hR
   subst this
   exact ⟨rfl,hE.os.1,hE.os.2.2,hE.os.2.1,hE.lasts.size,fun k hk=>hE.lasts.same k hk (hno k)⟩
 | _=>exact hR.elim
end Go.Proofs.Ytgfejpngfikjiaa.Tidy
