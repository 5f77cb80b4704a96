/-
  The chapter’s examples hold, by the kernel.
-/
import Derived.Test.YtamcncpgfhfheaaMc
import Derived.Test.YtamcncpgfhfheaaMt
import Derived.KernelRfl
set_option linter.all false
/-
  The chapter's examples: the call that every statement begins with answers true. Run by the kernel.
-/
namespace Go.Proofs.Ytamcncpgfhfheaa.Tidy
open Go

def okRet : Option (CRes × Heap) → Bool
  | some (.ret (.bool true), _) => true
  | _ => false

theorem sane_checked : okRet (runN env 400 14 [] [] 0) = true := by kernel_rfl

theorem sane_run : ∃ H', runT env 14 [] [] 0 = some (.ret (.bool true), H') := by
  have h := sane_checked
  unfold okRet at h
  split at h
  · rename_i H' hr
    exact ⟨H', runT_some.2 ⟨400, hr⟩⟩
  · cases h

end Go.Proofs.Ytamcncpgfhfheaa.Tidy
