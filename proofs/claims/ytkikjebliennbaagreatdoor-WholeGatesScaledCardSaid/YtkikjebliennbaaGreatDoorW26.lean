/-
  (Helper theorems; each says its own conditions.)
-/
import Derived.Test.YtkikjebliennbaaGreatDoorEvG
import Derived.Test.YtkikjebliennbaaGreatDoorProg
import Derived.KernelRfl
namespace Go.Abs
open Go Go.Proofs

def namesOk : List Func → Bool
  | [] => true
  | f :: fs => (f.body.isNone || !(f.name == "runtime.NumGoroutine")) && namesOk fs

theorem namesOk_spec : ∀ {fs : List Func}, namesOk fs = true → ∀ f ∈ fs, f.body ≠ none → (f.name == "runtime.NumGoroutine") = false
  | f :: fs, h, g, hg, hb => by
    simp only [namesOk, Bool.and_eq_true, Bool.or_eq_true, Bool.not_eq_true'] at h
    cases hg with
    | head =>
      rcases h.1 with h1 | h1
      · exact absurd (Option.isNone_iff_eq_none.1 h1) hb
      · exact h1
    | tail _ hg => exact namesOk_spec h.2 g hg hb

theorem fit_of {P : Program} (h1 : P.follows .mixedOrders = true) (h2 : namesOk P.funcs.toList = true) : Fit P :=
  ⟨h1, fun f fn hf hb => namesOk_spec h2 fn (by
    have := Array.mem_of_getElem? hf
    simpa using this) hb⟩

def i64 (n : Int) : AV := .int .i64 n

theorem fit : Fit Tryz.prog := fit_of (by kernel_rfl) (by kernel_rfl)

theorem fit' : (Tryz.prog.globals[0]?).map (·.name) = some "math/bits.deBruijn32tab" := by kernel_rfl

end Go.Abs
