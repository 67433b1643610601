/-
  Long: the arguments as they come in.
-/
import Derived.Test.YtdpnaaggjgmaiaaSi
import Derived.Test.YtdpnaaggjgmaiaaIr
namespace Go.Proofs.Ytdpnaaggjgmaiaa.VG
open Go

theorem ints_of {H : Type} {enc : TypeId × Value → H} {w : World} {a : Option Addr} {len cap : Nat} (h : Sees enc Try.prog w 22 [.slice a len cap]) :
    ∃ l : List Int, l.length = len ∧ len ≤ maxLen ∧ len ≤ cap ∧ Rd (fun b => b < w.heap.size) w (.slice a len cap) len (intsV l) ∧ ∀ x ∈ l, (Lit.int .i64 x).wf = true :=
  row_of (e := 3) (by kernel_rfl) (by kernel_rfl) (by kernel_rfl) h
theorem arr3_of {H : Type} {enc : TypeId × Value → H} {w : World} {a : Array Value} (h : Sees enc Try.prog w 23 a.toList) :
    ∃ l : List Int, l.length = 3 ∧ a = (intsV l).toArray ∧ ∀ x ∈ l, (Lit.int .i64 x).wf = true :=
  arr_of (e := 3) (by kernel_rfl) (by kernel_rfl) (by kernel_rfl) (by kernel_rfl) h

end Go.Proofs.Ytdpnaaggjgmaiaa.VG
