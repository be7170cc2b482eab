/-
  The law of the swaps, the long arguments too.
-/
import Derived.Test.YtlnmjkilefnjpaaSwapsWalk
namespace Go.Proofs.Ytlnmjkilefnjpaa
open Go.RowKit Go.Maps

set_option maxRecDepth 100000 in
set_option maxHeartbeats 1600000 in
theorem swaps_long {w : World} {m n : Nat} {A C : Option Addr} (how : Int) (c d : Nat) (h : 300 < m ∨ 300 < n) :
    Calls Try.prog 5 #[.slice A m c, .slice C n d, .int .i64 how] w fun e w' => e = .returned (.bool true) ∧ Below w.heap.size w w' := by
  obtain ⟨D, hD⟩ : ∃ D, how / 2 = D := ⟨_, rfl⟩
  by_cases h1 : (300 : Int) < (m : Int)
  · clear h
    go_enter Try.func5, Try.ntmps5
    go_wp2_with fail
    refine (awake_any _).mono ?_
    rintro e w1 ⟨rfl, hb1⟩
    have H1 := hide hb1
    clear hb1
    go_wp2_with fail
    refine (awake_any _).mono ?_
    rintro e w2 ⟨rfl, hb2⟩
    have H2 := hide (H1.out.trans (hb2.mono H1.out.size))
    clear hb2
    go_wp2_with fail
    go_ret
    exact ⟨rfl, H2.out⟩
  · have h2 : (300 : Int) < (n : Int) := by omega
    clear h
    go_enter Try.func5, Try.ntmps5
    go_wp2_with fail
    refine (awake_any _).mono ?_
    rintro e w1 ⟨rfl, hb1⟩
    have H1 := hide hb1
    clear hb1
    go_wp2_with fail
    refine (awake_any _).mono ?_
    rintro e w2 ⟨rfl, hb2⟩
    have H2 := hide (H1.out.trans (hb2.mono H1.out.size))
    clear hb2
    go_wp2_with fail
    go_ret
    exact ⟨rfl, H2.out⟩
theorem swaps_any {w : World} {B m n : Nat} {A C : Option Addr} {O F : List UInt8} (how : Int) (c d : Nat) (hr : Rb w B A m O) (hr2 : Rb w B C n F) (hB : B ≤ w.heap.size) (hh0 : -9223372036854775808 ≤ how) (hh1 : how ≤ 9223372036854775807) :
    Calls Try.prog 5 #[.slice A m c, .slice C n d, .int .i64 how] w fun e w' => e = .returned (.bool true) ∧ Below w.heap.size w w' := by
  by_cases h : 300 < m ∨ 300 < n
  · exact swaps_long how c d h
  · exact swaps_one how c d hr hr2 hB (by omega) (by omega) hh0 hh1
theorem wf_bounds {k : Int} (h : (Lit.int .i64 k).wf = true) : -9223372036854775808 ≤ k ∧ k ≤ 9223372036854775807 := by
  simp [Lit.wf, IntKind.min, IntKind.max, IntKind.signed, IntKind.bits] at h
  omega
end Go.Proofs.Ytlnmjkilefnjpaa
