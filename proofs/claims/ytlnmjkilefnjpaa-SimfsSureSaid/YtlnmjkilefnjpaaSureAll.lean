/-
  The law of what is sure, the long arguments too; how its arguments are opened.
-/
import Derived.Test.YtlnmjkilefnjpaaSureWalk
import Derived.Test.YtlnmjkilefnjpaaLaw
namespace Go.Proofs.Ytlnmjkilefnjpaa
open Go.ChangeShapes Go.WideShapes Go.ChangeAt Go.RowKit Go.Deep

set_option maxRecDepth 100000 in
set_option maxHeartbeats 1600000 in
theorem sure_long {w : World} {m n : Nat} {A C : Option Addr} (x y : Int) (c d : Nat) (h : 300 < m ∨ 300 < n) :
    Calls Try.prog 4 #[.slice A m c, .slice C n d, .agg #[.int .i64 x, .int .i64 y]] w fun e w' => e = .returned (.bool true) ∧ Below w.heap.size w w' := by
  have hx : Below w.heap.size w (w.alloc (.cells #[.int .i64 x, .int .i64 y] 36)) := (Below.refl _ _).alloc (Nat.le_refl _) _
  have HX := hide hx
  clear hx
  by_cases h1 : (300 : Int) < (m : Int)
  · clear h
    go_enter Try.func4, Try.ntmps4
    go_wp2_with fail
    refine (awake_any _).mono ?_
    rintro e w1 ⟨rfl, hb1⟩
    have H1 := hide (HX.out.trans (hb1.mono (by simp)))
    clear hb1
    go_wp2_with fail
    refine (awake_any _).mono ?_
    rintro e w2 ⟨rfl, hb2⟩
    have H2 := hide (H1.out.trans (hb2.mono H1.out.size))
    clear hb2
    go_wp2_with fail
    go_ret
    exact ⟨rfl, H2.out⟩
  · have h2 : (300 : Int) < (n : Int) := by omega
    clear h
    go_enter Try.func4, Try.ntmps4
    go_wp2_with fail
    refine (awake_any _).mono ?_
    rintro e w1 ⟨rfl, hb1⟩
    have H1 := hide (HX.out.trans (hb1.mono (by simp)))
    clear hb1
    go_wp2_with fail
    refine (awake_any _).mono ?_
    rintro e w2 ⟨rfl, hb2⟩
    have H2 := hide (H1.out.trans (hb2.mono H1.out.size))
    clear hb2
    go_wp2_with fail
    go_ret
    exact ⟨rfl, H2.out⟩
theorem sure_any {w : World} {B m n : Nat} {A C : Option Addr} {O M : List UInt8} {x y : Int} (c d : Nat) (hr : Rb w B A m O) (hr2 : Rb w B C n M) (hB : B ≤ w.heap.size)
    (x0 : -9223372036854775808 ≤ x) (x1 : x ≤ 9223372036854775807) (y0 : -9223372036854775808 ≤ y) (y1 : y ≤ 9223372036854775807) :
    Calls Try.prog 4 #[.slice A m c, .slice C n d, .agg #[.int .i64 x, .int .i64 y]] w fun e w' => e = .returned (.bool true) ∧ Below w.heap.size w w' := by
  by_cases h : 300 < m ∨ 300 < n
  · exact sure_long x y c d h
  · exact sure_one x y c d hr hr2 hB (by omega) (by omega) x0 x1 y0 y1
set_option maxRecDepth 10000 in
/-- a pair of ints by value that came in, and their bounds -/
theorem open_pair {H : Type} {enc : TypeId × Value → H} {w : World} {b0 base : Nat} {spare : Nat → Bool} {held : Bool} {r : Reach} {v : Value} {d : DataW H} {p : List MemPlace}
    (hv : Value.okWide Try.prog w r b0 36 v) (hx : DataW.Trod enc Try.prog w base spare held 36 v d p) :
    ∃ x y : Int, v = .agg #[.int .i64 x, .int .i64 y] ∧ (-9223372036854775808 ≤ x ∧ x ≤ 9223372036854775807) ∧ (-9223372036854775808 ≤ y ∧ y ≤ 9223372036854775807) := by
  have hc : Try.prog.cellsOf 36 = 2 := by kernel_rfl
  have hc1 : Try.prog.cellsOf 3 = 1 := by kernel_rfl
  have hs : ∃ cs, v = .agg cs ∧ cs.size = Try.prog.cellsOf 36 := by
    simp only [Value.okWide, Try.underlying36] at hv
    obtain ⟨cs, h1, h2, _⟩ := hv
    exact ⟨cs, h1, h2⟩
  obtain ⟨cs, rfl, hsz⟩ := hs
  obtain ⟨l⟩ := cs
  match l, hsz.trans hc with
  | [c0, c1], _ =>
    obtain ⟨fuel, hf⟩ := hx
    obtain ⟨xs, m, _, _, _, hlen, hi⟩ := DataW.trod_array Try.underlying36 hf
    match xs, hlen with
    | [x0, x1], _ =>
      have h0 := hi 0 (by omega)
      have h1 := hi 1 (by omega)
      rw [hc1] at h0 h1
      obtain ⟨a, ha, _, wa⟩ := DataW.trod_int Try.underlying3 h0
      obtain ⟨b, hb, _, wb⟩ := DataW.trod_int Try.underlying3 h1
      simp [Value.cells] at ha hb
      subst ha
      subst hb
      exact ⟨a, b, rfl, wf_bounds wa, wf_bounds wb⟩
end Go.Proofs.Ytlnmjkilefnjpaa
