/-
  The walk of the law of the joins.
-/
import Derived.Test.YtmeilpehlkpofaaEndsWalk
namespace Go.Proofs.Ytmeilpehlkpofaa
open Go.RowKit
open sha

set_option maxRecDepth 100000 in
set_option maxHeartbeats 1600000 in
theorem joins_any {w : World} {B n : Nat} {A : Option Addr} {ps : List (List UInt8)} (c : Nat) (hp : Rp w B A n ps) (hB : B ≤ w.heap.size) (hn : n ≤ maxLen) :
    Calls Try.prog 4 #[.slice A n c] w fun e w' => e = .returned (.bool true) ∧ Below w.heap.size w w' := by
  have hm1 : (n : Int) ≤ 9223372036854775807 := by unfold maxLen at hn; omega
  by_cases hbig : (50 : Int) < (n : Int)
  · clear hp hB hn
    go_enter Try.func4, Try.ntmps4
    go_wp2_with fail
    refine (awake_any _).mono ?_
    rintro e w1 ⟨rfl, hb1⟩
    have H1 := hide hb1
    clear hb1
    go_wp2_with fail
    refine (awake_any _).mono ?_
    rintro e w2 ⟨rfl, hb2⟩
    have H2 := hide (H1.out.trans (hb2.mono H1.out.size))
    clear hb2
    go_wp2_with fail
    go_ret
    exact ⟨rfl, H2.out⟩
  · have HR := hide (And.intro hp (And.intro hB (And.intro hp.len hn)))
    clear hp hB hn
    go_enter Try.func4, Try.ntmps4
    go_wp2_with fail
    refine (awake_any _).mono ?_
    rintro e w1 ⟨rfl, hb1⟩
    have H1 := hide hb1
    clear hb1
    go_wp2_with fail
    go_loopw [3, 16] (fun v i wr => ∃ (j q : Nat) (A' : Option Addr) (c' : Nat), j ≤ n ∧ i = .int .i64 j ∧ v = .slice A' q c' ∧ q ≤ 1000 ∧ OwnB wr w.heap.size (.slice A' q c') q (ps.take j).flatten ∧ Below w.heap.size w wr) (fun _ i _ => n - (intOf i).toNat)
    case atStart => exact ⟨0, 0, none, 0, by omega, rfl, rfl, by omega, by rw [List.take_zero, List.flatten_nil]; exact OwnB.nil' _ _, H1.out⟩
    case round =>
      obtain ⟨j, q, A', c', hj, rfl, rfl, hq, hown, hb⟩ := hrel
      by_cases hlt : (j : Int) < (n : Int)
      · obtain ⟨l, hl⟩ : ∃ l, ps[j]? = some l := ⟨_, List.getElem?_eq_getElem (by rw [HR.out.2.2.1]; omega)⟩
        obtain ⟨b, o, A2, n2, c2, rfl, hbB, hcell, hr, hm⟩ := HR.out.1.at_ j l hl
        have hc : wr.cell? ⟨b, o + j, none⟩ = some (.slice A2 n2 c2) := by rw [hb.cell (p := ⟨b, o + j, none⟩) (by have := HR.out.2.1; show b < _; omega)]; exact hcell
        have hr2 := hr.below (hb.mono HR.out.2.1)
        have hft := flat_take hl
        have hm2 : (n2 : Int) ≤ 9223372036854775807 := by unfold maxLen at hm; omega
        have hw0 : IntKind.i64.wrap (1000 - (q : Int)) = 1000 - (q : Int) := IntWalk.i64_in _ (by omega)
        have HX := hide (And.intro hown (And.intro hb (And.intro hr2 hft)))
        clear hown hb hr2 hft hr hm hcell hl
        by_cases hgt : 1000 - (q : Int) < (n2 : Int)
        · go_wp2_with fail
          go_ret
          exact ⟨rfl, HX.out.2.1⟩
        · go_wp2_with ((with_reducible show wpList _ _ _ ({ dst := _, op := .call { callee := .builtin .append, args := #[_, _], argTypes := #[_, _] }, type := _, pos := _, after := _, guard := _ } :: _) _ _); refine wpList_append_b rfl rfl HX.out.1 HX.out.2.2.1 (by omega) HX.out.2.1.size ?_; intro A3 c3 w3 hown3 hg3; have hb3 := HX.out.2.1.grown hg3 HX.out.2.1.size (fun q hq => (HX.out.1.lt q hq).1); have H3 := hide (And.intro hown3 hb3); clear hown3 hg3 hb3)
          go_roundw
          case rel => exact ⟨j + 1, q + n2, A3, c3, by omega, by go_num, rfl, by omega, by have := H3.out.1; rw [← HX.out.2.2.2] at this; exact this, H3.out.2⟩
          case measure => simp [intOf]; omega
      · rw [List.take_of_length_le (by rw [HR.out.2.2.1]; omega)] at hown
        obtain ⟨cs, hcs⟩ : ∃ cs, cs = (u8s (sum ps.flatten)).toArray := ⟨_, rfl⟩
        have hrp := HR.out.1.below (hb.mono HR.out.2.1)
        have HJ := hide (And.intro hown.rb (And.intro hb (And.intro hrp (And.intro hcs (And.intro hq hown.1)))))
        have heq := fun w => run_eql_arr w (by rw [HJ.out.2.2.2.1]; exact sum_arr ps.flatten : ∃ l : List UInt8, l.length = 32 ∧ cs = (u8s l).toArray)
        have heqk := fun w => run_eql_key w (by rw [HJ.out.2.2.2.1]; exact sum_arr ps.flatten : ∃ l : List UInt8, l.length = 32 ∧ cs = (u8s l).toArray)
        clear hown hb hrp hcs hj hq
        go_wp2_with fail
        refine (joined_any c HJ.out.2.2.1 (Nat.le_trans HR.out.2.1 HJ.out.2.1.size) HR.out.2.2.2 (by have := HJ.out.2.2.2.2; omega)).mono ?_
        rintro e w5 ⟨rfl, hb5⟩
        rw [← HJ.out.2.2.2.1]
        have HB5 := hide (hb5)
        clear hb5
        go_wp2_with fail
        refine (sum_any c' (HJ.out.1.below HB5.out) HB5.out.size (by have := HJ.out.2.2.2.2; omega)).mono ?_
        rintro e w6 ⟨rfl, hb6⟩
        rw [← HJ.out.2.2.2.1]
        have HB6 := hide (HB5.out.trans (hb6.mono HB5.out.size))
        clear hb6
        go_wp2_with fail
        refine (sum_any c' (HJ.out.1.below HB6.out) HB6.out.size (by have := HJ.out.2.2.2.2; omega)).mono ?_
        rintro e w7 ⟨rfl, hb7⟩
        rw [← HJ.out.2.2.2.1]
        have HB7 := hide (HB6.out.trans (hb7.mono HB6.out.size))
        clear hb7
        go_wp2_with fail
        refine (refsum_any c' (HJ.out.1.below HB7.out) HB7.out.size (by have := HJ.out.2.2.2.2; omega)).mono ?_
        rintro e w8 ⟨rfl, hb8⟩
        rw [← HJ.out.2.2.2.1]
        have hw' := HB7.out.trans (hb8.mono HB7.out.size)
        clear hb8
        have H5 := hide (HJ.out.2.1.trans (hw'.mono HJ.out.2.1.size))
        clear hw'
        go_wp2_with fail
        go_ret
        exact ⟨rfl, H5.out⟩
end Go.Proofs.Ytmeilpehlkpofaa
