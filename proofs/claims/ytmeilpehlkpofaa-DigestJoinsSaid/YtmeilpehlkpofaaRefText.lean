/-
  The walks of the reference's text.
-/
import Derived.Test.YtmeilpehlkpofaaTextWalk
import Derived.Deep.RegionHeld3
namespace Go.Proofs.Ytmeilpehlkpofaa
open Go.RowKit
open sha

theorem ret_u8 {a b : Int} (h : a = b) : Ending.returned (.int .u8 a) = .returned (.int .u8 b) := by rw [h]
set_option maxHeartbeats 400000 in
theorem digit_any (n : Nat) (hn : n < 16) (w : World) :
    Calls Try.prog 24 #[.int .i64 (n : Int)] w fun e w' => e = .returned (.int .u8 ((hexd n).toNat : Int)) ∧ w' = w := by
  have hd : ((hexd n).toNat : Int) = if n < 10 then 48 + (n : Int) else 87 + n := by
    unfold hexd
    rw [UInt8.toNat_ofNat']
    split <;> (rw [Nat.mod_eq_of_lt (by omega)]; omega)
  have HD := hide hd
  clear hd
  by_cases h : (n : Int) < 10
  · go_enter Try.func24, Try.ntmps24
    go_wp2
    go_ret
    exact ⟨ret_u8 (by rw [HD.out, if_pos (by omega)]), rfl⟩
  · go_enter Try.func24, Try.ntmps24
    go_wp2
    go_ret
    exact ⟨ret_u8 (by rw [HD.out, if_neg (by omega)]; omega), rfl⟩
set_option maxRecDepth 100000 in
set_option maxHeartbeats 800000 in
theorem reftext_any (w : World) (l : List UInt8) (hl : l.length = 32) :
    Calls Try.prog 16 #[.agg (u8s l).toArray] w fun e w' => e = .returned (.string ⟨(hexText l).toArray⟩) ∧ Below w.heap.size w w' := by
  obtain ⟨ca, hca⟩ : ∃ ca, ca = (u8s l).toArray := ⟨_, rfl⟩
  have sa : ca.size = 32 := by rw [hca]; exact (key_cells hl).1
  rw [← hca]
  have h0 : (w.alloc (.cells ca 24)).heap[w.heap.size]? = some (.cells ca 24 (0, 0)) := heap_alloc_new w _
  have hb0 : Below w.heap.size w (w.alloc (.cells ca 24)) := (Below.refl _ _).alloc (Nat.le_refl _) _
  have HC := hide (And.intro hca (And.intro sa (And.intro hl (And.intro h0 hb0))))
  clear hca sa hl h0 hb0
  go_enter Try.func16, Try.ntmps16
  go_wp2_with fail
  go_loopw [3, 4] (fun o i wr => ∃ (j : Nat), j ≤ 32 ∧ i = .int .i64 j ∧ o = .string ⟨(hexText (l.take j)).toArray⟩ ∧ wr.heap[w.heap.size]? = some (.cells ca 24 (0, 0)) ∧ Below w.heap.size w wr) (fun _ i _ => 32 - (intOf i).toNat)
  case atStart => exact ⟨0, by omega, rfl, rfl, HC.out.2.2.2.1, HC.out.2.2.2.2⟩
  case round =>
    obtain ⟨j, hj, rfl, rfl, hh, hb⟩ := hrel
    by_cases hlt : (j : Int) < 32
    · obtain ⟨x, hx⟩ : ∃ x, l[j]? = some x := ⟨_, List.getElem?_eq_getElem (by rw [HC.out.2.2.1]; omega)⟩
      have cx : wr.cell? ⟨w.heap.size, j, none⟩ = some (.int .u8 (x.toNat : Int)) := by rw [cell_of_row _ _ _ _ _ _ hh, HC.out.1]; exact u8s_at hx
      have bx := x.toNat_lt
      obtain ⟨X, hX⟩ : ∃ X : Int, X = (x.toNat : Int) := ⟨_, rfl⟩
      obtain ⟨p, hp⟩ : ∃ p, p = x.toNat / 16 := ⟨_, rfl⟩
      obtain ⟨q, hq⟩ : ∃ q, q = x.toNat % 16 := ⟨_, rfl⟩
      rw [← hX] at cx
      have e0 : IntKind.i64.wrap X = X := IntWalk.i64_in _ (by omega)
      have e1 : X / 16 = (p : Int) := by omega
      have e2 : X % 16 = (q : Int) := by omega
      have e3 : X.tdiv 16 = (p : Int) := by rw [Int.tdiv_eq_ediv_of_nonneg (by omega)]; exact e1
      have e4 : X.tmod 16 = (q : Int) := by rw [Int.tmod_eq_emod_of_nonneg (by omega)]; exact e2
      have e5 : 0 ≤ X := by omega
      have e6 : X < 256 := by omega
      have p16 : p < 16 := by omega
      have e7 : IntKind.i64.wrap (p : Int) = (p : Int) := IntWalk.i64_in _ (by omega)
      have e8 : IntKind.i64.wrap (q : Int) = (q : Int) := IntWalk.i64_in _ (by omega)
      have q16 : q < 16 := by omega
      have hsize := World.block_lt_of_cell? wr _ cx
      obtain ⟨T, hT⟩ : ∃ T, T = hexText (l.take j) := ⟨_, rfl⟩
      rw [← hT]
      have HX := hide (And.intro hh (And.intro hb (And.intro hx (And.intro hj (And.intro hp (And.intro hq hT))))))
      clear hh hb hx hj hp hq bx hX hT
      have hrb2 : Rb (wr.alloc (.cells #[.int .u8 ((hexd p).toNat : Int), .int .u8 ((hexd q).toNat : Int)] 5)).drew (wr.heap.size + 1) (some ⟨wr.heap.size, 0, none⟩) 2 [hexd p, hexd q] := (Rb.lit wr [hexd p, hexd q] 5 (0, 0)).drew
      have kc := run_bytes_string Try.underlying22 Try.underlying5 Try.underlying9 2 hrb2
      clear hrb2
      have hTl : T.length ≤ 64 := by have := HX.out.2.2.2.1; rw [HX.out.2.2.2.2.2.2, hexText_length, List.length_take]; omega
      obtain ⟨sT, hsT⟩ : ∃ s : ByteArray, s = ⟨T.toArray⟩ := ⟨_, rfl⟩
      obtain ⟨s2, hs2⟩ : ∃ s : ByteArray, s = ⟨[hexd p, hexd q].toArray⟩ := ⟨_, rfl⟩
      obtain ⟨s3, hs3⟩ : ∃ s : ByteArray, s = ⟨(T ++ [hexd p, hexd q]).toArray⟩ := ⟨_, rfl⟩
      have hadd : ∀ w, (Go.Op.stringOp .add sT s2).run Try.prog w = .ok (.string s3) w := fun w => by
        rw [run_string_add_sum w sT s2 (by rw [hsT, hs2]; show T.length + 2 ≤ _; omega), hsT, hs2, hs3]
        congr 2
      rw [← hs2] at kc
      rw [← hsT]
      have hs3' := hide hs3
      clear hs3 hsT hs2
      go_wp2_with fail
      go_region_with (first | (go_at_call 24; refine (digit_any _ (by assumption) _).mono ?_; rintro e w4 ⟨rfl, rfl⟩))
      all_goals
        go_wp2_with fail
        refine ⟨⟨j + 1, by omega, by go_num, by rw [hs3'.out, take_snoc HX.out.2.2.1, hexText_snoc, ← HX.out.2.2.2.2.1, ← HX.out.2.2.2.2.2.1, ← HX.out.2.2.2.2.2.2], ?_, (HX.out.2.1.alloc HX.out.2.1.size _).drew⟩, by simp [intOf]; omega⟩
        show (wr.alloc _).heap[w.heap.size]? = _
        rw [Below.heap_alloc _ _ _ hsize]
        exact HX.out.1
    · have ej : j = 32 := by omega
      subst ej
      rw [List.take_of_length_le (by rw [HC.out.2.2.1]; omega)]
      have HX := hide hb
      clear hb hh
      go_wp2_with fail
      go_ret
      exact ⟨rfl, HX.out⟩
end Go.Proofs.Ytmeilpehlkpofaa
