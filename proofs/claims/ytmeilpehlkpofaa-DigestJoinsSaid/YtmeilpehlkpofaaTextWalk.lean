/-
  The walks of a digest's text.
-/
import Derived.Test.YtmeilpehlkpofaaKeys
namespace Go.Proofs.Ytmeilpehlkpofaa
open Go.RowKit
open sha

/-- A digit of sixteen. -/
def hexd (n : Nat) : UInt8 := UInt8.ofNat (if n < 10 then 48 + n else 87 + n)
def hexText (l : List UInt8) : List UInt8 := l.flatMap fun x => [hexd (x.toNat / 16), hexd (x.toNat % 16)]
theorem hexText_snoc (l : List UInt8) (x : UInt8) : hexText (l ++ [x]) = hexText l ++ [hexd (x.toNat / 16), hexd (x.toNat % 16)] := by
  unfold hexText; rw [List.flatMap_append]; simp
theorem hexText_length (l : List UInt8) : (hexText l).length = 2 * l.length := by
  induction l with
  | nil => rfl
  | cons x l ih =>
    have e : hexText (x :: l) = [hexd (x.toNat / 16), hexd (x.toNat % 16)] ++ hexText l := rfl
    rw [e, List.length_append, ih]; simp; omega
abbrev hexs : ByteArray := ⟨#[48, 49, 50, 51, 52, 53, 54, 55, 56, 57, 97, 98, 99, 100, 101, 102]⟩
theorem run_hex (w : World) : ∀ {n : Nat}, n < 16 → (Instr.index 9 (.string hexs) (.int .u8 (n : Int))).run Try.prog w = .ok (.int .u8 ((hexd n).toNat : Int)) w
  | 0, _ => by kernel_rfl
  | 1, _ => by kernel_rfl
  | 2, _ => by kernel_rfl
  | 3, _ => by kernel_rfl
  | 4, _ => by kernel_rfl
  | 5, _ => by kernel_rfl
  | 6, _ => by kernel_rfl
  | 7, _ => by kernel_rfl
  | 8, _ => by kernel_rfl
  | 9, _ => by kernel_rfl
  | 10, _ => by kernel_rfl
  | 11, _ => by kernel_rfl
  | 12, _ => by kernel_rfl
  | 13, _ => by kernel_rfl
  | 14, _ => by kernel_rfl
  | 15, _ => by kernel_rfl
  | n + 16, h => by omega
theorem run_index_k (w : World) {cs : Array Value} {j : Nat} {u : Value} (hj : (j : Int) < 32) (hu : cs[j]? = some u) : (Instr.index 25 (.agg cs) (.int .i64 (j : Int))).run Try.prog w = .ok u w := by
  obtain ⟨i, hi, _, hsize, _⟩ := info_parts Try.infoU8
  have hj' : j < 32 := by omega
  simp [Instr.index, run_underlying Try.underlying25, run_underlying Try.underlying5, asIntOf, part, isAgg, sizeOf, typeInfo, hi, hsize, hj', hu]
theorem u8s_at {l : List UInt8} {j : Nat} {x : UInt8} (h : l[j]? = some x) : (u8s l).toArray[j]? = some (.int .u8 (x.toNat : Int)) := by
  rw [List.getElem?_toArray]; simp [u8s, h]
set_option maxRecDepth 100000 in
set_option maxHeartbeats 800000 in
theorem text_any (w : World) (l : List UInt8) (hl : l.length = 32) :
    Calls Try.prog 14 #[.agg (u8s l).toArray] w fun e w' => e = .returned (.string ⟨(hexText l).toArray⟩) ∧ Below w.heap.size w w' := by
  obtain ⟨ca, hca⟩ : ∃ ca, ca = (u8s l).toArray := ⟨_, rfl⟩
  have sa : ca.size = 32 := by rw [hca]; exact (key_cells hl).1
  rw [← hca]
  have h0 : (w.alloc (.cells ca 25)).heap[w.heap.size]? = some (.cells ca 25 (0, 0)) := heap_alloc_new w _
  have hb0 : Below w.heap.size w (w.alloc (.cells ca 25)) := (Below.refl _ _).alloc (Nat.le_refl _) _
  have HC := hide (And.intro hca (And.intro sa (And.intro hl (And.intro h0 hb0))))
  clear hca sa hl h0 hb0
  go_enter Try.func14, Try.ntmps14
  go_wp2_with ((with_reducible show wpList _ _ _ ({ dst := _, op := .load 25 _, type := _, pos := _, after := _, guard := _ } :: _) _ _); refine wpList_load_row rfl 25 _ rfl _ rfl _ _ (0, 0) (.array 32 5) HC.out.2.2.2.1 Try.underlying25 rfl (by rw [HC.out.2.1]; kernel_rfl) ?_)
  go_loopw [3, 7] (fun o i wr => ∃ (j : Nat) (A : Option Addr) (c : Nat), j ≤ 32 ∧ i = .int .i64 j ∧ o = .slice A (2 * j) c ∧ OwnB wr w.heap.size (.slice A (2 * j) c) (2 * j) (hexText (l.take j)) ∧ Below w.heap.size w wr) (fun _ i _ => 32 - (intOf i).toNat)
  case atStart => exact ⟨0, none, 0, by omega, rfl, rfl, OwnB.nil' _ _, HC.out.2.2.2.2⟩
  case round =>
    obtain ⟨j, A, c, hj, rfl, rfl, hown, hb⟩ := hrel
    by_cases hlt : (j : Int) < 32
    · obtain ⟨x, hx⟩ : ∃ x, l[j]? = some x := ⟨_, List.getElem?_eq_getElem (by rw [HC.out.2.2.1]; omega)⟩
      have hidx : ∀ w, (Instr.index 25 (.agg ca) (.int .i64 (j : Int))).run Try.prog w = .ok (.int .u8 (x.toNat : Int)) w := fun w => run_index_k w hlt (by rw [HC.out.1]; exact u8s_at hx)
      have bx := x.toNat_lt
      have e1 : (x.toNat : Int) / 16 = ((x.toNat / 16 : Nat) : Int) := by omega
      have e2 : bits .and .u8 (x.toNat : Int) 15 = ((x.toNat % 16 : Nat) : Int) := by
        have : ∀ n : Fin 256, bits .and .u8 (n.1 : Int) 15 = ((n.1 % 16 : Nat) : Int) := by decide +kernel
        exact this ⟨x.toNat, bx⟩
      have r1 : ∀ w, (Instr.index 9 (.string hexs) (.int .u8 ((x.toNat / 16 : Nat) : Int))).run Try.prog w = .ok (.int .u8 ((hexd (x.toNat / 16)).toNat : Int)) w := fun w => run_hex w (by omega)
      have r2 : ∀ w, (Instr.index 9 (.string hexs) (.int .u8 ((x.toNat % 16 : Nat) : Int))).run Try.prog w = .ok (.int .u8 ((hexd (x.toNat % 16)).toNat : Int)) w := fun w => run_hex w (by omega)
      obtain ⟨p, hp⟩ : ∃ p, p = x.toNat / 16 := ⟨_, rfl⟩
      obtain ⟨q, hq⟩ : ∃ q, q = x.toNat % 16 := ⟨_, rfl⟩
      rw [← hp] at e1 r1
      rw [← hq] at e2 r2
      have HX := hide (And.intro hown (And.intro hb (And.intro hx (And.intro hj (And.intro hp hq)))))
      clear hown hb hx hj hp hq bx
      have hown2 : OwnB (wr.alloc (.cells #[.int .u8 ((hexd p).toNat : Int), .int .u8 ((hexd q).toNat : Int)] 5)).drew w.heap.size (.slice A (2 * j) c) (2 * j) (hexText (l.take j)) :=
        HX.out.1.kept (grown_drewN (World.grownBy_alloc wr _ none) 1) (by
          cases hv : (Value.slice A (2 * j) c).ownBlock with
          | none => exact .inl rfl
          | some k => exact .inr (by simp))
      have hrb2 : Rb (wr.alloc (.cells #[.int .u8 ((hexd p).toNat : Int), .int .u8 ((hexd q).toNat : Int)] 5)).drew (wr.heap.size + 1) (some ⟨wr.heap.size, 0, none⟩) 2 [hexd p, hexd q] := (Rb.lit wr [hexd p, hexd q] 5 (0, 0)).drew
      have H2 := hide (And.intro hown2 hrb2)
      clear hown2 hrb2
      go_wp2_with fail
      go_region_law ((refine step_append_b (by rfl) (.tmp 10) (.tmp 17) (by rfl) (by rfl) (by rfl) (by exact H2.out.1) (by exact H2.out.2) (by omega) (by have := HX.out.2.1.size; show w.heap.size ≤ (wr.alloc _).heap.size; simp; omega) ?_; intro A6 c6 w6 hown6 hg6; have H6 := hide (And.intro hown6 hg6); clear hown6 hg6))
      all_goals
        go_wp2_with fail
        refine ⟨⟨j + 1, A6, c6, by omega, by go_num, rfl, ?_, ?_⟩, by simp [intOf]; omega⟩
        · rw [take_snoc HX.out.2.2.1, hexText_snoc, ← HX.out.2.2.2.2.1, ← HX.out.2.2.2.2.2]
          exact H6.out.1
        · exact ((HX.out.2.1.alloc HX.out.2.1.size _).drew).grown H6.out.2 (by have := HX.out.2.1.size; show w.heap.size ≤ (wr.alloc _).heap.size; simp; omega) (fun q hq => (H2.out.1.lt q hq).1)
    · have ej : j = 32 := by omega
      subst ej
      rw [List.take_of_length_le (by rw [HC.out.2.2.1]; omega)] at hown
      have HX := hide (And.intro hown.rb hb)
      clear hown hb
      go_wp2_with ((with_reducible show wpList _ _ _ ({ dst := _, op := .convert 22 9 _, type := _, pos := _, after := _, guard := _ } :: _) _ _); refine wpList_bytes_string Try.underlying22 Try.underlying5 Try.underlying9 rfl HX.out.1 ?_)
      go_ret
      exact ⟨rfl, HX.out.2⟩
end Go.Proofs.Ytmeilpehlkpofaa
