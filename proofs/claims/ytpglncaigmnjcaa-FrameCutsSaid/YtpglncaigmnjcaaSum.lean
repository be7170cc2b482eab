/-
  The sum of any parts: the walk of frame.Sum.
-/
import Derived.Test.YtpglncaigmnjcaaTable
namespace Go.Proofs.Ytpglncaigmnjcaa
open Go.RowKit

theorem byte_step (c : BitVec 32) (x : UInt8) : bits .xor .u32 ((c.toNat : Int) / 256) ((crc.tab ((c.toNat % 256) ^^^ x.toNat)).toNat : Int) = ((crc.byteB c x).toNat : Int) := by
  have h : (c.toNat : Int) / (256 : Int) = ((c >>> 8).toNat : Int) := (shr32 c 8).symm
  rw [h, xor32, crc.byte_tab]
theorem index8 (c : BitVec 32) (x : UInt8) : bits .xor .u8 ((c.toNat : Int) % 256) (x.toNat : Int) = (((c.toNat % 256) ^^^ x.toNat : Nat) : Int) := by
  have h := xor8 (c.toNat % 256) x.toNat (by omega) x.toNat_lt
  rw [← h]
  congr 1
theorem index8_lt (c : BitVec 32) (x : UInt8) : (c.toNat % 256) ^^^ x.toNat < 256 := Nat.xor_lt_two_pow (n := 8) (by omega) x.toNat_lt
theorem max_xor (x : BitVec 32) : bits .xor .u32 IntKind.u32.max (x.toNat : Int) = ((x ^^^ crc.ones).toNat : Int) := by
  have e2 : IntKind.u32.max = (crc.ones.toNat : Int) := by decide
  rw [e2, xor32, BitVec.xor_comm]
theorem flat_snoc {ps : List (List UInt8)} {k : Nat} {l : List UInt8} (h : ps[k]? = some l) : (ps.take (k + 1)).flatten = (ps.take k).flatten ++ l := by
  rw [List.take_add_one, h]; simp

set_option maxRecDepth 100000 in
set_option maxHeartbeats 600000 in
theorem sum_any {w : World} {B n : Nat} {A : Option Addr} {ps : List (List UInt8)} (c : Nat) (hr : Rp w B A n ps) (hB : B ≤ w.heap.size) (hn : n ≤ maxLen) :
    Calls Try.prog 12 #[.slice A n c] w fun e w' => e = .returned (.int .u32 ((crc.sum ps.flatten).toNat : Int)) ∧ Below w.heap.size w w' := by
  have hz := zero256
  unfold maxLen at hn
  go_enter Try.func12, Try.ntmps12
  go_wp2_with fail
  refine (table_any w).mono ?_
  rintro e w1 ⟨rfl, hb1⟩
  have hg0 : (w1.alloc (.cells (tabs 0) 58)).heap[w1.heap.size]? = some (.cells (tabs 0) 58 (0, 0)) := heap_alloc_new w1 _
  have hin : (Try.prog.info? 58).map (·.size) = some (tabs 256).size := by rw [tabs_size]; kernel_rfl
  have hin0 : (tabs 0).size = (tabs 256).size := by rw [tabs_size, tabs_size]
  have HH := hide (And.intro hg0 (And.intro hin (And.intro hin0 (tabs_one 256))))
  clear hg0 hin hin0
  go_wp2_with ((with_reducible show wpList _ _ _ ({ dst := _, op := .store 58 _ _, type := _, pos := _, after := _, guard := _ } :: _) _ _); refine wpList_store_row rfl 58 _ _ rfl _ _ rfl rfl _ _ HH.out.1 HH.out.2.1 HH.out.2.2.1 HH.out.2.2.2 ?_)
  obtain ⟨W, hW⟩ : ∃ W, W = (w1.alloc (.cells (tabs 0) 58)).setRow w1.heap.size (tabs 256) := ⟨_, rfl⟩
  have hT : W.heap[w1.heap.size]? = some (.cells (tabs 256) 58 (0, 0)) := by rw [hW]; exact setRow_heap _ _ _ _ _ _ HH.out.1
  have hbW : Below w.heap.size w W := by rw [hW]; exact below_setRow (hb1.alloc hb1.size _) hb1.size _
  have hcT : ∀ i, i < 256 → W.cell? ⟨w1.heap.size, i, none⟩ = some (.int .u32 ((crc.tab i).toNat : Int)) := fun i hi => by
    rw [cell_of_row _ _ _ _ _ _ hT, tabs_get _ _ hi, if_pos hi]
  have HT := hide (And.intro hcT (And.intro hbW ((hr.more hB).below hbW)))
  rw [← hW]
  clear hW hT hbW hcT HH hb1 hz hr hB
  obtain ⟨TB, hTB⟩ : ∃ TB, TB = w1.heap.size := ⟨_, rfl⟩
  rw [← hTB] at HT ⊢
  clear hTB
  go_loop [4, 12] (fun c i => ∃ k : Nat, k ≤ n ∧ i = .int .i64 k ∧ c = .int .u32 ((crc.run crc.ones (ps.take k).flatten).toNat : Int)) (fun _ i => n - (intOf i).toNat)
  case atStart => exact ⟨0, Nat.zero_le _, rfl, rfl⟩
  case round =>
    obtain ⟨k, hk, rfl, rfl⟩ := hrel
    obtain ⟨x, hx⟩ : ∃ x, x = crc.run crc.ones (ps.take k).flatten := ⟨_, rfl⟩
    have HX := hide hx
    rw [← hx]
    clear hx
    by_cases hlt : k < n
    · have hrp := HT.out.2.2
      obtain ⟨l, hl⟩ : ∃ l, ps[k]? = some l := ⟨_, List.getElem?_eq_getElem (by rw [hrp.len]; exact hlt)⟩
      obtain ⟨b, o, A', n', c', rfl, hbB, hcell, hrb, hn'⟩ := hrp.at_ k l hl
      have HL := hide (And.intro hl hrb)
      unfold maxLen at hn'
      clear hl hrb hrp
      go_wp2
      go_loop [4, 18] (fun c i => ∃ j : Nat, j ≤ n' ∧ i = .int .i64 j ∧ c = .int .u32 ((crc.run x (l.take j)).toNat : Int)) (fun _ i => n' - (intOf i).toNat)
      case atStart => exact ⟨0, Nat.zero_le _, rfl, rfl⟩
      case round =>
        obtain ⟨j, hj, rfl, rfl⟩ := hrel
        obtain ⟨y, hy⟩ : ∃ y, y = crc.run x (l.take j) := ⟨_, rfl⟩
        have HY := hide hy
        rw [← hy]
        clear hy
        by_cases hjl : j < n'
        · obtain ⟨b2, o2, x2, rfl, hb2, hx2, hc2⟩ := HL.out.2.at_ hjl
          have hy0 := y.isLt
          have hx0 := x2.toNat_lt
          obtain ⟨i, hi⟩ : ∃ i, i = (y.toNat % 256) ^^^ x2.toNat := ⟨_, rfl⟩
          have hi8 := index8_lt y x2
          have hix := index8 y x2
          have hst := byte_step y x2
          rw [← hi] at hi8 hix hst
          have hct := HT.out.1 i hi8
          have hii : (i : Int) < 256 := by omega
          have HS := hide (And.intro hx2 hst)
          clear hi hi8 hst hx2
          go_wp2
          go_round
          case rel => exact ⟨j + 1, by omega, by go_num, int32_eq (by
            rw [HS.out.2, List.take_add_one, HS.out.1, HY.out]; exact congrArg (fun b : BitVec 32 => (b.toNat : Int)) (crc.run_snoc _ _ _).symm)⟩
          case measure => simp [intOf]; omega
        · go_wp2
          go_round
          case rel => exact ⟨k + 1, by omega, by go_num, int32_eq (by
            rw [flat_snoc HL.out.1, crc.run_append, ← HX.out, HY.out, List.take_of_length_le (by rw [HL.out.2.len]; omega)])⟩
          case measure => simp [intOf]; omega
    · go_wp2
      go_ret
      exact ⟨ret_int (by
        rw [max_xor, HX.out, List.take_of_length_le (by rw [HT.out.2.2.len]; omega)]
        rfl), HT.out.2.1⟩
end Go.Proofs.Ytpglncaigmnjcaa
