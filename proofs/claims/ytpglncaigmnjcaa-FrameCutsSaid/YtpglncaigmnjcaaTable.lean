/-
  The table of the sum, and the sum of any parts.
-/
import Derived.Test.YtpglncaigmnjcaaLeaf
import Derived.Laws.CopyOwn
namespace Go.Proofs.Ytpglncaigmnjcaa
open Go.RowKit

/-- The table's block when k of its words are there. -/
def tabs (k : Nat) : Array Value := ((List.range 256).map fun i => if i < k then .int .u32 ((crc.tab i).toNat : Int) else .int .u32 0).toArray
theorem tabs_size (k : Nat) : (tabs k).size = 256 := by simp [tabs]
theorem tabs_get (k i : Nat) (hi : i < 256) : (tabs k)[i]? = some (if i < k then .int .u32 ((crc.tab i).toNat : Int) else .int .u32 0) := by
  simp [tabs, hi]
theorem tabs_set (k : Nat) (hk : k < 256) : (tabs k).setIfInBounds k (.int .u32 ((crc.tab k).toNat : Int)) = tabs (k + 1) := by
  apply Array.ext_getElem?
  intro i
  by_cases hi : i < 256
  · rw [Array.getElem?_setIfInBounds, tabs_size, tabs_get (k + 1) i hi]
    by_cases e : k = i
    · subst e; simp [hk]
    · rw [if_neg e, tabs_get k i hi]
      congr 1
      by_cases h : i < k
      · rw [if_pos h, if_pos (by omega)]
      · rw [if_neg h, if_neg (by omega)]
  · rw [Array.getElem?_eq_none (by simp [tabs_size]; omega), Array.getElem?_eq_none (by rw [tabs_size]; omega)]
theorem tabs_one (k : Nat) : (tabs k).all (·.oneCell') = true := by
  rw [Array.all_eq_true_iff_forall_mem]
  intro u hu
  simp only [tabs, List.mem_toArray, List.mem_map] at hu
  obtain ⟨i, _, rfl⟩ := hu
  split <;> rfl
theorem zero256 (w : World) : (zeroValue 58).run Try.prog w = .ok (.agg (tabs 0)) w := by kernel_rfl

theorem and_one (x : BitVec 32) : bits .and .u32 (x.toNat : Int) 1 = (x.toNat : Int) % 2 := by
  rw [show (1 : Int) = ((1 : Nat) : Int) from rfl, (bits_nat .u32 32 (by decide) (fun n h0 h1 => by rw [IntKind.wrap_u32]; omega) x.toNat 1 x.isLt (by decide)).1, Nat.and_one_is_mod]
  omega
theorem step_mul (x : BitVec 32) : bits .xor .u32 ((x.toNat : Int) / 2) ((x.toNat : Int) % 2 * 2197175160) = ((crc.step x).toNat : Int) := by
  rcases Nat.mod_two_eq_zero_or_one x.toNat with h | h
  · have e : ((x.toNat : Int) % 2 == 1) = false := by simp; omega
    rw [show (x.toNat : Int) % 2 = 0 from by omega, ← step_even x e, Int.zero_mul]
    clear e
    have h2 : (x.toNat : Int) / (2 : Int) = ((x >>> 1).toNat : Int) := (shr32 x 1).symm
    rw [h2, show (0 : Int) = (((0 : BitVec 32).toNat : Nat) : Int) from rfl, xor32]
    simp
  · have e : ((x.toNat : Int) % 2 == 1) = true := by simp; omega
    rw [show (x.toNat : Int) % 2 = 1 from by omega, ← step_odd x e]
    rfl


theorem results_cell {fn : Func} {p : Tmp} {ty : TypeId} (h : fn.results = #[.cell p ty]) (tmps : Array Value) (P : Program) (w : World) :
    (results fn tmps).run P w =
      ((asAddr (tmps.getD p undef)).run P w).andThen fun a w₁ => ((loadVar ty a).run P w₁).andThen fun v w₂ => .ok v w₂ := by
  simp only [results, h]
  simp [Sem.run_bind, Result.andThen]
  cases (asAddr (tmps[p]?.getD undef)).run P w with
  | halt _ _ => rfl
  | ok a w => dsimp only; cases (loadVar ty a).run P w <;> rfl
set_option maxRecDepth 100000 in
set_option maxHeartbeats 400000 in
theorem table_any (w : World) :
    Calls Try.prog 20 #[] w fun e w' => e = .returned (.agg (tabs 256)) ∧ Below w.heap.size w w' := by
  have hz := zero256
  go_enter Try.func20, Try.ntmps20
  go_wp2
  go_loopw [2, 3, 4, 9] (fun _ _ i _ wr => ∃ k : Nat, k ≤ 256 ∧ i = .int .i64 k ∧ wr = (w.alloc (.cells (tabs 0) 58)).alloc (.cells (tabs k) 58))
    (fun _ _ i _ _ => 256 - (intOf i).toNat)
  case atStart => exact ⟨0, by omega, rfl, rfl⟩
  case round =>
    obtain ⟨k, hk, rfl, rfl⟩ := hrel
    clear hz
    obtain ⟨Z, hZ⟩ : ∃ Z, Z = tabs 0 := ⟨_, rfl⟩
    have HZ := hide hZ
    rw [← hZ]
    clear hZ
    obtain ⟨T, hT⟩ : ∃ T, T = tabs k := ⟨_, rfl⟩
    have HT := hide hT
    rw [← hT]
    clear hT
    have hk0 : (k : Int) ≤ 256 := by omega
    clear hk
    by_cases hlt : (k : Int) < 256
    · go_wp2
      go_loop [3, 9] (fun c i => ∃ j : Nat, j ≤ 8 ∧ i = .int .i64 j ∧ c = .int .u32 ((crc.stepN j (BitVec.ofNat 32 k)).toNat : Int)) (fun _ i => 8 - (intOf i).toNat)
      case atStart => exact ⟨0, by omega, rfl, int32_eq (by show (k : Int) = ((BitVec.ofNat 32 k).toNat : Int); rw [BitVec.toNat_ofNat]; omega)⟩
      case round =>
        obtain ⟨j, hj, rfl, rfl⟩ := hrel
        obtain ⟨y, hy⟩ : ∃ y, y = crc.stepN j (BitVec.ofNat 32 k) := ⟨_, rfl⟩
        have HY := hide hy
        rw [← hy]
        clear hy
        have hand := and_one y
        have HLT := hide hlt
        have hji : (j : Int) ≤ 8 := by omega
        clear hlt hj hk0
        by_cases hjl : (j : Int) < 8
        · go_wp2
          go_round
          case rel => exact ⟨j + 1, by omega, by go_num, int32_eq (by rw [step_mul, HY.out]; rfl)⟩
          case measure => simp [intOf]; omega
        · have hlt := HLT.out
          have hcell : T[k]? = some (.int .u32 0) := by rw [HT.out, tabs_get k k (by omega), if_neg (by omega)]
          have ej : j = 8 := by omega
          subst ej
          go_wp2
          go_roundw
          case rel => exact ⟨k + 1, by omega, by go_num, by rw [HY.out, HT.out, HZ.out]; exact congrArg _ (congrArg (Obj.cells · _ _) (tabs_set k (by omega)))⟩
          case measure => simp [intOf]; omega
    · have e256 : k = 256 := by omega
      have hT : T = tabs 256 := by rw [HT.out, e256]
      have hZs : Z.size = 256 := by rw [HZ.out, tabs_size]
      have hg1 : ((w.alloc (.cells Z 58)).alloc (.cells T 58)).heap[w.heap.size + 1]? = some (.cells T 58 (0, 0)) := by
        have := heap_alloc_new (w.alloc (.cells Z 58)) (.cells T 58)
        rw [World.size_alloc] at this
        exact this
      have hg0 : ((w.alloc (.cells Z 58)).alloc (.cells T 58)).heap[w.heap.size]? = some (.cells Z 58 (0, 0)) := by
        rw [Below.heap_alloc _ _ _ (by simp)]
        exact heap_alloc_new w _
      have hin : (Try.prog.info? 58).map (·.size) = some T.size := by rw [hT, tabs_size]; kernel_rfl
      have hin0 : Z.size = T.size := by rw [hT, tabs_size, hZs]
      have h1 : T.all (·.oneCell') = true := by rw [hT]; exact tabs_one _
      have HH := hide (And.intro hg1 (And.intro hg0 (And.intro hin (And.intro hin0 (And.intro h1 hT)))))
      clear hg1 hg0 hin hin0 h1 hT hZs e256
      go_wp2_with (first
        | ((with_reducible show wpList _ _ _ ({ dst := _, op := .load 58 _, type := _, pos := _, after := _, guard := _ } :: _) _ _); refine wpList_load_row rfl 58 _ rfl _ rfl _ _ _ _ HH.out.1 Try.underlying58 rfl HH.out.2.2.1 ?_)
        | ((with_reducible show wpList _ _ _ ({ dst := _, op := .store 58 _ _, type := _, pos := _, after := _, guard := _ } :: _) _ _); refine wpList_store_row rfl 58 _ _ rfl _ _ rfl rfl _ _ HH.out.2.1 HH.out.2.2.1 HH.out.2.2.2.1 HH.out.2.2.2.2.1 ?_))
      have hT := HH.out.2.2.2.2.2
      rw [hT]
      exact bodyPost_ret (v := .agg (tabs 256)) (by
        have h0 : (((w.alloc (.cells Z 58)).alloc (.cells (tabs 256) 58)).setRow w.heap.size (tabs 256)).heap[w.heap.size]? = some (.cells (tabs 256) 58 (0, 0)) :=
          setRow_heap _ _ Z _ _ _ (by rw [← hT]; exact HH.out.2.1)
        have h1 := run_loadVar_row (P := Try.prog) _ _ 58 58 _ _ _ h0 Try.underlying58 rfl (by rw [tabs_size]; kernel_rfl)
        rw [results_cell Try.results20]
        exact (congrArg (fun r => Result.andThen r fun v w₂ => Result.ok v w₂) h1).trans rfl) rfl ⟨rfl, by
          refine below_setRow ?_ (Nat.le_refl _) _
          exact ((Below.refl _ _).alloc (Nat.le_refl _) _).alloc (by simp) _⟩
end Go.Proofs.Ytpglncaigmnjcaa
