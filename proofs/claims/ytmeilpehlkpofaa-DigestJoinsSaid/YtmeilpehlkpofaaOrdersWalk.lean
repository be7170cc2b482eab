/-
  The walk of the law of the order.
-/
import Derived.Test.YtmeilpehlkpofaaKeys
namespace Go.Proofs.Ytmeilpehlkpofaa
open Go.RowKit

theorem drop_cons {l : List UInt8} {j : Nat} {x : UInt8} (h : l[j]? = some x) : l.drop j = x :: l.drop (j + 1) := by
  obtain ⟨hj, rfl⟩ := List.getElem?_eq_some_iff.1 h
  exact List.drop_eq_getElem_cons hj
theorem dif_cons {a b : List UInt8} {j : Nat} {x y : UInt8} (ha : a[j]? = some x) (hb : b[j]? = some y) : dif (a.drop j) (b.drop j) = if x = y then dif (a.drop (j + 1)) (b.drop (j + 1)) else (x.toNat : Int) - (y.toNat : Int) := by
  rw [drop_cons ha, drop_cons hb]; rfl
/-- A whole array out of its block, guarded or not. -/
theorem wpList_load_row_w {P : Program} {ops : Array Oper} {rest : List Oper} {o : Oper} {a : Act} {w : World} {Q : Exit → Act → World → Prop} (hw : Region.wanted o (yielded ops a.tmps) = true) (ty : TypeId) (x : Operand) (ho : o.op = .load ty x)
    (g : Nat) (hx : a.eval x = .pointer (some ⟨g, 0, none⟩)) (t : TypeId) (cs : Array Value) (fr : Nat × Nat) (d : TypeDesc) (hg : w.heap[g]? = some (.cells cs t fr))
    (hu : P.underlying ty = some d) (hd : (match d with | .struct _ | .array _ _ => true | _ => false) = true) (hi : (P.info? ty).map (·.size) = some cs.size)
    (h : wpList P ops Q rest (a.put o.dst (.agg cs)) w) : wpList P ops Q (o :: rest) a w :=
  wpList_step fun K hK => by simp only [hw, if_true]; exact wp_load_row ty x ho g hx t cs fr d hg hu hd hi (hK _ _ h)
/-- The three boxes of the keys; older memory is as it was. -/
def Three (w' w : World) (ca cb cc : Array Value) : Prop :=
  w'.heap[w.heap.size]? = some (.cells ca 25 (0, 0)) ∧ w'.heap[w.heap.size + 1]? = some (.cells cb 25 (0, 0)) ∧ w'.heap[w.heap.size + 1 + 1]? = some (.cells cc 25 (0, 0)) ∧ Below w.heap.size w w'
theorem three_new (w : World) (ca cb cc : Array Value) : Three ((((w.alloc (.cells ca 25)).alloc (.cells cb 25)).alloc (.cells cc 25))) w ca cb cc := by
  refine ⟨?_, ?_, ?_, (((Below.refl _ _).alloc (Nat.le_refl _) _).alloc (by simp) _).alloc (by simp; omega) _⟩
  · rw [Below.heap_alloc _ _ _ (by simp; omega), Below.heap_alloc _ _ _ (by simp)]; exact heap_alloc_new w _
  · rw [Below.heap_alloc _ _ _ (by simp)]
    have := heap_alloc_new (w.alloc (.cells ca 25)) (.cells cb 25)
    simpa using this
  · have := heap_alloc_new ((w.alloc (.cells ca 25)).alloc (.cells cb 25)) (.cells cc 25)
    simpa using this
theorem three_below {w w1 w2 : World} {ca cb cc : Array Value} (h : Three w1 w ca cb cc) (hb : Below w1.heap.size w1 w2) : Three w2 w ca cb cc :=
  ⟨by rw [hb.block _ (lt_of_block h.1)]; exact h.1, by rw [hb.block _ (lt_of_block h.2.1)]; exact h.2.1, by rw [hb.block _ (lt_of_block h.2.2.1)]; exact h.2.2.1, h.2.2.2.trans (hb.mono h.2.2.2.size)⟩
theorem three_drewN {w w1 : World} {ca cb cc : Array Value} (h : Three w1 w ca cb cc) (q : Nat) : Three (w1.drewN q) w ca cb cc := ⟨h.1, h.2.1, h.2.2.1, below_drewN h.2.2.2 q⟩
set_option maxRecDepth 100000 in
set_option maxHeartbeats 1600000 in
theorem orders_any (w : World) (a b c : List UInt8) (ha : a.length = 32) (hb : b.length = 32) (hc : c.length = 32) :
    Calls Try.prog 6 #[.agg (u8s a).toArray, .agg (u8s b).toArray, .agg (u8s c).toArray] w fun e w' => e = .returned (.bool true) ∧ Below w.heap.size w w' := by
  obtain ⟨ca, hca⟩ : ∃ ca, ca = (u8s a).toArray := ⟨_, rfl⟩
  obtain ⟨cb, hcb⟩ : ∃ cb, cb = (u8s b).toArray := ⟨_, rfl⟩
  obtain ⟨cc, hcc⟩ : ∃ cc, cc = (u8s c).toArray := ⟨_, rfl⟩
  have sa : ca.size = 32 := by rw [hca]; exact (key_cells ha).1
  have sb : cb.size = 32 := by rw [hcb]; exact (key_cells hb).1
  have sc : cc.size = 32 := by rw [hcc]; exact (key_cells hc).1
  rw [← hca, ← hcb, ← hcc]
  have HC := hide (And.intro hca (And.intro hcb (And.intro hcc (And.intro sa (And.intro sb (And.intro sc (And.intro ha (And.intro hb hc))))))))
  clear hca hcb hcc sa sb sc ha hb hc
  go_enter Try.func6, Try.ntmps6
  go_wp2_with fail
  have h0 : Three ((((w.alloc (.cells ca 25)).alloc (.cells cb 25)).alloc (.cells cc 25))) w ca cb cc := three_new w ca cb cc
  refine (awake_any _).mono ?_
  rintro e w1 ⟨rfl, hb⟩
  have H1 := hide (three_below h0 hb)
  clear hb h0
  go_wp2_with fail
  go_loopw [7, 8] (fun f i wr => ∃ j : Nat, j ≤ 32 ∧ i = .int .i64 ((j : Int) - 1) ∧ f = .int .i64 (dif (a.drop j) (b.drop j)) ∧ Three wr w ca cb cc) (fun _ i _ => (intOf i + 1).toNat)
  case atStart => exact ⟨32, by omega, rfl, by rw [List.drop_eq_nil_of_le (by rw [HC.out.2.2.2.2.2.2.1]; omega)]; rfl, H1.out⟩
  case round =>
    obtain ⟨j, hj, rfl, rfl, h3⟩ := hrel
    cases j with
    | succ k =>
      obtain ⟨x, hx⟩ : ∃ x, a[k]? = some x := ⟨_, List.getElem?_eq_getElem (by rw [HC.out.2.2.2.2.2.2.1]; omega)⟩
      obtain ⟨y, hy⟩ : ∃ y, b[k]? = some y := ⟨_, List.getElem?_eq_getElem (by rw [HC.out.2.2.2.2.2.2.2.1]; omega)⟩
      have hd := dif_cons hx hy
      obtain ⟨p, hp⟩ : ∃ p : Int, p = ((k + 1 : Nat) : Int) - 1 := ⟨_, rfl⟩
      have hpk : p = (k : Int) := by omega
      rw [← hp, hpk]
      have cx : wr.cell? ⟨w.heap.size, k, none⟩ = some (.int .u8 (x.toNat : Int)) := by
        rw [cell_of_row _ _ _ _ _ _ h3.1, HC.out.1, List.getElem?_toArray]; simp [u8s, hx]
      have cy : wr.cell? ⟨w.heap.size + 1, k, none⟩ = some (.int .u8 (y.toNat : Int)) := by
        rw [cell_of_row _ _ _ _ _ _ h3.2.1, HC.out.2.1, List.getElem?_toArray]; simp [u8s, hy]
      have k0 : (0 : Int) ≤ (k : Int) := by omega
      have k1 : (k : Int) < 32 := by omega
      have k2 : IntKind.i64.wrap ((k : Int) - 1) = (k : Int) - 1 := IntWalk.i64_in _ (by omega)
      have bx := x.toNat_lt
      have by' := y.toNat_lt
      have k3 : IntKind.i64.wrap (x.toNat : Int) = (x.toNat : Int) := IntWalk.i64_in _ (by omega)
      have k4 : IntKind.i64.wrap (y.toNat : Int) = (y.toNat : Int) := IntWalk.i64_in _ (by omega)
      have k5 : IntKind.i64.wrap ((x.toNat : Int) - (y.toNat : Int)) = (x.toNat : Int) - (y.toNat : Int) := IntWalk.i64_in _ (by omega)
      obtain ⟨X, hX⟩ : ∃ X : Int, X = (x.toNat : Int) := ⟨_, rfl⟩
      obtain ⟨Y, hY⟩ : ∃ Y : Int, Y = (y.toNat : Int) := ⟨_, rfl⟩
      rw [← hX] at cx k3 k5
      rw [← hY] at cy k4 k5
      rw [← hX, ← hY] at hd
      have hXY : x = y ↔ X = Y := by rw [hX, hY, Int.natCast_inj]; exact UInt8.toNat_inj.symm
      obtain ⟨D, hD⟩ : ∃ D, D = dif (a.drop (k + 1)) (b.drop (k + 1)) := ⟨_, rfl⟩
      rw [← hD] at hd ⊢
      have HX := hide (And.intro h3 (And.intro hd (And.intro hj hXY)))
      clear h3 hd hj hX hY hD hp hpk hx hy bx by' hXY
      by_cases hxy : X = Y
      · have t1 : (X != Y) = false := by simp [hxy]
        have hxy2 := hide hxy
        clear hxy
        go_wp2_with fail
        go_quiet (fail)
        go_wp2_with fail
        go_roundw
        case rel => exact ⟨k, by omega, by go_num, by rw [HX.out.2.1, if_pos (HX.out.2.2.2.2 hxy2.out)], three_drewN HX.out.1 _⟩
        case measure => simp [intOf]
      · have t1 : (X != Y) = true := by simp [hxy]
        have hxy2 := hide hxy
        clear hxy
        go_wp2_with fail
        go_quiet (fail)
        go_wp2_with fail
        go_quiet (fail)
        go_wp2_with fail
        go_roundw
        case rel => exact ⟨k, by omega, by go_num, by rw [HX.out.2.1, if_neg (fun e => hxy2.out (HX.out.2.2.2.1 e))], three_drewN HX.out.1 _⟩
        case measure => simp [intOf]
    | zero =>
      have H2 := hide h3
      clear h3 hj
      have hab := ltB_dif (a := a) (b := b) (by rw [HC.out.2.2.2.2.2.2.1, HC.out.2.2.2.2.2.2.2.1])
      have hba := ltB_dif' (a := a) (b := b) (by rw [HC.out.2.2.2.2.2.2.1, HC.out.2.2.2.2.2.2.2.1])
      rw [List.drop_zero, List.drop_zero]
      obtain ⟨D, hD⟩ : ∃ D, D = dif a b := ⟨_, rfl⟩
      rw [← hD] at hab hba ⊢
      clear hD
      have i0 : ¬ ((0 : Int) ≤ ((0 : Nat) : Int) - 1) := by omega
      obtain ⟨q, hq⟩ : ∃ q : Int, q = ((0 : Nat) : Int) - 1 := ⟨_, rfl⟩
      rw [← hq] at i0 ⊢
      clear hq
      have htr := fun h1 h2 => ltB_trans (a := a) (b := b) (c := c) (by rw [HC.out.2.2.2.2.2.2.1, HC.out.2.2.2.2.2.2.2.1]) (by rw [HC.out.2.2.2.2.2.2.2.1, HC.out.2.2.2.2.2.2.2.2]) h1 h2
      have HT := hide htr
      clear htr
      by_cases hneg : D < 0
      · have d1 : decide (D < 0) = true := by simp [hneg]
        have d2 : decide (0 < D) = false := by simp; omega
        rw [d1] at hab
        rw [d2] at hba
        have HA := hide (And.intro hab hba)
        clear hab hba
        have hneg2 : ¬ (0 < D) := by omega
        cases hbc : ltB b c with
        | true =>
          have hac := HT.out HA.out.1 hbc
          have HBC := hide (And.intro hbc hac)
          clear hbc hac
          go_wp2_with (first | ((with_reducible show wpList _ _ _ ({ dst := _, op := .load 25 _, type := _, pos := _, after := _, guard := _ } :: _) _ _); refine wpList_load_row_w (by rfl) 25 _ rfl (w.heap.size) rfl _ _ (0, 0) (.array 32 5) H2.out.1 Try.underlying25 rfl (by rw [HC.out.2.2.2.1]; kernel_rfl) ?_) | ((with_reducible show wpList _ _ _ ({ dst := _, op := .load 25 _, type := _, pos := _, after := _, guard := _ } :: _) _ _); refine wpList_load_row_w (by rfl) 25 _ rfl (w.heap.size + 1) rfl _ _ (0, 0) (.array 32 5) H2.out.2.1 Try.underlying25 rfl (by rw [HC.out.2.2.2.2.1]; kernel_rfl) ?_) | ((with_reducible show wpList _ _ _ ({ dst := _, op := .load 25 _, type := _, pos := _, after := _, guard := _ } :: _) _ _); refine wpList_load_row_w (by rfl) 25 _ rfl (w.heap.size + 1 + 1) rfl _ _ (0, 0) (.array 32 5) H2.out.2.2.1 Try.underlying25 rfl (by rw [HC.out.2.2.2.2.2.1]; kernel_rfl) ?_))
          rw [HC.out.1, HC.out.2.1]
          refine (less_any HC.out.2.2.2.2.2.2.1 HC.out.2.2.2.2.2.2.2.1).mono ?_
          rintro e w100 ⟨rfl, hb⟩
          rw [← HC.out.1, ← HC.out.2.1, HA.out.1]
          have H2x := hide (three_below H2.out hb)
          clear hb
          go_wp2_with (first | ((with_reducible show wpList _ _ _ ({ dst := _, op := .load 25 _, type := _, pos := _, after := _, guard := _ } :: _) _ _); refine wpList_load_row_w (by rfl) 25 _ rfl (w.heap.size) rfl _ _ (0, 0) (.array 32 5) H2x.out.1 Try.underlying25 rfl (by rw [HC.out.2.2.2.1]; kernel_rfl) ?_) | ((with_reducible show wpList _ _ _ ({ dst := _, op := .load 25 _, type := _, pos := _, after := _, guard := _ } :: _) _ _); refine wpList_load_row_w (by rfl) 25 _ rfl (w.heap.size + 1) rfl _ _ (0, 0) (.array 32 5) H2x.out.2.1 Try.underlying25 rfl (by rw [HC.out.2.2.2.2.1]; kernel_rfl) ?_) | ((with_reducible show wpList _ _ _ ({ dst := _, op := .load 25 _, type := _, pos := _, after := _, guard := _ } :: _) _ _); refine wpList_load_row_w (by rfl) 25 _ rfl (w.heap.size + 1 + 1) rfl _ _ (0, 0) (.array 32 5) H2x.out.2.2.1 Try.underlying25 rfl (by rw [HC.out.2.2.2.2.2.1]; kernel_rfl) ?_))
          rw [HC.out.2.1, HC.out.1]
          refine (less_any HC.out.2.2.2.2.2.2.2.1 HC.out.2.2.2.2.2.2.1).mono ?_
          rintro e w101 ⟨rfl, hb⟩
          rw [← HC.out.2.1, ← HC.out.1, HA.out.2]
          have H2xx := hide (three_below H2x.out hb)
          clear hb
          go_wp2_with (first | ((with_reducible show wpList _ _ _ ({ dst := _, op := .load 25 _, type := _, pos := _, after := _, guard := _ } :: _) _ _); refine wpList_load_row_w (by rfl) 25 _ rfl (w.heap.size) rfl _ _ (0, 0) (.array 32 5) H2xx.out.1 Try.underlying25 rfl (by rw [HC.out.2.2.2.1]; kernel_rfl) ?_) | ((with_reducible show wpList _ _ _ ({ dst := _, op := .load 25 _, type := _, pos := _, after := _, guard := _ } :: _) _ _); refine wpList_load_row_w (by rfl) 25 _ rfl (w.heap.size + 1) rfl _ _ (0, 0) (.array 32 5) H2xx.out.2.1 Try.underlying25 rfl (by rw [HC.out.2.2.2.2.1]; kernel_rfl) ?_) | ((with_reducible show wpList _ _ _ ({ dst := _, op := .load 25 _, type := _, pos := _, after := _, guard := _ } :: _) _ _); refine wpList_load_row_w (by rfl) 25 _ rfl (w.heap.size + 1 + 1) rfl _ _ (0, 0) (.array 32 5) H2xx.out.2.2.1 Try.underlying25 rfl (by rw [HC.out.2.2.2.2.2.1]; kernel_rfl) ?_))
          rw [HC.out.1, HC.out.2.1]
          refine (less_any HC.out.2.2.2.2.2.2.1 HC.out.2.2.2.2.2.2.2.1).mono ?_
          rintro e w102 ⟨rfl, hb⟩
          rw [← HC.out.1, ← HC.out.2.1, HA.out.1]
          have H2xxx := hide (three_below H2xx.out hb)
          clear hb
          go_wp2_with (first | ((with_reducible show wpList _ _ _ ({ dst := _, op := .load 25 _, type := _, pos := _, after := _, guard := _ } :: _) _ _); refine wpList_load_row_w (by rfl) 25 _ rfl (w.heap.size) rfl _ _ (0, 0) (.array 32 5) H2xxx.out.1 Try.underlying25 rfl (by rw [HC.out.2.2.2.1]; kernel_rfl) ?_) | ((with_reducible show wpList _ _ _ ({ dst := _, op := .load 25 _, type := _, pos := _, after := _, guard := _ } :: _) _ _); refine wpList_load_row_w (by rfl) 25 _ rfl (w.heap.size + 1) rfl _ _ (0, 0) (.array 32 5) H2xxx.out.2.1 Try.underlying25 rfl (by rw [HC.out.2.2.2.2.1]; kernel_rfl) ?_) | ((with_reducible show wpList _ _ _ ({ dst := _, op := .load 25 _, type := _, pos := _, after := _, guard := _ } :: _) _ _); refine wpList_load_row_w (by rfl) 25 _ rfl (w.heap.size + 1 + 1) rfl _ _ (0, 0) (.array 32 5) H2xxx.out.2.2.1 Try.underlying25 rfl (by rw [HC.out.2.2.2.2.2.1]; kernel_rfl) ?_))
          rw [HC.out.2.1, HC.out.2.2.1]
          refine (less_any HC.out.2.2.2.2.2.2.2.1 HC.out.2.2.2.2.2.2.2.2).mono ?_
          rintro e w103 ⟨rfl, hb⟩
          rw [← HC.out.2.1, ← HC.out.2.2.1, HBC.out.1]
          have H2xxxx := hide (three_below H2xxx.out hb)
          clear hb
          go_wp2_with (first | ((with_reducible show wpList _ _ _ ({ dst := _, op := .load 25 _, type := _, pos := _, after := _, guard := _ } :: _) _ _); refine wpList_load_row_w (by rfl) 25 _ rfl (w.heap.size) rfl _ _ (0, 0) (.array 32 5) H2xxxx.out.1 Try.underlying25 rfl (by rw [HC.out.2.2.2.1]; kernel_rfl) ?_) | ((with_reducible show wpList _ _ _ ({ dst := _, op := .load 25 _, type := _, pos := _, after := _, guard := _ } :: _) _ _); refine wpList_load_row_w (by rfl) 25 _ rfl (w.heap.size + 1) rfl _ _ (0, 0) (.array 32 5) H2xxxx.out.2.1 Try.underlying25 rfl (by rw [HC.out.2.2.2.2.1]; kernel_rfl) ?_) | ((with_reducible show wpList _ _ _ ({ dst := _, op := .load 25 _, type := _, pos := _, after := _, guard := _ } :: _) _ _); refine wpList_load_row_w (by rfl) 25 _ rfl (w.heap.size + 1 + 1) rfl _ _ (0, 0) (.array 32 5) H2xxxx.out.2.2.1 Try.underlying25 rfl (by rw [HC.out.2.2.2.2.2.1]; kernel_rfl) ?_))
          rw [HC.out.1, HC.out.2.2.1]
          refine (less_any HC.out.2.2.2.2.2.2.1 HC.out.2.2.2.2.2.2.2.2).mono ?_
          rintro e w104 ⟨rfl, hb⟩
          rw [← HC.out.1, ← HC.out.2.2.1, HBC.out.2]
          have H2xxxxx := hide (three_below H2xxxx.out hb)
          clear hb
          go_wp2_with fail
          go_ret
          exact ⟨rfl, H2xxxxx.out.2.2.2⟩
        | false =>
          have HBC := hide hbc
          clear hbc
          go_wp2_with (first | ((with_reducible show wpList _ _ _ ({ dst := _, op := .load 25 _, type := _, pos := _, after := _, guard := _ } :: _) _ _); refine wpList_load_row_w (by rfl) 25 _ rfl (w.heap.size) rfl _ _ (0, 0) (.array 32 5) H2.out.1 Try.underlying25 rfl (by rw [HC.out.2.2.2.1]; kernel_rfl) ?_) | ((with_reducible show wpList _ _ _ ({ dst := _, op := .load 25 _, type := _, pos := _, after := _, guard := _ } :: _) _ _); refine wpList_load_row_w (by rfl) 25 _ rfl (w.heap.size + 1) rfl _ _ (0, 0) (.array 32 5) H2.out.2.1 Try.underlying25 rfl (by rw [HC.out.2.2.2.2.1]; kernel_rfl) ?_) | ((with_reducible show wpList _ _ _ ({ dst := _, op := .load 25 _, type := _, pos := _, after := _, guard := _ } :: _) _ _); refine wpList_load_row_w (by rfl) 25 _ rfl (w.heap.size + 1 + 1) rfl _ _ (0, 0) (.array 32 5) H2.out.2.2.1 Try.underlying25 rfl (by rw [HC.out.2.2.2.2.2.1]; kernel_rfl) ?_))
          rw [HC.out.1, HC.out.2.1]
          refine (less_any HC.out.2.2.2.2.2.2.1 HC.out.2.2.2.2.2.2.2.1).mono ?_
          rintro e w100 ⟨rfl, hb⟩
          rw [← HC.out.1, ← HC.out.2.1, HA.out.1]
          have H2x := hide (three_below H2.out hb)
          clear hb
          go_wp2_with (first | ((with_reducible show wpList _ _ _ ({ dst := _, op := .load 25 _, type := _, pos := _, after := _, guard := _ } :: _) _ _); refine wpList_load_row_w (by rfl) 25 _ rfl (w.heap.size) rfl _ _ (0, 0) (.array 32 5) H2x.out.1 Try.underlying25 rfl (by rw [HC.out.2.2.2.1]; kernel_rfl) ?_) | ((with_reducible show wpList _ _ _ ({ dst := _, op := .load 25 _, type := _, pos := _, after := _, guard := _ } :: _) _ _); refine wpList_load_row_w (by rfl) 25 _ rfl (w.heap.size + 1) rfl _ _ (0, 0) (.array 32 5) H2x.out.2.1 Try.underlying25 rfl (by rw [HC.out.2.2.2.2.1]; kernel_rfl) ?_) | ((with_reducible show wpList _ _ _ ({ dst := _, op := .load 25 _, type := _, pos := _, after := _, guard := _ } :: _) _ _); refine wpList_load_row_w (by rfl) 25 _ rfl (w.heap.size + 1 + 1) rfl _ _ (0, 0) (.array 32 5) H2x.out.2.2.1 Try.underlying25 rfl (by rw [HC.out.2.2.2.2.2.1]; kernel_rfl) ?_))
          rw [HC.out.2.1, HC.out.1]
          refine (less_any HC.out.2.2.2.2.2.2.2.1 HC.out.2.2.2.2.2.2.1).mono ?_
          rintro e w101 ⟨rfl, hb⟩
          rw [← HC.out.2.1, ← HC.out.1, HA.out.2]
          have H2xx := hide (three_below H2x.out hb)
          clear hb
          go_wp2_with (first | ((with_reducible show wpList _ _ _ ({ dst := _, op := .load 25 _, type := _, pos := _, after := _, guard := _ } :: _) _ _); refine wpList_load_row_w (by rfl) 25 _ rfl (w.heap.size) rfl _ _ (0, 0) (.array 32 5) H2xx.out.1 Try.underlying25 rfl (by rw [HC.out.2.2.2.1]; kernel_rfl) ?_) | ((with_reducible show wpList _ _ _ ({ dst := _, op := .load 25 _, type := _, pos := _, after := _, guard := _ } :: _) _ _); refine wpList_load_row_w (by rfl) 25 _ rfl (w.heap.size + 1) rfl _ _ (0, 0) (.array 32 5) H2xx.out.2.1 Try.underlying25 rfl (by rw [HC.out.2.2.2.2.1]; kernel_rfl) ?_) | ((with_reducible show wpList _ _ _ ({ dst := _, op := .load 25 _, type := _, pos := _, after := _, guard := _ } :: _) _ _); refine wpList_load_row_w (by rfl) 25 _ rfl (w.heap.size + 1 + 1) rfl _ _ (0, 0) (.array 32 5) H2xx.out.2.2.1 Try.underlying25 rfl (by rw [HC.out.2.2.2.2.2.1]; kernel_rfl) ?_))
          rw [HC.out.1, HC.out.2.1]
          refine (less_any HC.out.2.2.2.2.2.2.1 HC.out.2.2.2.2.2.2.2.1).mono ?_
          rintro e w102 ⟨rfl, hb⟩
          rw [← HC.out.1, ← HC.out.2.1, HA.out.1]
          have H2xxx := hide (three_below H2xx.out hb)
          clear hb
          go_wp2_with (first | ((with_reducible show wpList _ _ _ ({ dst := _, op := .load 25 _, type := _, pos := _, after := _, guard := _ } :: _) _ _); refine wpList_load_row_w (by rfl) 25 _ rfl (w.heap.size) rfl _ _ (0, 0) (.array 32 5) H2xxx.out.1 Try.underlying25 rfl (by rw [HC.out.2.2.2.1]; kernel_rfl) ?_) | ((with_reducible show wpList _ _ _ ({ dst := _, op := .load 25 _, type := _, pos := _, after := _, guard := _ } :: _) _ _); refine wpList_load_row_w (by rfl) 25 _ rfl (w.heap.size + 1) rfl _ _ (0, 0) (.array 32 5) H2xxx.out.2.1 Try.underlying25 rfl (by rw [HC.out.2.2.2.2.1]; kernel_rfl) ?_) | ((with_reducible show wpList _ _ _ ({ dst := _, op := .load 25 _, type := _, pos := _, after := _, guard := _ } :: _) _ _); refine wpList_load_row_w (by rfl) 25 _ rfl (w.heap.size + 1 + 1) rfl _ _ (0, 0) (.array 32 5) H2xxx.out.2.2.1 Try.underlying25 rfl (by rw [HC.out.2.2.2.2.2.1]; kernel_rfl) ?_))
          rw [HC.out.2.1, HC.out.2.2.1]
          refine (less_any HC.out.2.2.2.2.2.2.2.1 HC.out.2.2.2.2.2.2.2.2).mono ?_
          rintro e w103 ⟨rfl, hb⟩
          rw [← HC.out.2.1, ← HC.out.2.2.1, HBC.out]
          have H2xxxx := hide (three_below H2xxx.out hb)
          clear hb
          go_wp2_with fail
          go_ret
          exact ⟨rfl, H2xxxx.out.2.2.2⟩
      · have d1 : decide (D < 0) = false := by simp; omega
        rw [d1] at hab
        by_cases hpos : 0 < D
        · have d2 : decide (0 < D) = true := by simp [hpos]
          rw [d2] at hba
          have HA := hide (And.intro hab hba)
          clear hab hba
          go_wp2_with (first | ((with_reducible show wpList _ _ _ ({ dst := _, op := .load 25 _, type := _, pos := _, after := _, guard := _ } :: _) _ _); refine wpList_load_row_w (by rfl) 25 _ rfl (w.heap.size) rfl _ _ (0, 0) (.array 32 5) H2.out.1 Try.underlying25 rfl (by rw [HC.out.2.2.2.1]; kernel_rfl) ?_) | ((with_reducible show wpList _ _ _ ({ dst := _, op := .load 25 _, type := _, pos := _, after := _, guard := _ } :: _) _ _); refine wpList_load_row_w (by rfl) 25 _ rfl (w.heap.size + 1) rfl _ _ (0, 0) (.array 32 5) H2.out.2.1 Try.underlying25 rfl (by rw [HC.out.2.2.2.2.1]; kernel_rfl) ?_) | ((with_reducible show wpList _ _ _ ({ dst := _, op := .load 25 _, type := _, pos := _, after := _, guard := _ } :: _) _ _); refine wpList_load_row_w (by rfl) 25 _ rfl (w.heap.size + 1 + 1) rfl _ _ (0, 0) (.array 32 5) H2.out.2.2.1 Try.underlying25 rfl (by rw [HC.out.2.2.2.2.2.1]; kernel_rfl) ?_))
          rw [HC.out.1, HC.out.2.1]
          refine (less_any HC.out.2.2.2.2.2.2.1 HC.out.2.2.2.2.2.2.2.1).mono ?_
          rintro e w100 ⟨rfl, hb⟩
          rw [← HC.out.1, ← HC.out.2.1, HA.out.1]
          have H2x := hide (three_below H2.out hb)
          clear hb
          go_wp2_with (first | ((with_reducible show wpList _ _ _ ({ dst := _, op := .load 25 _, type := _, pos := _, after := _, guard := _ } :: _) _ _); refine wpList_load_row_w (by rfl) 25 _ rfl (w.heap.size) rfl _ _ (0, 0) (.array 32 5) H2x.out.1 Try.underlying25 rfl (by rw [HC.out.2.2.2.1]; kernel_rfl) ?_) | ((with_reducible show wpList _ _ _ ({ dst := _, op := .load 25 _, type := _, pos := _, after := _, guard := _ } :: _) _ _); refine wpList_load_row_w (by rfl) 25 _ rfl (w.heap.size + 1) rfl _ _ (0, 0) (.array 32 5) H2x.out.2.1 Try.underlying25 rfl (by rw [HC.out.2.2.2.2.1]; kernel_rfl) ?_) | ((with_reducible show wpList _ _ _ ({ dst := _, op := .load 25 _, type := _, pos := _, after := _, guard := _ } :: _) _ _); refine wpList_load_row_w (by rfl) 25 _ rfl (w.heap.size + 1 + 1) rfl _ _ (0, 0) (.array 32 5) H2x.out.2.2.1 Try.underlying25 rfl (by rw [HC.out.2.2.2.2.2.1]; kernel_rfl) ?_))
          rw [HC.out.2.1, HC.out.1]
          refine (less_any HC.out.2.2.2.2.2.2.2.1 HC.out.2.2.2.2.2.2.1).mono ?_
          rintro e w101 ⟨rfl, hb⟩
          rw [← HC.out.2.1, ← HC.out.1, HA.out.2]
          have H2xx := hide (three_below H2x.out hb)
          clear hb
          go_wp2_with (first | ((with_reducible show wpList _ _ _ ({ dst := _, op := .load 25 _, type := _, pos := _, after := _, guard := _ } :: _) _ _); refine wpList_load_row_w (by rfl) 25 _ rfl (w.heap.size) rfl _ _ (0, 0) (.array 32 5) H2xx.out.1 Try.underlying25 rfl (by rw [HC.out.2.2.2.1]; kernel_rfl) ?_) | ((with_reducible show wpList _ _ _ ({ dst := _, op := .load 25 _, type := _, pos := _, after := _, guard := _ } :: _) _ _); refine wpList_load_row_w (by rfl) 25 _ rfl (w.heap.size + 1) rfl _ _ (0, 0) (.array 32 5) H2xx.out.2.1 Try.underlying25 rfl (by rw [HC.out.2.2.2.2.1]; kernel_rfl) ?_) | ((with_reducible show wpList _ _ _ ({ dst := _, op := .load 25 _, type := _, pos := _, after := _, guard := _ } :: _) _ _); refine wpList_load_row_w (by rfl) 25 _ rfl (w.heap.size + 1 + 1) rfl _ _ (0, 0) (.array 32 5) H2xx.out.2.2.1 Try.underlying25 rfl (by rw [HC.out.2.2.2.2.2.1]; kernel_rfl) ?_))
          rw [HC.out.1, HC.out.2.1]
          refine (less_any HC.out.2.2.2.2.2.2.1 HC.out.2.2.2.2.2.2.2.1).mono ?_
          rintro e w102 ⟨rfl, hb⟩
          rw [← HC.out.1, ← HC.out.2.1, HA.out.1]
          have H2xxx := hide (three_below H2xx.out hb)
          clear hb
          go_wp2_with fail
          go_ret
          exact ⟨rfl, H2xxx.out.2.2.2⟩
        · have d2 : decide (0 < D) = false := by simp; omega
          rw [d2] at hba
          have HA := hide (And.intro hab hba)
          clear hab hba
          go_wp2_with (first | ((with_reducible show wpList _ _ _ ({ dst := _, op := .load 25 _, type := _, pos := _, after := _, guard := _ } :: _) _ _); refine wpList_load_row_w (by rfl) 25 _ rfl (w.heap.size) rfl _ _ (0, 0) (.array 32 5) H2.out.1 Try.underlying25 rfl (by rw [HC.out.2.2.2.1]; kernel_rfl) ?_) | ((with_reducible show wpList _ _ _ ({ dst := _, op := .load 25 _, type := _, pos := _, after := _, guard := _ } :: _) _ _); refine wpList_load_row_w (by rfl) 25 _ rfl (w.heap.size + 1) rfl _ _ (0, 0) (.array 32 5) H2.out.2.1 Try.underlying25 rfl (by rw [HC.out.2.2.2.2.1]; kernel_rfl) ?_) | ((with_reducible show wpList _ _ _ ({ dst := _, op := .load 25 _, type := _, pos := _, after := _, guard := _ } :: _) _ _); refine wpList_load_row_w (by rfl) 25 _ rfl (w.heap.size + 1 + 1) rfl _ _ (0, 0) (.array 32 5) H2.out.2.2.1 Try.underlying25 rfl (by rw [HC.out.2.2.2.2.2.1]; kernel_rfl) ?_))
          rw [HC.out.1, HC.out.2.1]
          refine (less_any HC.out.2.2.2.2.2.2.1 HC.out.2.2.2.2.2.2.2.1).mono ?_
          rintro e w100 ⟨rfl, hb⟩
          rw [← HC.out.1, ← HC.out.2.1, HA.out.1]
          have H2x := hide (three_below H2.out hb)
          clear hb
          go_wp2_with (first | ((with_reducible show wpList _ _ _ ({ dst := _, op := .load 25 _, type := _, pos := _, after := _, guard := _ } :: _) _ _); refine wpList_load_row_w (by rfl) 25 _ rfl (w.heap.size) rfl _ _ (0, 0) (.array 32 5) H2x.out.1 Try.underlying25 rfl (by rw [HC.out.2.2.2.1]; kernel_rfl) ?_) | ((with_reducible show wpList _ _ _ ({ dst := _, op := .load 25 _, type := _, pos := _, after := _, guard := _ } :: _) _ _); refine wpList_load_row_w (by rfl) 25 _ rfl (w.heap.size + 1) rfl _ _ (0, 0) (.array 32 5) H2x.out.2.1 Try.underlying25 rfl (by rw [HC.out.2.2.2.2.1]; kernel_rfl) ?_) | ((with_reducible show wpList _ _ _ ({ dst := _, op := .load 25 _, type := _, pos := _, after := _, guard := _ } :: _) _ _); refine wpList_load_row_w (by rfl) 25 _ rfl (w.heap.size + 1 + 1) rfl _ _ (0, 0) (.array 32 5) H2x.out.2.2.1 Try.underlying25 rfl (by rw [HC.out.2.2.2.2.2.1]; kernel_rfl) ?_))
          rw [HC.out.2.1, HC.out.1]
          refine (less_any HC.out.2.2.2.2.2.2.2.1 HC.out.2.2.2.2.2.2.1).mono ?_
          rintro e w101 ⟨rfl, hb⟩
          rw [← HC.out.2.1, ← HC.out.1, HA.out.2]
          have H2xx := hide (three_below H2x.out hb)
          clear hb
          go_wp2_with (first | ((with_reducible show wpList _ _ _ ({ dst := _, op := .load 25 _, type := _, pos := _, after := _, guard := _ } :: _) _ _); refine wpList_load_row_w (by rfl) 25 _ rfl (w.heap.size) rfl _ _ (0, 0) (.array 32 5) H2xx.out.1 Try.underlying25 rfl (by rw [HC.out.2.2.2.1]; kernel_rfl) ?_) | ((with_reducible show wpList _ _ _ ({ dst := _, op := .load 25 _, type := _, pos := _, after := _, guard := _ } :: _) _ _); refine wpList_load_row_w (by rfl) 25 _ rfl (w.heap.size + 1) rfl _ _ (0, 0) (.array 32 5) H2xx.out.2.1 Try.underlying25 rfl (by rw [HC.out.2.2.2.2.1]; kernel_rfl) ?_) | ((with_reducible show wpList _ _ _ ({ dst := _, op := .load 25 _, type := _, pos := _, after := _, guard := _ } :: _) _ _); refine wpList_load_row_w (by rfl) 25 _ rfl (w.heap.size + 1 + 1) rfl _ _ (0, 0) (.array 32 5) H2xx.out.2.2.1 Try.underlying25 rfl (by rw [HC.out.2.2.2.2.2.1]; kernel_rfl) ?_))
          rw [HC.out.1, HC.out.2.1]
          refine (less_any HC.out.2.2.2.2.2.2.1 HC.out.2.2.2.2.2.2.2.1).mono ?_
          rintro e w102 ⟨rfl, hb⟩
          rw [← HC.out.1, ← HC.out.2.1, HA.out.1]
          have H2xxx := hide (three_below H2xx.out hb)
          clear hb
          go_wp2_with fail
          go_ret
          exact ⟨rfl, H2xxx.out.2.2.2⟩
end Go.Proofs.Ytmeilpehlkpofaa
