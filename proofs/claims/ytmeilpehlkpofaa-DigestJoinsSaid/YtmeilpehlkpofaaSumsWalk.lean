/-
  The walk of the law of the sums.
-/
import Derived.Test.YtmeilpehlkpofaaRefSum
import Derived.Test.YtmeilpehlkpofaaKeyEq
namespace Go.Proofs.Ytmeilpehlkpofaa
open Go.RowKit
open sha

theorem sum_arr (t : List UInt8) : ∃ l : List UInt8, l.length = 32 ∧ (u8s (sum t)).toArray = (u8s l).toArray := ⟨sum t, sum_length t, rfl⟩
theorem load_key {w : World} {g : Nat} {cs : Array Value} (hg : w.heap[g]? = some (.cells cs 25 (0, 0))) (hs : cs.size = 32) : (Instr.loadAt 25 (.pointer (some ⟨g, 0, none⟩))).run Try.prog w = .ok (.agg cs) w := by
  have h1 := run_loadVar_row (P := Try.prog) w g 25 25 cs (0, 0) (.array 32 5) hg Try.underlying25 rfl (by rw [hs]; kernel_rfl)
  simp only [Instr.loadAt, Instr.sureAddr, Sem.run_bind, Sem.run_pure, Result.andThen_ok, h1]
theorem quiet_load_row {P : Program} {ops : Array Oper} {C : World → Prop} {Q : Act → Prop} {rest : List Oper} {o : Oper} {a : Act} (hw : Region.wanted o (yielded ops a.tmps) = true) (ty : TypeId) (x : Operand) (ho : o.op = .load ty x)
    (g : Nat) (hx : a.eval x = .pointer (some ⟨g, 0, none⟩)) (t : TypeId) (cs : Array Value) (fr : Nat × Nat) (d : TypeDesc) (hg : ∀ w, C w → w.heap[g]? = some (.cells cs t fr))
    (hu : P.underlying ty = some d) (hd : (match d with | .struct _ | .array _ _ => true | _ => false) = true) (hi : (P.info? ty).map (·.size) = some cs.size)
    (h : wpQuiet P ops C Q rest (a.put o.dst (.agg cs))) : wpQuiet P ops C Q (o :: rest) a :=
  wpQuiet_step fun K hK => by
    simp only [hw, if_true]
    refine ⟨.agg cs, fun w hC => ?_, hK _ h⟩
    unfold Oper.quietAt execOp
    simp only [ho, hx, Instr.loadAt, Instr.sureAddr, Sem.run_bind, Sem.run_pure, Result.andThen_ok, run_loadVar_row w g t ty cs fr d (hg w hC) hu hd hi]
    exact ⟨rfl, rfl⟩
theorem quiet_conv {P : Program} {ops : Array Oper} {C : World → Prop} {Q : Act → Prop} {rest : List Oper} {o : Oper} {a : Act} (hw : Region.wanted o (yielded ops a.tmps) = true) (s d : TypeId) (x : Operand) (ho : o.op = .convert s d x)
    (v : Value) (hx : ∀ w, C w → (convert s d (a.eval x)).run P w = .ok v w)
    (h : wpQuiet P ops C Q rest (a.put o.dst v)) : wpQuiet P ops C Q (o :: rest) a :=
  wpQuiet_step fun K hK => by
    simp only [hw, if_true]
    refine ⟨v, fun w hC => ?_, hK _ h⟩
    unfold Oper.quietAt execOp
    simp only [ho, Sem.run_bind, hx w hC, Sem.run_pure, Result.andThen_ok]
    exact ⟨rfl, rfl⟩
set_option maxRecDepth 100000 in
set_option maxHeartbeats 1600000 in
theorem sums_any {w : World} {B n : Nat} {A : Option Addr} {t : List UInt8} (c : Nat) (hr : Rb w B A n t) (hB : B ≤ w.heap.size) (hn : n ≤ maxLen) :
    Calls Try.prog 3 #[.slice A n c] w fun e w' => e = .returned (.bool true) ∧ Below w.heap.size w w' := by
  have hzk : ∀ w : World, (zeroValue 25).run Try.prog w = .ok (.agg z32) w := fun w => by kernel_rfl
  have hm1 : (n : Int) ≤ 9223372036854775807 := by unfold maxLen at hn; omega
  by_cases hbig : (1000 : Int) < (n : Int)
  · clear hr hB hn
    go_enter Try.func3, Try.ntmps3
    go_wp2_with fail
    refine (awake_any _).mono ?_
    rintro e w1 ⟨rfl, hb1⟩
    have H1 := hide hb1
    clear hb1
    go_wp2_with fail
    refine (awake_any _).mono ?_
    rintro e w2 ⟨rfl, hb2⟩
    have H2 := hide (H1.out.trans (hb2.mono H1.out.size))
    clear hb2
    go_wp2_with fail
    go_ret
    exact ⟨rfl, H2.out⟩
  · have hlen := hr.len
    have HR := hide (And.intro hr (And.intro hB (And.intro hn hlen)))
    clear hr hB hn hlen
    go_enter Try.func3, Try.ntmps3
    go_wp2_with fail
    refine (awake_any _).mono ?_
    rintro e w1 ⟨rfl, hb1⟩
    have h1 := ((HR.out.1.below (hb1.mono HR.out.2.1)).alloc (Nat.le_trans HR.out.2.1 hb1.size) (.cells #[] 5))
    have H1 := hide (And.intro hb1 (And.intro h1 (And.intro (OwnB.empty w1 w.heap.size hb1.size) (hb1.alloc hb1.size (.cells #[] 5)))))
    clear hb1 h1
    go_wp2_with ((with_reducible show wpList _ _ _ ({ dst := _, op := .call { callee := .builtin .append, args := #[_, _], argTypes := #[_, _] }, type := _, pos := _, after := _, guard := _ } :: _) _ _); refine wpList_append_b rfl rfl H1.out.2.2.1 H1.out.2.1 (by omega) H1.out.2.2.2.size ?_; intro A1 c1 w2 hown hg; simp only [Nat.zero_add, List.nil_append] at hown; have hb2 := H1.out.2.2.2.grown hg H1.out.2.2.2.size (fun q hq => (H1.out.2.2.1.lt q hq).1); have H2 := hide (And.intro hown hb2); clear hown hg hb2)
    refine (sum_any c1 H2.out.1.rb (Nat.le_refl _) (by omega)).mono ?_
    rintro e w3 ⟨rfl, hb3⟩
    obtain ⟨cs, hcs⟩ : ∃ cs, cs = (u8s (sum t)).toArray := ⟨_, rfl⟩
    have hcc := key_cells (sum_length t)
    rw [← hcs] at hcc ⊢
    have k1 := heap_alloc_new w3 (.cells z32 25)
    obtain ⟨w4, hw4⟩ : ∃ w4, w4 = (w3.alloc (.cells z32 25)).setRow w3.heap.size cs := ⟨_, rfl⟩
    have k2 : w4.heap[w3.heap.size]? = some (.cells cs 25 (0, 0)) := by rw [hw4]; exact setRow_heap _ _ _ _ _ _ k1
    have hb34 : Below w2.heap.size w2 w4 := by rw [hw4]; exact below_setRow (hb3.alloc hb3.size _) hb3.size _
    have k3 : Rb w4 w2.heap.size A1 n t := H2.out.1.rb.below hb34
    have hb4 := H2.out.2.trans (hb34.mono H2.out.2.size)
    have k4 : Rb w4 B A n t := HR.out.1.below (hb4.mono HR.out.2.1)
    have H4 := hide (And.intro k1 (And.intro hw4 (And.intro k2 (And.intro k3 (And.intro hb4 (And.intro k4 (And.intro hcs (And.intro hcc hb34.size))))))))
    clear k1 hw4 k2 hb34 k3 hb4 k4 hcs hcc hb3
    go_wp2_with ((with_reducible show wpList _ _ _ ({ dst := _, op := .store 25 _ _, type := _, pos := _, after := _, guard := _ } :: _) _ _); refine wpList_store_rowTo rfl 25 _ _ rfl rfl w3.heap.size cs rfl rfl _ _ H4.out.1 (by rw [H4.out.2.2.2.2.2.2.2.1.1]; kernel_rfl) (by rw [H4.out.2.2.2.2.2.2.2.1.1]; rfl) H4.out.2.2.2.2.2.2.2.1.2 ?_; rw [← H4.out.2.1])
    obtain ⟨s, hs⟩ : ∃ s : ByteArray, s = ⟨t.toArray⟩ := ⟨_, rfl⟩
    have hcq : (u8s (sum t)).toArray = cs := H4.out.2.2.2.2.2.2.1.symm
    have heq := fun w => run_eql_arr w (by rw [H4.out.2.2.2.2.2.2.1]; exact sum_arr t : ∃ l : List UInt8, l.length = 32 ∧ cs = (u8s l).toArray)
    have hC : Below w4.heap.size w4 w4.drew := (Below.refl _ _).drew
    refine wp_region_quiet (C := fun w' => Below w4.heap.size w4 w') (by kernel_rfl) (by kernel_rfl) hC ?_
    refine quiet_load_row (by rfl) 25 _ rfl w3.heap.size rfl _ cs (0, 0) (.array 32 5) (fun w' hw' => by rw [hw'.block _ (lt_of_block H4.out.2.2.1)]; exact H4.out.2.2.1) Try.underlying25 rfl (by rw [H4.out.2.2.2.2.2.2.2.1.1]; kernel_rfl) ?_
    refine wpQuiet_step (fun K hK => ?_)
    go_simp
    refine ⟨_, fun _ _ => rfl, hK _ ?_⟩
    clear hK K
    refine wpQuiet_step (fun K hK => ?_)
    go_simp
    refine ⟨.agg cs, fun w' hw' => (refsum_any c (H4.out.2.2.2.2.2.1.below (hw'.mono (Nat.le_trans HR.out.2.1 H4.out.2.2.2.2.1.size))) (Nat.le_trans (Nat.le_trans HR.out.2.1 H4.out.2.2.2.2.1.size) hw'.size) (by omega)).mono ?_, hK _ ?_⟩
    · rintro e w5 ⟨rfl, hb5⟩
      exact ⟨by rw [hcq], hw'.trans (hb5.mono hw'.size)⟩
    clear hK K
    refine wpQuiet_step (fun K hK => ?_)
    go_simp
    refine ⟨_, fun _ _ => rfl, hK _ ?_⟩
    clear hK K
    refine wpQuiet_step (fun K hK => ?_)
    go_simp
    refine ⟨_, fun _ _ => rfl, hK _ ?_⟩
    clear hK K
    refine wpQuiet_step (fun K hK => ?_)
    go_simp
    refine ⟨_, fun _ _ => rfl, hK _ ?_⟩
    clear hK K
    refine quiet_conv (by rfl) 22 9 _ rfl (.string ⟨t.toArray⟩) (fun w' hw' => run_bytes_string Try.underlying22 Try.underlying5 Try.underlying9 c1 (H4.out.2.2.2.1.below (hw'.mono H4.out.2.2.2.2.2.2.2.2))) ?_
    refine wpQuiet_step (fun K hK => ?_)
    go_simp
    refine ⟨_, fun _ _ => rfl, hK _ ?_⟩
    clear hK K
    refine quiet_conv (by rfl) 22 9 _ rfl (.string ⟨t.toArray⟩) (fun w' hw' => run_bytes_string Try.underlying22 Try.underlying5 Try.underlying9 c (H4.out.2.2.2.2.2.1.below (hw'.mono (Nat.le_trans HR.out.2.1 H4.out.2.2.2.2.1.size)))) ?_
    refine wpQuiet_step (fun K hK => ?_)
    go_simp
    refine ⟨_, fun _ _ => rfl, hK _ ?_⟩
    clear hK K
    refine wpQuiet_step (fun K hK => ?_)
    go_simp
    refine ⟨_, fun _ _ => rfl, hK _ ?_⟩
    clear hK K
    refine wpQuiet_step (fun K hK => ?_)
    go_simp
    refine ⟨_, fun _ _ => rfl, hK _ ?_⟩
    clear hK K
    refine wpQuiet_nil ?_
    intro w' hw'
    have H5 := hide (H4.out.2.2.2.2.1.trans (hw'.mono H4.out.2.2.2.2.1.size))
    clear hw'
    go_wp2_with fail
    go_ret
    exact ⟨rfl, H5.out⟩
end Go.Proofs.Ytmeilpehlkpofaa
