/-
  The walk of the law of the parses.
-/
import Derived.Test.YtmeilpehlkpofaaKeyEq
namespace Go.Proofs.Ytmeilpehlkpofaa
open Go.RowKit

theorem wpList_build_w {P : Program} {ops : Array Oper} {rest : List Oper} {o : Oper} {a : Act} {w : World} {Q : Exit → Act → World → Prop} (hw : Region.wanted o (yielded ops a.tmps) = true) (t : TypeId) (parts : Array (Nat × Operand)) (ho : o.op = .build t parts)
    (d : Option Tmp) (hd : o.dst = d) (cells : Array Value) (hf : P.built t (parts.map fun (i, x) => (i, a.eval x)).toList = some cells)
    (h : wpList P ops Q rest (a.put d (.agg cells)) w) : wpList P ops Q (o :: rest) a w := by
  subst hd
  exact wpList_step fun K hK => by simp only [hw, if_true]; exact wp_build t parts ho (by rw [hf]; rfl) (by rw [hf]; exact hK _ _ h)
theorem z32_zeros : ∃ l : List UInt8, l.length = 32 ∧ z32 = (u8s l).toArray := ⟨List.replicate 32 0, rfl, rfl⟩
set_option maxRecDepth 100000 in
set_option maxHeartbeats 1600000 in
theorem parses_any (w : World) (s : ByteArray) (hmax : s.size ≤ maxLen) :
    Calls Try.prog 8 #[.string s] w fun e w' => e = .returned (.bool true) ∧ Below w.heap.size w w' := by
  have hzk : ∀ w : World, (zeroValue 25).run Try.prog w = .ok (.agg z32) w := fun w => by kernel_rfl
  have hza : ∀ w : World, (zeroValue 24).run Try.prog w = .ok (.agg z32) w := fun w => by kernel_rfl
  have hm1 : (s.size : Int) ≤ 9223372036854775807 := by unfold maxLen at hmax; omega
  by_cases hbig : (1000 : Int) < (s.size : Int)
  · go_enter Try.func8, Try.ntmps8
    go_wp2_with fail
    refine (awake_any _).mono ?_
    rintro e w1 ⟨rfl, hb1⟩
    have H1 := hide hb1
    clear hb1
    go_wp2_with fail
    refine (awake_any _).mono ?_
    rintro e w2 ⟨rfl, hb2⟩
    have H2 := hide (H1.out.trans (hb2.mono H1.out.size))
    clear hb2
    go_wp2_with fail
    go_ret
    exact ⟨rfl, H2.out⟩
  · obtain ⟨l, hl⟩ : ∃ l, l = s.data.toList := ⟨_, rfl⟩
    have hs : s = ⟨l.toArray⟩ := by rw [hl]
    have hll : l.length ≤ 1000000 := by rw [hl]; have : s.data.toList.length = s.size := rfl; omega
    have HS := hide (And.intro hs hll)
    clear hl hs hll hmax
    go_enter Try.func8, Try.ntmps8
    go_wp2_with fail
    refine (awake_any _).mono ?_
    rintro e w1 ⟨rfl, hb1⟩
    have H1 := hide hb1
    clear hb1
    go_wp2_with fail
    refine (parse_any _ s l HS.out.1 HS.out.2).mono ?_
    rintro e w2 ⟨rfl, hb2⟩
    have H2 := hide (H1.out.trans (hb2.mono H1.out.size))
    clear hb2
    obtain ⟨ko, cs, hko, hcs⟩ : ∃ (ko : Option (List UInt8)) (cs : Array Value), ko = parse l ∧ cs = (u8s (ko.getD (List.replicate 32 0))).toArray := ⟨_, _, rfl, rfl⟩
    have hc32 : (ko.getD (List.replicate 32 0)).length = 32 := by
      cases hq : ko with
      | none => rfl
      | some k => rw [hq] at hko; exact (parse_text hko.symm).2
    have hcc := key_cells hc32
    rw [← hcs] at hcc
    have ht : Told (parse l) = .tuple #[.agg cs, .int .i64 (if ko.isSome then 0 else 2)] := by rw [← hko, hcs]; rfl
    have htr : ToldRef (parse l) = .tuple #[.agg cs, .bool ko.isSome] := by rw [← hko, hcs]; rfl
    rw [ht]
    have k1 := heap_alloc_new w2 (.cells z32 25)
    have HK := hide (And.intro hcc (And.intro hko (And.intro hcs (And.intro hc32 (And.intro htr k1)))))
    clear hcc hko hcs hc32 htr k1 ht
    obtain ⟨er, her⟩ : ∃ er : Int, er = (if ko.isSome then 0 else 2) := ⟨_, rfl⟩
    rw [← her]
    have HE := hide her
    clear her
    go_wp2_with ((with_reducible show wpList _ _ _ ({ dst := _, op := .store 25 _ _, type := _, pos := _, after := _, guard := _ } :: _) _ _); refine wpList_store_row rfl 25 _ _ rfl w2.heap.size cs rfl rfl _ _ HK.out.2.2.2.2.2 (by rw [HK.out.1.1]; kernel_rfl) (by rw [HK.out.1.1]; rfl) HK.out.1.2 ?_)
    refine (refparse_any _ s l HS.out.1 HS.out.2).mono ?_
    rintro e w3 ⟨rfl, hb3⟩
    rw [HK.out.2.2.2.2.1]
    have q1 : ((w2.alloc (.cells z32 25)).setRow w2.heap.size cs).heap[w2.heap.size]? = some (.cells cs 25 (0, 0)) := setRow_heap _ _ z32 _ _ _ HK.out.2.2.2.2.2
    have q2 : w3.heap[w2.heap.size]? = some (.cells cs 25 (0, 0)) := by rw [hb3.block _ (lt_of_block q1)]; exact q1
    have q3 : Below w.heap.size w w3 := (below_setRow (H2.out.alloc H2.out.size (.cells z32 25)) H2.out.size cs).trans (hb3.mono (by have := H2.out.size; simp; omega))
    have hne : w2.heap.size ≠ w3.heap.size := by have := lt_of_block q2; omega
    have q4 : ((w3.alloc (.cells z32 24)).setRow w3.heap.size cs).heap[w2.heap.size]? = some (.cells cs 25 (0, 0)) := by
      rw [setRow_other _ _ _ _ hne, Below.heap_alloc _ _ _ (lt_of_block q2)]; exact q2
    have q5 := heap_alloc_new w3 (.cells z32 24)
    have q6 : ((w3.alloc (.cells z32 24)).setRow w3.heap.size cs).heap[w3.heap.size]? = some (.cells cs 24 (0, 0)) := setRow_heap _ _ z32 _ _ _ q5
    have q7 : Below w.heap.size w ((w3.alloc (.cells z32 24)).setRow w3.heap.size cs) := below_setRow (q3.alloc q3.size _) q3.size _
    have H3 := hide (And.intro q4 (And.intro q5 (And.intro q6 q7)))
    clear q1 q2 q3 hne q4 q5 q6 q7 hb3
    cases hq : ko with
    | none =>
      have hcz : cs = z32 := by rw [HK.out.2.2.1, hq]; rfl
      have her : er = 2 := by rw [HE.out, hq]; rfl
      subst hcz her
      rw [show (none : Option (List UInt8)).isSome = false from rfl]
      have heq := fun w => run_eql_key w z32_zeros
      clear hq
      go_wp2_with (first
        | ((with_reducible show wpList _ _ _ ({ dst := _, op := .store 24 _ _, type := _, pos := _, after := _, guard := _ } :: _) _ _); refine wpList_store_row rfl 24 _ _ rfl w3.heap.size z32 rfl rfl _ _ H3.out.2.1 (by kernel_rfl) rfl z32_one ?_)
        | ((with_reducible show wpList _ _ _ ({ dst := _, op := .load 25 _, type := _, pos := _, after := _, guard := _ } :: _) _ _); refine wpList_load_row_w (by rfl) 25 _ rfl w2.heap.size rfl _ z32 (0, 0) (.array 32 5) H3.out.1 Try.underlying25 rfl (by kernel_rfl) ?_)
        | ((with_reducible show wpList _ _ _ ({ dst := _, op := .build 25 _, type := _, pos := _, after := _, guard := _ } :: _) _ _); refine wpList_build_w (by rfl) 25 _ rfl (some 31) rfl z32 (by kernel_rfl) ?_))
      go_ret
      exact ⟨rfl, H3.out.2.2.2⟩
    | some k =>
      have hck : cs = (u8s k).toArray := by rw [HK.out.2.2.1, hq]; rfl
      have her : er = 0 := by rw [HE.out, hq]; rfl
      subst her
      have hk := parse_text (HK.out.2.1.symm.trans hq)
      rw [show (some k : Option (List UInt8)).isSome = true from rfl]
      have heq := fun w => run_eql_arr w ⟨k, hk.2, hck⟩
      have HQ := hide (And.intro hck (And.intro hk hq))
      clear hck hk hq
      go_wp2_with (first
        | ((with_reducible show wpList _ _ _ ({ dst := _, op := .store 24 _ _, type := _, pos := _, after := _, guard := _ } :: _) _ _); refine wpList_store_row rfl 24 _ _ rfl w3.heap.size cs rfl rfl _ _ H3.out.2.1 (by rw [HK.out.1.1]; kernel_rfl) (by rw [HK.out.1.1]; rfl) HK.out.1.2 ?_)
        | ((with_reducible show wpList _ _ _ ({ dst := _, op := .load 25 _, type := _, pos := _, after := _, guard := _ } :: _) _ _); refine wpList_load_row_w (by rfl) 25 _ rfl w2.heap.size rfl _ cs (0, 0) (.array 32 5) H3.out.1 Try.underlying25 rfl (by rw [HK.out.1.1]; kernel_rfl) ?_)
        | ((with_reducible show wpList _ _ _ ({ dst := _, op := .load 24 _, type := _, pos := _, after := _, guard := _ } :: _) _ _); refine wpList_load_row_w (by rfl) 24 _ rfl w3.heap.size rfl _ cs (0, 0) (.array 32 5) H3.out.2.2.1 Try.underlying24 rfl (by rw [HK.out.1.1]; kernel_rfl) ?_))
      rw [HQ.out.1]
      refine (text_any _ k HQ.out.2.1.2).mono ?_
      rintro e w5 ⟨rfl, hb⟩
      rw [HQ.out.2.1.1, ← HS.out.1]
      rw [← HQ.out.1] at hb
      have H5 := hide (H3.out.2.2.2.trans (hb.mono H3.out.2.2.2.size))
      clear hb
      go_wp2_with fail
      go_ret
      exact ⟨rfl, H5.out⟩
end Go.Proofs.Ytmeilpehlkpofaa
