/-
  Keys are equal to themselves, as the model compares arrays.
-/
import Derived.Test.YtmeilpehlkpofaaRefParse
import Derived.Test.YtmeilpehlkpofaaOrdersWalk
import Derived.DeepKeys
namespace Go.Proofs.Ytmeilpehlkpofaa
open Go.RowKit

theorem mapM_some {α β : Type} {f : α → Option β} : ∀ (L : List α), (∀ i ∈ L, ∃ y, f i = some y) → ∃ ys, L.mapM f = some ys
  | [], _ => ⟨[], rfl⟩
  | x :: L, h => by
    obtain ⟨y, hy⟩ := h x (by simp)
    obtain ⟨ys, hys⟩ := mapM_some L (fun i hi => h i (by simp [hi]))
    exact ⟨y :: ys, by rw [List.mapM_cons, hy, hys]; rfl⟩
theorem keyLits_u8s {t : TypeId} (ht : Try.prog.underlying t = some (.array 32 5)) (hc : Try.prog.cellsOf t = 32) (l : List UInt8) (hl : l.length = 32) : ∃ la, Try.prog.keyLits 2 t (u8s l) = some la := by
  have hc1 : Try.prog.cellsOf 5 = 1 := by kernel_rfl
  unfold Program.keyLits
  simp only [ht]
  rw [if_pos (by rw [u8s_length, hl, hc])]
  obtain ⟨ys, hys⟩ := mapM_some (f := fun i => Try.prog.keyLits 1 5 (((u8s l).drop (i * Try.prog.cellsOf 5)).take (Try.prog.cellsOf 5))) (List.range 32) (fun i hi => by
    have hi32 : i < l.length := by rw [hl]; simpa using hi
    rw [hc1, Nat.mul_one]
    have e : ((u8s l).drop i).take 1 = [.int .u8 (l[i].toNat : Int)] := by
      rw [u8s_drop, List.drop_eq_getElem_cons hi32]; rfl
    rw [e]
    have bx := l[i].toNat_lt
    refine ⟨[.int .u8 (l[i].toNat : Int)], ?_⟩
    unfold Program.keyLits
    simp only [Try.underlying5]
    rw [if_pos ⟨trivial, by simp [Lit.wf, IntKind.min, IntKind.max, IntKind.signed, IntKind.bits]; omega⟩])
  exact ⟨ys.flatten, by rw [hys]; rfl⟩
theorem run_equalIn_key {t : TypeId} (ht : Try.prog.underlying t = some (.array 32 5)) (hc : Try.prog.cellsOf t = 32) (hk : Try.prog.keyTypeAt 2 t = true) {cs : Array Value} (w : World) (h : ∃ l : List UInt8, l.length = 32 ∧ cs = (u8s l).toArray) :
    (Go.Op.equalIn 10000 t (.agg cs) (.agg cs)).run Try.prog w = .ok true w := by
  obtain ⟨l, hl, rfl⟩ := h
  obtain ⟨la, hla⟩ := keyLits_u8s ht hc l hl
  have hf : (Value.agg (u8s l).toArray).formed Try.prog t = true := by
    simp only [Value.formed, ht]
    rw [List.size_toArray, u8s_length, hl, hc]; rfl
  obtain ⟨r, hr, hiff⟩ := run_equalIn_deep (P := Try.prog) 9998 2 t hk w 2 2 _ _ la la hf hf hla hla
  rw [hiff.2 rfl] at hr
  exact hr
theorem run_eql_key (w : World) {cs : Array Value} (h : ∃ l : List UInt8, l.length = 32 ∧ cs = (u8s l).toArray) : (Go.Op.equalIn 10000 25 (.agg cs) (.agg cs)).run Try.prog w = .ok true w :=
  run_equalIn_key Try.underlying25 (by kernel_rfl) (by kernel_rfl) w h
theorem run_eql_arr (w : World) {cs : Array Value} (h : ∃ l : List UInt8, l.length = 32 ∧ cs = (u8s l).toArray) : (Go.Op.equalIn 10000 24 (.agg cs) (.agg cs)).run Try.prog w = .ok true w :=
  run_equalIn_key Try.underlying24 (by kernel_rfl) (by kernel_rfl) w h
set_option maxRecDepth 100000 in
set_option maxHeartbeats 1600000 in
theorem texts_any (w : World) (k : List UInt8) (hk : k.length = 32) :
    Calls Try.prog 7 #[.agg (u8s k).toArray] w fun e w' => e = .returned (.bool true) ∧ Below w.heap.size w w' := by
  obtain ⟨ca, hca⟩ : ∃ ca, ca = (u8s k).toArray := ⟨_, rfl⟩
  have hz : ∀ w : World, (zeroValue 25).run Try.prog w = .ok (.agg z32) w := fun w => by kernel_rfl
  have hcc := key_cells hk
  rw [← hca] at hcc ⊢
  have hs := parse_hexText hk
  obtain ⟨s, hs'⟩ : ∃ s : ByteArray, s = ⟨(hexText k).toArray⟩ := ⟨_, rfl⟩
  have h0 : (w.alloc (.cells ca 25)).heap[w.heap.size]? = some (.cells ca 25 (0, 0)) := heap_alloc_new w _
  have hb0 : Below w.heap.size w (w.alloc (.cells ca 25)) := (Below.refl _ _).alloc (Nat.le_refl _) _
  have HC := hide (And.intro hca (And.intro hcc (And.intro hk (And.intro hs (And.intro hs' (And.intro h0 hb0))))))
  clear hca hcc hk hs hs' h0 hb0
  go_enter Try.func7, Try.ntmps7
  go_wp2_with fail
  refine (awake_any _).mono ?_
  rintro e w1 ⟨rfl, hb⟩
  have hh : w1.heap[w.heap.size]? = some (.cells ca 25 (0, 0)) := by rw [hb.block _ (by simp)]; exact HC.out.2.2.2.2.2.1
  have hb := HC.out.2.2.2.2.2.2.trans (hb.mono (by simp))
  have H1 := hide (And.intro hh hb)
  clear hh hb
  go_wp2_with ((with_reducible show wpList _ _ _ ({ dst := _, op := .load 25 _, type := _, pos := _, after := _, guard := _ } :: _) _ _); refine wpList_load_row rfl 25 _ rfl _ rfl _ ca (0, 0) (.array 32 5) H1.out.1 Try.underlying25 rfl (by rw [HC.out.2.1.1]; kernel_rfl) ?_)
  rw [HC.out.1]
  refine (text_any _ k HC.out.2.2.1).mono ?_
  rintro e w2 ⟨rfl, hb⟩
  rw [← HC.out.1, ← HC.out.2.2.2.2.1]
  have hh : w2.heap[w.heap.size]? = some (.cells ca 25 (0, 0)) := by rw [hb.block _ (lt_of_block H1.out.1)]; exact H1.out.1
  have hb := H1.out.2.trans (hb.mono H1.out.2.size)
  have H2 := hide (And.intro hh hb)
  clear hh hb
  go_wp2_with fail
  refine (parse_any _ s (hexText k) HC.out.2.2.2.2.1 (by rw [hexText_length, HC.out.2.2.1]; omega)).mono ?_
  rintro e w3 ⟨rfl, hb⟩
  rw [HC.out.2.2.2.1, told_some, ← HC.out.1]
  have hh : w3.heap[w.heap.size]? = some (.cells ca 25 (0, 0)) := by rw [hb.block _ (lt_of_block H2.out.1)]; exact H2.out.1
  have hb := H2.out.2.trans (hb.mono H2.out.2.size)
  have hne : w.heap.size ≠ w3.heap.size := by have := lt_of_block hh; omega
  have hh3 : ((w3.alloc (.cells z32 25)).setRow w3.heap.size ca).heap[w.heap.size]? = some (.cells ca 25 (0, 0)) := by
    rw [setRow_other _ _ _ _ hne, Below.heap_alloc _ _ _ (lt_of_block hh)]; exact hh
  have hh4 : ((w3.alloc (.cells z32 25)).setRow w3.heap.size ca).heap[w3.heap.size]? = some (.cells ca 25 (0, 0)) := setRow_heap _ _ z32 _ _ _ (heap_alloc_new w3 _)
  have hb5 : Below w.heap.size w ((w3.alloc (.cells z32 25)).setRow w3.heap.size ca) := below_setRow (hb.alloc hb.size _) hb.size _
  have H3 := hide (And.intro hh3 (And.intro hh4 (And.intro hb5 (heap_alloc_new w3 (.cells z32 25)))))
  clear hh hb hh3 hh4 hb5 hne
  go_wp2_with (first
    | ((with_reducible show wpList _ _ _ ({ dst := _, op := .store 25 _ _, type := _, pos := _, after := _, guard := _ } :: _) _ _); refine wpList_store_row rfl 25 _ _ rfl w3.heap.size ca rfl rfl _ _ H3.out.2.2.2 (by rw [HC.out.2.1.1]; kernel_rfl) (by rw [HC.out.2.1.1]; rfl) HC.out.2.1.2 ?_)
    | ((with_reducible show wpList _ _ _ ({ dst := _, op := .load 25 _, type := _, pos := _, after := _, guard := _ } :: _) _ _); refine wpList_load_row_w (by rfl) 25 _ rfl w.heap.size rfl _ ca (0, 0) (.array 32 5) H3.out.1 Try.underlying25 rfl (by rw [HC.out.2.1.1]; kernel_rfl) ?_))
  rw [HC.out.1]
  refine (reftext_any _ k HC.out.2.2.1).mono ?_
  rintro e w5 ⟨rfl, hb⟩
  rw [← HC.out.1, ← HC.out.2.2.2.2.1]
  rw [← HC.out.1] at hb
  have hh5 : w5.heap[w.heap.size]? = some (.cells ca 25 (0, 0)) := by rw [hb.block _ (lt_of_block H3.out.1)]; exact H3.out.1
  have hh6 : w5.heap[w3.heap.size]? = some (.cells ca 25 (0, 0)) := by rw [hb.block _ (lt_of_block H3.out.2.1)]; exact H3.out.2.1
  have hb := H3.out.2.2.1.trans (hb.mono H3.out.2.2.1.size)
  have H5 := hide (And.intro hh5 (And.intro hh6 hb))
  have heq := fun w => run_eql_key w ⟨k, HC.out.2.2.1, HC.out.1⟩
  clear hh5 hh6 hb
  go_wp2_with (first
    | ((with_reducible show wpList _ _ _ ({ dst := _, op := .load 25 _, type := _, pos := _, after := _, guard := _ } :: _) _ _); refine wpList_load_row_w (by rfl) 25 _ rfl w.heap.size rfl _ ca (0, 0) (.array 32 5) H5.out.1 Try.underlying25 rfl (by rw [HC.out.2.1.1]; kernel_rfl) ?_)
    | ((with_reducible show wpList _ _ _ ({ dst := _, op := .load 25 _, type := _, pos := _, after := _, guard := _ } :: _) _ _); refine wpList_load_row_w (by rfl) 25 _ rfl w3.heap.size rfl _ ca (0, 0) (.array 32 5) H5.out.2.1 Try.underlying25 rfl (by rw [HC.out.2.1.1]; kernel_rfl) ?_))
  go_ret
  exact ⟨rfl, H5.out.2.2⟩
end Go.Proofs.Ytmeilpehlkpofaa
