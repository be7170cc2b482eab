/-
  The walks of New, step, Steps and Arm.
-/
import Derived.Test.YtlnmjkilefnjpaaFs
namespace Go.Proofs.Ytlnmjkilefnjpaa
open Go.RowKit Go.Maps

theorem new_fs (w : World) (room : Int) : Fs (((w.alloc (.map #[] 0)).alloc (.map #[] 0)).alloc (.cells (fsCells (newS room) ⟨none, 0, [], w.heap.size, w.heap.size + 1, none, 0, []⟩) 52)) w.heap.size (w.heap.size + 2) (newS room) := by
  refine ⟨⟨none, 0, [], w.heap.size, w.heap.size + 1, none, 0, []⟩, FsX.of ⟨⟨Nat.le_add_right _ _, Nat.le_refl _, Nat.le_add_right _ _, by simp, by simp; omega⟩, ?_, Fl.nil _ _, ?_, ?_, Cs.nil _ _, Wf.new room⟩⟩
  · have := heap_alloc_new ((w.alloc (.map #[] 0)).alloc (.map #[] 0)) (.cells (fsCells (newS room) ⟨none, 0, [], w.heap.size, w.heap.size + 1, none, 0, []⟩) 52)
    simpa using this
  · exact ((World.ownsMap_made w _ _ _).alloc _).alloc _
  · have := (World.ownsMap_made (H := Unit) (w.alloc (.map #[] 0)) Try.prog 9 (plainElem Try.prog 3)).alloc (.cells (fsCells (newS room) ⟨none, 0, [], w.heap.size, w.heap.size + 1, none, 0, []⟩) 52)
    rw [World.size_alloc] at this
    exact this
theorem new_any (room : Int) (w : World) (h1 : 1 ≤ room) (h2 : room ≤ 1048576) :
    Calls Try.prog 9 #[.int .i64 room] w fun e w' => e = .returned (.tuple #[ptr (w.heap.size + 2), .int .i64 0]) ∧ Fs w' w.heap.size (w.heap.size + 2) (newS room) ∧ Below w.heap.size w w' := by
  have hmm := @run_makeMap Try.prog
  have hF := hide (new_fs w room)
  go_enter Try.func9, Try.ntmps9
  go_wp2
  go_ret2
  refine ⟨rfl, hF.out, ?_⟩
  exact (((Below.refl _ _).alloc (Nat.le_refl _) _).alloc (by simp) _).alloc (by simp; omega) _

/-! ### the block's cells -/
section
variable {w w' : World} {N b : Nat} {s : St} {X : Lay}
theorem FsX.c0 (h : FsX w N b s X) : w.cell? ⟨b, 0, none⟩ = some (.int .i64 (s.steps : Int)) := by rw [cell_of_row _ _ _ _ _ _ h.blk]; rfl
theorem FsX.c1 (h : FsX w N b s X) : w.cell? ⟨b, 1, none⟩ = some (.int .i64 s.left) := by rw [cell_of_row _ _ _ _ _ _ h.blk]; rfl
theorem FsX.c2 (h : FsX w N b s X) : w.cell? ⟨b, 2, none⟩ = some (.slice none 0 0) := by rw [cell_of_row _ _ _ _ _ _ h.blk]; rfl
theorem FsX.c3 (h : FsX w N b s X) : w.cell? ⟨b, 3, none⟩ = some (.int .i64 s.room) := by rw [cell_of_row _ _ _ _ _ _ h.blk]; rfl
theorem FsX.c4 (h : FsX w N b s X) : w.cell? ⟨b, 4, none⟩ = some (.slice X.FA s.files.length X.fc) := by rw [cell_of_row _ _ _ _ _ _ h.blk]; rfl
theorem FsX.c5 (h : FsX w N b s X) : w.cell? ⟨b, 5, none⟩ = some (.map (some X.db)) := by rw [cell_of_row _ _ _ _ _ _ h.blk]; rfl
theorem FsX.c6 (h : FsX w N b s X) : w.cell? ⟨b, 6, none⟩ = some (.map (some X.sb)) := by rw [cell_of_row _ _ _ _ _ _ h.blk]; rfl
theorem FsX.c7 (h : FsX w N b s X) : w.cell? ⟨b, 7, none⟩ = some (.slice X.CA s.chg.length X.cc) := by rw [cell_of_row _ _ _ _ _ _ h.blk]; rfl
theorem FsX.fz (h : FsX w N b s X) (j : Nat) : w.frozen? ⟨b, j, none⟩ = false := frozen_of_row _ _ _ _ _ h.blk
theorem FsX.stepped (h : FsX w N b s X) : FsX ((w.setCell ⟨b, 1, none⟩ (.int .i64 (max (s.left - 1) (-1)))).setCell ⟨b, 0, none⟩ (.int .i64 ((s.steps : Int) + 1))) N b s.step X := by
  refine h.cells (grown_setCell (grown_setCell (World.grownBy.refl _ _))) rfl rfl rfl rfl ?_ h.wf.step
  rw [heap_setCell_same _ _ _ _ _ _ (heap_setCell_same _ _ _ _ _ _ h.blk)]
  simp [fsCells, St.step]
theorem FsX.armed (h : FsX w N b s X) {n : Int} (h0 : 0 ≤ n) (h1 : n ≤ 1000000000) : FsX (w.setCell ⟨b, 1, none⟩ (.int .i64 n)) N b (s.arm n) X := by
  refine h.cells (grown_setCell (World.grownBy.refl _ _)) rfl rfl rfl rfl ?_ ⟨h.wf.dir, h.wf.sure, h.wf.chg, h.wf.data, by show -1 ≤ n ∧ n ≤ 1000000000; omega⟩
  rw [heap_setCell_same _ _ _ _ _ _ h.blk]
  simp [fsCells, St.arm]
end

set_option maxHeartbeats 400000 in
theorem step_dead {w : World} {N b : Nat} {s : St} {X : Lay} (h : FsX w N b s X) (h0 : s.left = 0) :
    Calls Try.prog 24 #[ptr b] w fun e w' => e = .returned (.tuple #[.int .i64 0, .int .i64 22]) ∧ w = w' := by
  have c1 := h.c1
  rw [h0] at c1
  clear h0 h
  unfold ptr
  go_enter Try.func24, Try.ntmps24
  go_wp2
  go_ret2
  exact ⟨rfl, rfl⟩
set_option maxHeartbeats 400000 in
theorem step_alive {w : World} {N b : Nat} {s : St} {X : Lay} (h : FsX w N b s X) (h0 : s.left ≠ 0) (hs : s.steps ≤ 1000000000) :
    Calls Try.prog 24 #[ptr b] w fun e w' => e = .returned (.tuple #[.int .i64 0, .int .i64 0]) ∧ FsX w' N b s.step X ∧ w.grownBy w' (some b) ∧ w'.heap.size = w.heap.size := by
  have c0 := h.c0
  have c1 := h.c1
  have c2 := h.c2
  have f0 := h.fz 0
  have f1 := h.fz 1
  have hl := h.wf.left.1
  have hl2 := h.wf.left.2
  have hlt := h.lt
  have hst := h.stepped
  have hg : w.grownBy ((w.setCell ⟨b, 1, none⟩ (.int .i64 (max (s.left - 1) (-1)))).setCell ⟨b, 0, none⟩ (.int .i64 ((s.steps : Int) + 1))) (some b) := grown_setCell (grown_setCell (World.grownBy.refl _ _))
  have hd : (s.left == 0) = false := by simpa using h0
  have H := hide (And.intro hst hg)
  clear h hst hg
  unfold ptr
  go_enter Try.func24, Try.ntmps24
  go_wp2
  go_ret2
  exact ⟨rfl, H.out.1, H.out.2, by simp⟩
theorem steps_any {w : World} {N b : Nat} {s : St} {X : Lay} (h : FsX w N b s X) :
    Calls Try.prog 21 #[ptr b] w fun e w' => e = .returned (.int .i64 (s.steps : Int)) ∧ w = w' := by
  have c0 := h.c0
  clear h
  unfold ptr
  go_enter Try.func21, Try.ntmps21
  go_wp2
  go_ret
  exact ⟨rfl, rfl⟩
theorem arm_dead {w : World} {N b : Nat} {s : St} {X : Lay} {n : Int} (h : FsX w N b s X) (h0 : s.left = 0) (hn : 0 ≤ n) :
    Calls Try.prog 22 #[ptr b, .int .i64 n] w fun e w' => e = .returned (.int .i64 22) ∧ w = w' := by
  have c1 := h.c1
  rw [h0] at c1
  clear h h0
  unfold ptr
  go_enter Try.func22, Try.ntmps22
  go_wp2
  go_ret
  exact ⟨rfl, rfl⟩
theorem arm_alive {w : World} {N b : Nat} {s : St} {X : Lay} {n : Int} (h : FsX w N b s X) (h0 : s.left ≠ 0) (hn : 0 ≤ n) (hn2 : n ≤ 1000000000) :
    Calls Try.prog 22 #[ptr b, .int .i64 n] w fun e w' => e = .returned (.int .i64 0) ∧ FsX w' N b (s.arm n) X ∧ Below N w w' := by
  have c1 := h.c1
  have f1 := h.fz 1
  have hd : (s.left == 0) = false := by simpa using h0
  have H := hide (And.intro (h.armed hn hn2) ((Below.refl N w).setCell (p := ⟨b, 1, none⟩) h.lo.1 (.int .i64 n)))
  clear h h0
  unfold ptr
  go_enter Try.func22, Try.ntmps22
  go_wp2
  go_ret
  exact ⟨rfl, H.out⟩
end Go.Proofs.Ytlnmjkilefnjpaa
