/-
  The walk of turn.
-/
import Derived.Test.YtlnmjkilefnjpaaDo
namespace Go.Proofs.Ytlnmjkilefnjpaa
open Go.RowKit Go.Maps

theorem Try.infoChg : (Try.prog.info? 72).map (fun i => (i.zero, i.size, i.bytes)) = some (some (.slice none 0 0), 1, 24) := by kernel_rfl
theorem Try.infoFile : (Try.prog.info? 59).map (fun i => (i.zero, i.size, i.bytes)) = some (some (.pointer none), 1, 8) := by kernel_rfl
/-- A block of other cells is not the map's, nor the file system's own. -/
theorem FsM.afterDir {w w1 : World} {N b : Nat} {s : St} {X : Lay} {l : Dir} (h : FsM w N b s X) (hd : Dr w1 X.db l) (hg : w.grownBy w1 (some X.db)) : FsM w1 N b { s with dir := l } X := by
  obtain ⟨es, c, hm⟩ := h.dir.block
  have hbd : b ≠ X.db := by intro e; rw [← e, h.blk] at hm; cases hm
  have hs : Same (Of (flT ++ csT)) w w1 := Same.of_grown hg hm not_of_map
  have q1 : ∀ o, Of flT o → Of (flT ++ csT) o := fun o ⟨a, t, f, e, ht⟩ => ⟨a, t, f, e, List.mem_append_left _ ht⟩
  have q2 : ∀ o, Of csT o → Of (flT ++ csT) o := fun o ⟨a, t, f, e, ht⟩ => ⟨a, t, f, e, List.mem_append_right _ ht⟩
  refine ⟨⟨h.lo.1, h.lo.2.1, h.lo.2.2.1, h.lo.2.2.2.1, Nat.le_trans h.lo.2.2.2.2 hg.size⟩, ?_, h.fl.same (hs.less q1), hd, ?_, h.cs.same (hs.less q2)⟩
  · rw [hg.block _ (lt_of_block h.blk) (by intro e; injection e with e; exact hbd e)]; exact h.blk
  · exact h.sure.kept hg (by intro e; injection e with e; exact h.lo.2.2.2.1 e.symm)
theorem FsX.afterDir {w w1 : World} {N b : Nat} {s : St} {X : Lay} {l : Dir} (h : FsX w N b s X) (hd : Dr w1 X.db l) (hg : w.grownBy w1 (some X.db)) (hl : ∀ p ∈ l, p.2 < s.files.length) : FsX w1 N b { s with dir := l } X :=
  ⟨h.toFsM.afterDir hd hg, ⟨hl, h.wf.sure, h.wf.chg, h.wf.data, h.wf.left⟩⟩
/-- The row of the changes has grown: the rest stays. -/
theorem FsX.afterChg {w w3 : World} {N b c' : Nat} {s : St} {X : Lay} {c : Chg} {v : Value} {A' : Option Addr} (h : FsX w N b s X) (hv : ChAt w N v c) (hc : ∀ p ∈ c, p.2 < (s.files.length : Int)) (hg : w.grownBy w3 (Value.slice X.CA s.chg.length X.cc).ownBlock)
    (hrow : w3.ownsRow N 72 1 (.slice A' (s.chg.length + 1) c') (s.chg.length + 1) (X.cs ++ [v])) :
    w3.heap[b]? = some (.cells (fsCells s X) 52 (0, 0)) ∧ FsX (w3.setCell ⟨b, 7, none⟩ (.slice A' (s.chg.length + 1) c')) N b { s with chg := s.chg ++ [c] } { X with CA := A', cc := c', cs := X.cs ++ [v] } ∧ Below N w w3 := by
  have s1 : Same (Of (flT ++ [52])) w w3 := Same.of_row hg (owns_not h.cs.row (by decide))
  have hb3 : w3.heap[b]? = some (.cells (fsCells s X) 52 (0, 0)) := s1 _ _ h.blk ⟨_, _, _, rfl, by simp⟩
  have hgs : w3.grownBy (w3.setCell ⟨b, 7, none⟩ (.slice A' (s.chg.length + 1) c')) (some b) := grown_setCell (World.grownBy.refl _ _)
  have hbel : Below N w w3 := (Below.refl N w).grown hg h.lo.2.2.2.2 (fun q hq => (h.cs.row.lt q hq).1)
  have maps : ∀ d : Nat, (∃ es c, w.heap[d]? = some (Obj.map es c)) → w3.heap[d]? = w.heap[d]? := by
    rintro d ⟨es, c, hd⟩
    refine hg.block _ (lt_of_block hd) fun e => ?_
    rcases h.cs.row.2 with ⟨hv, _⟩ | ⟨g, cap, cur, hv, _, hgg, _⟩
    · rw [hv] at e; cases e
    · rw [hv] at e
      have : d = g := by simpa [Value.ownBlock] using e
      rw [this, hgg] at hd
      cases hd
  have maps2 : ∀ d : Nat, (∃ es c, w.heap[d]? = some (Obj.map es c)) → (w3.setCell ⟨b, 7, none⟩ (.slice A' (s.chg.length + 1) c')).heap[d]? = w.heap[d]? := by
    rintro d ⟨es, c, hd⟩
    rw [hgs.block d (by have := lt_of_block hd; have := hg.size; omega) (by intro e; injection e with e; rw [e, h.blk] at hd; cases hd)]
    exact maps d ⟨es, c, hd⟩
  have s2 : Same (Of (flT ++ csT)) w3 (w3.setCell ⟨b, 7, none⟩ (.slice A' (s.chg.length + 1) c')) := Same.of_grown hgs hb3 (not_of (by decide))
  have q1 : ∀ o, Of flT o → Of (flT ++ csT) o := fun o ⟨a, t, f, e, ht⟩ => ⟨a, t, f, e, List.mem_append_left _ ht⟩
  have q2 : ∀ o, Of csT o → Of (flT ++ csT) o := fun o ⟨a, t, f, e, ht⟩ => ⟨a, t, f, e, List.mem_append_right _ ht⟩
  have q3 : ∀ o, Of flT o → Of (flT ++ [52]) o := fun o ⟨a, t, f, e, ht⟩ => ⟨a, t, f, e, List.mem_append_left _ ht⟩
  refine ⟨hb3, FsX.of ⟨⟨h.lo.1, h.lo.2.1, h.lo.2.2.1, h.lo.2.2.2.1, by rw [World.size_setCell]; exact Nat.le_trans h.lo.2.2.2.2 hg.size⟩, ?_, (h.fl.same (s1.less q3)).same (s2.less q1), h.dir.same (maps2 _ h.dir.block), h.sure.same (maps2 _ h.sure.block), ?_, ⟨h.wf.dir, h.wf.sure, ?_, h.wf.data, h.wf.left⟩⟩, hbel⟩
  · rw [heap_setCell_same _ _ _ _ _ _ hb3]
    simp [fsCells]
  · have := (h.cs.snoc hv hg hrow).same (s2.less q2)
    simpa using this
  · intro d hd
    rcases List.mem_append.1 hd with hd | hd
    · exact h.wf.chg d hd
    · rw [List.mem_singleton.1 hd]; exact hc
set_option maxHeartbeats 800000 in
theorem turn_any {w : World} {N b : Nat} {s : St} {X : Lay} {v : Value} {c : Chg} (h : FsX w N b s X) (hv : ChAt w N v c) (hc : Okc c) (hi : ∀ p ∈ c, p.2 < (s.files.length : Int)) (hl : s.dir.length + c.length ≤ 1000000) (hn : s.chg.length ≤ 1000000) :
    Calls Try.prog 25 #[ptr b, v] w fun e w' => e = .returned (.tuple #[]) ∧ Fs w' N b (s.turn c) ∧ Below N w w' := by
  have c5 := h.c5
  obtain ⟨g, cap, rfl, hrest⟩ := hv
  have hv : ChAt w N (.slice (some ⟨g, 0, none⟩) c.length cap) c := ⟨g, cap, rfl, hrest⟩
  have H := hide (And.intro h (And.intro hv (And.intro hc (And.intro hi (And.intro hl hn)))))
  obtain ⟨i0, q1, q2, q3, q4⟩ := info_parts Try.infoChg
  have HI := hide (And.intro q1 (And.intro q2 (And.intro q3 q4)))
  clear h hv hc hi hl hn q1 q2 q3 q4 hrest
  unfold ptr
  go_enter Try.func25, Try.ntmps25
  go_wp2_with fail
  refine (do_any H.out.1.dir H.out.2.1 H.out.2.2.1 H.out.2.2.2.2.1).mono ?_
  rintro e w1 ⟨rfl, hd1, hg1⟩
  have h1 := H.out.1.afterDir hd1 hg1 (doL_idx c H.out.2.2.2.1 s.dir H.out.1.wf.dir)
  obtain ⟨es, cl, hm⟩ := H.out.1.dir.block
  have hv1 : ChAt w1 N (.slice (some ⟨g, 0, none⟩) c.length cap) c := H.out.2.1.same (Same.of_grown hg1 hm not_of_map)
  have hbw1 : Below N w w1 := below_grown hg1 H.out.1.lo.2.1 H.out.1.dir.lt
  have hb2 : Below w1.heap.size w1 (w1.alloc (.cells #[.slice (some ⟨g, 0, none⟩) c.length cap] 72)) := (Below.refl _ _).alloc (Nat.le_refl _) _
  have h2 := h1.below hb2
  have hv2 : ChAt (w1.alloc (.cells #[.slice (some ⟨g, 0, none⟩) c.length cap] 72)) N (.slice (some ⟨g, 0, none⟩) c.length cap) c := hv1.same (Same.of_below hb2)
  have c7 := h1.c7
  have hr := Rd.one w1 (.slice (some ⟨g, 0, none⟩) c.length cap) 72
  have hbw2 := hbw1.trans (hb2.mono h1.lo.2.2.2.2)
  have H2 := hide (And.intro h2 (And.intro hv2 (And.intro hr hbw2)))
  clear hd1 hg1 h1 hm hv1 hbw1 hb2 h2 hv2 hr hbw2
  go_wp2_with ((with_reducible show wpList _ _ _ ({ dst := _, op := .call { callee := .builtin .append, args := #[_, _], argTypes := #[50, 50] }, type := _, pos := _, after := _, guard := _ } :: _) _ _); refine wpList_append_g Try.underlying50 HI.out.1 HI.out.2.1 HI.out.2.2.1 HI.out.2.2.2 rfl (by decide) rfl rfl H2.out.1.cs.row H2.out.2.2.1 (by intro u hu; simp at hu; subst hu; rfl) (by have := H.out.2.2.2.2.2; unfold maxLen; omega) (by have := H.out.2.2.2.2.2; omega) H2.out.1.lo.2.2.2.2 ?_; intro A3 c3 w3 hown3 hg3; have H3 := hide (H2.out.1.afterChg H2.out.2.1 H.out.2.2.2.1 hg3 hown3); clear hown3 hg3; have f7 := frozen_of_row w3 b 7 _ _ H3.out.1; have c7 := cell_of_row w3 b 7 _ _ _ H3.out.1; simp only [fsCells] at c7)
  have h3 := H3.out.2.1
  have hbw := (H2.out.2.2.2.trans H3.out.2.2).setCell (p := ⟨b, 7, none⟩) H.out.1.lo.1 (.slice A3 (s.chg.length + 1) c3)
  exact bodyPost_end (v := .tuple #[]) (by simp [results, Try.results25, go_sem]) rfl ⟨rfl, ⟨_, h3⟩, hbw⟩
end Go.Proofs.Ytlnmjkilefnjpaa
