/-
  The walk of Create.
-/
import Derived.Test.YtlnmjkilefnjpaaRename
namespace Go.Proofs.Ytlnmjkilefnjpaa
open Go.RowKit Go.Maps

theorem Wf.file {s : St} (h : Wf s) : Wf { s with files := s.files ++ [([], 0)] } := by
  refine ⟨fun p hp => ?_, fun p hp => ?_, fun c hc p hp => ?_, fun f hf => ?_, h.left⟩
  · have := h.dir p hp; simp; omega
  · have := h.sure p hp; simp; omega
  · have := h.chg c hc p hp; simp; omega
  · rcases List.mem_append.1 hf with hf | hf
    · exact h.data f hf
    · rw [List.mem_singleton.1 hf]; exact Nat.le_refl _
/-- The row of the files has grown by a file that lies at g. -/
theorem FsM.afterFile {w0 w w2 w3 : World} {N b c' g : Nat} {s : St} {X : Lay} {dv : Value} {f : Bs × Nat} {A' : Option Addr} (h : FsM w N b s X) (hfl0 : Fl w0 N (.slice X.FA s.files.length X.fc) X.es s.files) (hs0 : Same (Of flT) w0 w2) (hb2 : Below w.heap.size w w2) (hgw : w0.heap.size ≤ g) (hF : FileAt w2 N (g, dv) f) (hd : ∀ x, dv.ownBlock = some x → w0.heap.size ≤ x)
    (hg : w2.grownBy w3 (Value.slice X.FA s.files.length X.fc).ownBlock) (hrow : w3.ownsRow N 59 1 (.slice A' (s.files.length + 1) c') (s.files.length + 1) (X.es.map (fun e => ptr e.1) ++ [ptr g])) :
    w3.heap[b]? = some (.cells (fsCells s X) 52 (0, 0)) ∧ FsM (w3.setCell ⟨b, 4, none⟩ (.slice A' (s.files.length + 1) c')) N b { s with files := s.files ++ [f] } { X with FA := A', fc := c', es := X.es ++ [(g, dv)] } ∧ Below N w w3 := by
  have h2 := h.below hb2
  have s1 : Same (Of (csT ++ [52])) w2 w3 := Same.of_row hg (owns_not h2.fl.row (by decide))
  have hb3 : w3.heap[b]? = some (.cells (fsCells s X) 52 (0, 0)) := s1 _ _ h2.blk ⟨_, _, _, rfl, by simp⟩
  have hgs : w3.grownBy (w3.setCell ⟨b, 4, none⟩ (.slice A' (s.files.length + 1) c')) (some b) := grown_setCell (World.grownBy.refl _ _)
  have hbel : Below N w w3 := (hb2.mono h.lo.2.2.2.2).grown hg (Nat.le_trans h.lo.2.2.2.2 hb2.size) (fun q hq => (h2.fl.row.lt q hq).1)
  have maps2 : ∀ d : Nat, (∃ es c, w2.heap[d]? = some (Obj.map es c)) → (w3.setCell ⟨b, 4, none⟩ (.slice A' (s.files.length + 1) c')).heap[d]? = w2.heap[d]? := by
    rintro d ⟨es, c, hd⟩
    rw [hgs.block d (by have := lt_of_block hd; have := hg.size; omega) (by intro e; injection e with e; rw [e, h2.blk] at hd; cases hd)]
    exact hg.block _ (lt_of_block hd) fun e => row_other h2.fl.row hd (fun a f e0 => by cases e0) e.symm
  have s2 : Same (Of (flT ++ csT)) w3 (w3.setCell ⟨b, 4, none⟩ (.slice A' (s.files.length + 1) c')) := Same.of_grown hgs hb3 (not_of (by decide))
  have q1 : ∀ o, Of flT o → Of (flT ++ csT) o := fun o ⟨a, t, f, e, ht⟩ => ⟨a, t, f, e, List.mem_append_left _ ht⟩
  have q2 : ∀ o, Of csT o → Of (flT ++ csT) o := fun o ⟨a, t, f, e, ht⟩ => ⟨a, t, f, e, List.mem_append_right _ ht⟩
  have q3 : ∀ o, Of csT o → Of (csT ++ [52]) o := fun o ⟨a, t, f, e, ht⟩ => ⟨a, t, f, e, List.mem_append_left _ ht⟩
  have hfl := (hfl0.snoc hs0 hgw hg hrow hF hd).same (s2.less q1)
  refine ⟨hb3, ⟨⟨h.lo.1, h.lo.2.1, h.lo.2.2.1, h.lo.2.2.2.1, by rw [World.size_setCell]; exact Nat.le_trans h2.lo.2.2.2.2 hg.size⟩, ?_, ?_, h2.dir.same (maps2 _ h2.dir.block), h2.sure.same (maps2 _ h2.sure.block), (h2.cs.same (s1.less q3)).same (s2.less q2)⟩, hbel⟩
  · rw [heap_setCell_same _ _ _ _ _ _ hb3]
    simp [fsCells]
  · have e1 : (s.files ++ [f]).length = s.files.length + 1 := by simp
    show Fl _ N (.slice A' (s.files ++ [f]).length c') _ _
    rw [e1]
    exact hfl
theorem FsX.afterFile {w w2 w3 : World} {N b c' g : Nat} {s : St} {X : Lay} {dv : Value} {f : Bs × Nat} {A' : Option Addr} (h : FsX w N b s X) (hb2 : Below w.heap.size w w2) (hgw : w.heap.size ≤ g) (hF : FileAt w2 N (g, dv) f) (hd : ∀ x, dv.ownBlock = some x → w.heap.size ≤ x)
    (hg : w2.grownBy w3 (Value.slice X.FA s.files.length X.fc).ownBlock) (hrow : w3.ownsRow N 59 1 (.slice A' (s.files.length + 1) c') (s.files.length + 1) (X.es.map (fun e => ptr e.1) ++ [ptr g])) (hwf : Wf { s with files := s.files ++ [f] }) :
    w3.heap[b]? = some (.cells (fsCells s X) 52 (0, 0)) ∧ FsX (w3.setCell ⟨b, 4, none⟩ (.slice A' (s.files.length + 1) c')) N b { s with files := s.files ++ [f] } { X with FA := A', fc := c', es := X.es ++ [(g, dv)] } ∧ Below N w w3 := by
  have := h.toFsM.afterFile h.fl (Same.of_below hb2) hb2 hgw hF hd hg hrow
  exact ⟨this.1, ⟨this.2.1, hwf⟩, this.2.2⟩
set_option maxHeartbeats 400000 in
theorem create_bad {w : World} {N b : Nat} {s : St} {k : Bs} (h : Fs w N b s) (hk : k.length ≤ 1000000) (hg : good k = false) :
    Calls Try.prog 10 #[ptr b, tx k] w fun e w' => e = .returned (.int .i64 7) ∧ Fs w' N b s ∧ Below N w w' := by
  obtain ⟨X, h⟩ := h
  have hb : Below w.heap.size w (w.alloc (.cells #[tx k] 9)) := (Below.refl _ _).alloc (Nat.le_refl _) _
  have c5 := h.c5
  obtain ⟨v0, t0, hv0, ht0⟩ : ∃ (v0 : Int) (t0 : Bool), v0 = (((dget s.dir k).getD 0 : Nat) : Int) ∧ t0 = (dget s.dir k).isSome := ⟨_, _, rfl, rfl⟩
  have H := hide (And.intro (h.below hb) (And.intro hk (And.intro hg (And.intro (hb.mono h.hN) (And.intro h.dir (And.intro hv0 ht0))))))
  clear h hk hg hb hv0 ht0
  unfold ptr
  go_enter Try.func10, Try.ntmps10
  go_wp2_with (at_lookup; refine wpList_dget_ok rfl H.out.2.2.2.2.1 rfl H.out.2.1 ?_; rw [← H.out.2.2.2.2.2.1, ← H.out.2.2.2.2.2.2])
  refine (named1_no H.out.2.1 H.out.2.2.1).mono ?_
  rintro e w1 ⟨rfl, rfl⟩
  go_wp2_with fail
  go_ret
  exact ⟨rfl, ⟨_, H.out.1⟩, H.out.2.2.2.1⟩
set_option maxHeartbeats 400000 in
theorem create_full {w : World} {N b : Nat} {s : St} {k : Bs} (h : Fs w N b s) (hk : k.length ≤ 1000000) (hg : good k = true) (hd : dget s.dir k = none) (hf : 64 ≤ s.dir.length) :
    Calls Try.prog 10 #[ptr b, tx k] w fun e w' => e = .returned (.int .i64 8) ∧ Fs w' N b s ∧ Below N w w' := by
  obtain ⟨X, h⟩ := h
  have hb : Below w.heap.size w (w.alloc (.cells #[tx k] 9)) := (Below.refl _ _).alloc (Nat.le_refl _) _
  have h1 := h.below hb
  have c5 := h.c5
  have c5' := h1.c5
  have hfi : (64 : Int) ≤ (s.dir.length : Int) := by omega
  have H := hide (And.intro h1 (And.intro hk (And.intro hg (And.intro (hb.mono h.hN) (And.intro h.dir hd)))))
  clear h hk hg hb hd h1 hf
  unfold ptr
  go_enter Try.func10, Try.ntmps10
  go_wp2_with (at_lookup; refine wpList_dget_none rfl H.out.2.2.2.2.1 rfl H.out.2.1 H.out.2.2.2.2.2 ?_)
  refine (named1_yes H.out.2.1 H.out.2.2.1).mono ?_
  rintro e w1 ⟨rfl, rfl⟩
  go_wp2_with (at_len; refine wpList_dlen rfl H.out.1.dir ?_)
  go_ret
  exact ⟨rfl, ⟨_, H.out.1⟩, H.out.2.2.2.1⟩
set_option maxHeartbeats 400000 in
theorem create_dead {w : World} {N b : Nat} {s : St} {k : Bs} (h : Fs w N b s) (hk : k.length ≤ 1000000) (hg : good k = true) (hd : dget s.dir k = none) (hf : s.dir.length < 64) (h0 : s.left = 0) :
    Calls Try.prog 10 #[ptr b, tx k] w fun e w' => e = .returned (.int .i64 22) ∧ Fs w' N b s ∧ Below N w w' := by
  obtain ⟨X, h⟩ := h
  have hb : Below w.heap.size w (w.alloc (.cells #[tx k] 9)) := (Below.refl _ _).alloc (Nat.le_refl _) _
  have h1 := h.below hb
  have c5 := h.c5
  have c5' := h1.c5
  have hfi : (s.dir.length : Int) < 64 := by omega
  have H := hide (And.intro h1 (And.intro hk (And.intro hg (And.intro (hb.mono h.hN) (And.intro h.dir (And.intro hd h0))))))
  clear h hk hg hb hd h1 hf h0
  unfold ptr
  go_enter Try.func10, Try.ntmps10
  go_wp2_with (at_lookup; refine wpList_dget_none rfl H.out.2.2.2.2.1 rfl H.out.2.1 H.out.2.2.2.2.2.1 ?_)
  refine (named1_yes H.out.2.1 H.out.2.2.1).mono ?_
  rintro e w1 ⟨rfl, rfl⟩
  go_wp2_with (at_len; refine wpList_dlen rfl H.out.1.dir ?_)
  refine (step_dead H.out.1 H.out.2.2.2.2.2.2).mono ?_
  rintro e w1 ⟨rfl, rfl⟩
  go_wp2_with fail
  go_ret
  exact ⟨rfl, ⟨_, H.out.1⟩, H.out.2.2.2.1⟩
set_option maxHeartbeats 800000 in
theorem create_ok {w : World} {N b : Nat} {s : St} {k : Bs} (h : Fs w N b s) (hk : k.length ≤ 1000000) (hg : good k = true) (hd : dget s.dir k = none) (hf : s.dir.length < 64) (h0 : s.left ≠ 0) (hs : s.steps ≤ 1000000000) (hn : s.chg.length ≤ 1000000) (hm : s.files.length ≤ 1000000) :
    Calls Try.prog 10 #[ptr b, tx k] w fun e w' => e = .returned (.int .i64 0) ∧ Fs w' N b (s.create k) ∧ Below N w w' := by
  obtain ⟨X, h⟩ := h
  have hb : Below w.heap.size w (w.alloc (.cells #[tx k] 9)) := (Below.refl _ _).alloc (Nat.le_refl _) _
  have h1 := h.below hb
  have c5 := h.c5
  have c5' := h1.c5
  have hfi : (s.dir.length : Int) < 64 := by omega
  have H := hide (And.intro h1 (And.intro hk (And.intro hg (And.intro (hb.mono h.hN) (And.intro h.dir (And.intro hd h0))))))
  have HL := hide (And.intro hs (And.intro hn (And.intro hm hf)))
  have hfl : (s.files.length : Int) ≤ 1000000 := by omega
  obtain ⟨i0, q1, q2, q3, q4⟩ := info_parts Try.infoFile
  have HI := hide (And.intro q1 (And.intro q2 (And.intro q3 q4)))
  clear h hk hg hb hd h1 hf h0 hs hn hm q1 q2 q3 q4
  unfold ptr
  go_enter Try.func10, Try.ntmps10
  go_wp2_with (at_lookup; refine wpList_dget_none rfl H.out.2.2.2.2.1 rfl H.out.2.1 H.out.2.2.2.2.2.1 ?_)
  refine (named1_yes H.out.2.1 H.out.2.2.1).mono ?_
  rintro e w1 ⟨rfl, rfl⟩
  go_wp2_with (at_len; refine wpList_dlen rfl H.out.1.dir ?_)
  refine (step_alive H.out.1 H.out.2.2.2.2.2.2 HL.out.1).mono ?_
  rintro e w2 ⟨rfl, h2, hg2, hz2⟩
  have hb2 : Below N w w2 := H.out.2.2.2.1.trans (below_grown hg2 H.out.1.lo.1 H.out.1.lt)
  have c4 : w2.cell? ⟨b, 4, none⟩ = some (.slice X.FA s.files.length X.fc) := h2.c4
  have hb3 : Below w2.heap.size w2 (w2.alloc (.cells #[.slice none 0 0, .int .i64 0] 61)) := (Below.refl _ _).alloc (Nat.le_refl _) _
  have hb4 : Below w2.heap.size w2 ((w2.alloc (.cells #[.slice none 0 0, .int .i64 0] 61)).alloc (.cells #[ptr w2.heap.size] 59)) := hb3.alloc hb3.size _
  have hF : FileAt ((w2.alloc (.cells #[.slice none 0 0, .int .i64 0] 61)).alloc (.cells #[ptr w2.heap.size] 59)) N (w2.heap.size, .slice none 0 0) ([], 0) :=
    ⟨h2.hN, by rw [Below.heap_alloc _ _ _ (by simp)]; exact heap_alloc_new _ _, World.ownsRow_nil _ _ _ _⟩
  have hr := Rd.one (w2.alloc (.cells #[.slice none 0 0, .int .i64 0] 61)) (ptr w2.heap.size) 59
  rw [World.size_alloc] at hr
  have h4 := h2.below hb4
  have H2 := hide (And.intro h2 (And.intro hb2 (And.intro hb4 (And.intro hF (And.intro hr h4)))))
  clear h2 hg2 hz2 hb2 hb3 hb4 hF hr h4
  unfold ptr at H2
  go_wp2_with ((with_reducible show wpList _ _ _ ({ dst := _, op := .call { callee := .builtin .append, args := #[_, _], argTypes := #[48, 48] }, type := _, pos := _, after := _, guard := _ } :: _) _ _); refine wpList_append_g Try.underlying48 HI.out.1 HI.out.2.1 HI.out.2.2.1 HI.out.2.2.2 rfl (by decide) rfl rfl H2.out.2.2.2.2.2.fl.row H2.out.2.2.2.2.1 (by intro u hu; simp at hu; subst hu; rfl) (by have := HL.out.2.2.1; show s.files.length + 1 ≤ _; unfold maxLen; omega) (by have := HL.out.2.2.1; show (s.files.length + 1) * _ ≤ _; omega) H2.out.2.2.2.2.2.hN ?_; intro A3 c3 w3 hown3 hg3; have H3 := hide (H2.out.1.afterFile H2.out.2.2.1 (Nat.le_refl _) H2.out.2.2.2.1 (by intro x hx; cases hx) hg3 hown3 H2.out.1.wf.file); clear hown3 hg3; have f4 := frozen_of_row w3 b 4 _ _ H3.out.1; have c4 := cell_of_row w3 b 4 _ _ _ H3.out.1; simp only [fsCells] at c4)
  obtain ⟨w4, hw4⟩ : ∃ w4, w4 = w3.setCell ⟨b, 4, none⟩ (.slice A3 (s.files.length + 1) c3) := ⟨_, rfl⟩
  have h4 := H3.out.2.1
  have hb4 : Below N w w4 := by rw [hw4]; exact (H2.out.2.1.trans H3.out.2.2).setCell (p := ⟨b, 4, none⟩) H2.out.1.lo.1 _
  rw [show s.step.files.length = s.files.length from rfl, ← hw4] at h4
  have hz4 : w3.heap.size = w4.heap.size := by rw [hw4, World.size_setCell]
  have hb5 : Below w4.heap.size w4 (w4.alloc (.cells (chs [(k, (s.files.length : Int))]).toArray 64)) := (Below.refl _ _).alloc (Nat.le_refl _) _
  have hch : ChAt (w4.alloc (.cells (chs [(k, (s.files.length : Int))]).toArray 64)) N (.slice (some ⟨w4.heap.size, 0, none⟩) 1 1) [(k, (s.files.length : Int))] := ⟨w4.heap.size, 1, rfl, Nat.le_refl _, h4.hN, heap_alloc_new _ _⟩
  have h5 := h4.below hb5
  have hT := turn_any h5 hch (by
      intro p hp
      rw [List.mem_singleton.1 hp]
      have := HL.out.2.2.1
      exact ⟨H.out.2.1, by show (-1000000000 : Int) ≤ (s.files.length : Int); omega, by show (s.files.length : Int) ≤ 1000000000; omega⟩) (by
      intro p hp
      rw [List.mem_singleton.1 hp]
      show (s.files.length : Int) < ((s.step.files ++ [([], 0)]).length : Int)
      rw [List.length_append]
      show (s.files.length : Int) < ((s.files.length + 1 : Nat) : Int)
      omega) (by have := HL.out.2.2.2; show s.dir.length + 1 ≤ 1000000; omega) HL.out.2.1
  have hbw := hb4.trans (hb5.mono h4.hN)
  rw [hw4, World.size_setCell] at hT
  rw [hw4] at hbw
  have HT := hide (And.intro hT hbw)
  clear hT hbw h5 hch hb5 hz4 h4 hb4 hw4
  refine HT.out.1.mono ?_
  rintro e w6 ⟨rfl, h6, hb6⟩
  have H6 := hide (And.intro h6 (HT.out.2.trans hb6))
  clear h6 hb6
  go_wp2_with fail
  go_ret
  exact ⟨rfl, H6.out⟩
end Go.Proofs.Ytlnmjkilefnjpaa
