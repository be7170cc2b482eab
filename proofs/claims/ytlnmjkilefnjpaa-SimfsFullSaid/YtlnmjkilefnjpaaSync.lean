/-
  A file's block is written; the walks of Read, Sync, SyncDir.
-/
import Derived.Test.YtlnmjkilefnjpaaUsed
namespace Go.Proofs.Ytlnmjkilefnjpaa
open Go.RowKit Go.Maps

theorem row_other {w : World} {N n k : Nat} {v : Value} {e : TypeId} {xs : List Value} (h : w.ownsRow N e k v n xs) {g : Nat} {o : Obj} (hg : w.heap[g]? = some o) (ho : ∀ a f, o ≠ .cells a e f) : v.ownBlock ≠ some g := by
  intro e1
  rcases h.2 with ⟨rfl, _⟩ | ⟨g', cap, cur, rfl, _, hgg, _⟩
  · cases e1
  · have : g' = g := by simpa [Value.ownBlock] using e1
    subst this
    rw [hgg] at hg
    injection hg with hg
    exact ho _ _ hg.symm
theorem FsX.hN {w : World} {N b : Nat} {s : St} {X : Lay} (h : FsX w N b s X) : N ≤ w.heap.size := h.lo.2.2.2.2
/-- One file is written: its bytes' row, then its block. -/
theorem FsX.fileMod {w w2 w3 : World} {N b i : Nat} {s : St} {X : Lay} {v2 : Value} {e : Nat × Value} {f f2 : Bs × Nat} (h : FsX w N b s X) (he : X.es[i]? = some e) (hf : s.files[i]? = some f)
    (hg : w.grownBy w2 e.2.ownBlock) (hg3 : w2.grownBy w3 (some e.1)) (hF : FileAt w3 N (e.1, v2) f2) (hv : ∀ x, v2.ownBlock = some x → e.2.ownBlock = some x ∨ w.heap.size ≤ x) {g : Bs × Nat → Bs × Nat} (hgf : g f = f2) (hok : ∀ f : Bs × Nat, f.2 ≤ f.1.length → (g f).2 ≤ (g f).1.length) :
    FsX w3 N b { s with files := s.files.modify i g } { X with es := X.es.set i (e.1, v2) } ∧ Below N w w3 := by
  have hFi := h.fl.at_ i e f he hf
  have keep : ∀ (k : Nat) (o : Obj), w.heap[k]? = some o → (∀ a f, o ≠ .cells a 5 f) → k ≠ e.1 → w3.heap[k]? = some o := by
    intro k o hk h1 h2
    have hk2 : w2.heap[k]? = some o := by rw [hg.block k (lt_of_block hk) (fun e0 => row_other hFi.row hk h1 e0.symm)]; exact hk
    rw [hg3.block k (lt_of_block hk2) (by intro e; injection e with e; exact h2 e)]
    exact hk2
  have hbe : b ≠ e.1 := by
    intro e0
    have h1 := hFi.blk
    rw [← e0, h.blk] at h1
    injection h1 with h1
    injection h1 with _ h1
    exact absurd h1 (by decide)
  have hmap : ∀ d : Nat, (∃ es c, w.heap[d]? = some (Obj.map es c)) → w3.heap[d]? = w.heap[d]? := by
    rintro d ⟨es, c, hd⟩
    rw [hd]
    refine keep d _ hd (fun a f => by simp) ?_
    intro e0
    have h1 := hFi.blk
    rw [← e0, hd] at h1
    cases h1
  have hcs : Same (Of csT) w w3 := by
    rintro k o hk ⟨a, t, fr, rfl, ht⟩
    refine keep k _ hk (fun a' f' e0 => ?_) ?_
    · injection e0 with _ e0
      subst e0
      exact absurd ht (by decide)
    · intro e0
      have h1 := hFi.blk
      rw [← e0, hk] at h1
      injection h1 with h1
      injection h1 with _ h1
      subst h1
      exact absurd ht (by decide)
  have hb1 : Below N w w2 := (Below.refl N w).grown hg h.lo.2.2.2.2 (fun q hq => (hFi.row.lt q hq).1)
  have hb2 : Below N w2 w3 := below_grown hg3 hFi.lo (Nat.lt_of_lt_of_le (lt_of_block hFi.blk) hg.size)
  have hz := Nat.le_trans hg.size hg3.size
  refine ⟨FsX.of ⟨⟨h.lo.1, h.lo.2.1, h.lo.2.2.1, h.lo.2.2.2.1, Nat.le_trans h.lo.2.2.2.2 hz⟩, ?_, ?_, h.dir.same (hmap _ h.dir.block), h.sure.same (hmap _ h.sure.block), h.cs.same hcs, h.wf.mod i hok⟩, hb1.trans hb2⟩
  · rw [keep b _ h.blk (fun a f e0 => by injection e0 with _ e0; exact absurd e0 (by decide)) hbe]
    simp [fsCells]
  · have := h.fl.mod he hf hg hg3 hF hv hgf
    rw [← List.length_modify g s.files i] at this
    exact this
theorem FsX.synced {w : World} {N b i : Nat} {s : St} {X : Lay} {e : Nat × Value} {f : Bs × Nat} (h : FsX w N b s X) (he : X.es[i]? = some e) (hf : s.files[i]? = some f) :
    FsX (w.setCell ⟨e.1, 1, none⟩ (.int .i64 (f.1.length : Int))) N b { s with files := s.files.modify i fun f => (f.1, f.1.length) } { X with es := X.es.set i (e.1, e.2) } ∧ Below N w (w.setCell ⟨e.1, 1, none⟩ (.int .i64 (f.1.length : Int))) := by
  have hFi := h.fl.at_ i e f he hf
  refine h.fileMod he hf (World.grownBy.refl w _) (grown_setCell (World.grownBy.refl w _)) ⟨hFi.lo, ?_, ?_⟩ (fun x hx => .inl hx) rfl (fun f _ => Nat.le_refl _)
  · rw [heap_setCell_same _ _ _ _ _ _ hFi.blk]; rfl
  · exact hFi.row.kept (grown_setCell (World.grownBy.refl w _)) (.inr (row_other hFi.row hFi.blk fun a f e0 => by injection e0 with _ e0; exact absurd e0 (by decide)))
set_option maxHeartbeats 400000 in
theorem sync_ok {w : World} {N b i : Nat} {s : St} {k : Bs} (h : Fs w N b s) (hk : k.length ≤ 1000000) (hg : good k = true) (hd : dget s.dir k = some i) (hs : s.steps ≤ 1000000000) (h0 : s.left ≠ 0) :
    Calls Try.prog 14 #[ptr b, tx k] w fun e w' => e = .returned (.int .i64 0) ∧ Fs w' N b (s.sync i) ∧ Below N w w' := by
  obtain ⟨X, h⟩ := h
  obtain ⟨e, f, he, hf, hF⟩ := h.fl.get (h.wf.dir (k, i) (dget_mem hd))
  have H := hide (And.intro h (And.intro hk (And.intro hg (And.intro hd (And.intro hs (And.intro h0 (And.intro he hf)))))))
  clear h hk hg hd hs h0 he hf hF
  unfold ptr
  go_enter Try.func14, Try.ntmps14
  go_wp2_with fail
  refine (open_some H.out.1 H.out.2.1 H.out.2.2.1 H.out.2.2.2.1 H.out.2.2.2.2.2.2.1).mono ?_
  rintro e' w1 ⟨rfl, h1, hb1⟩
  have H1 := hide (And.intro h1 (hb1.mono H.out.1.lo.2.2.2.2))
  clear h1 hb1
  unfold ptr
  go_wp2_with fail
  refine (step_alive H1.out.1 H.out.2.2.2.2.2.1 H.out.2.2.2.2.1).mono ?_
  rintro e' w2 ⟨rfl, h2, hg2, hz2⟩
  have hF2 := h2.fl.at_ i e f H.out.2.2.2.2.2.2.1 H.out.2.2.2.2.2.2.2
  obtain ⟨A, c, hv, _, _⟩ := hF2.val
  have d0 : w2.cell? ⟨e.1, 0, none⟩ = some (.slice A f.1.length c) := by rw [cell_of_row _ _ _ _ _ _ hF2.blk, ← hv]; rfl
  have f1 : w2.frozen? ⟨e.1, 1, none⟩ = false := frozen_of_row _ _ _ _ _ hF2.blk
  have d1 : w2.cell? ⟨e.1, 1, none⟩ = some (.int .i64 (f.2 : Int)) := by rw [cell_of_row _ _ _ _ _ _ hF2.blk]; rfl
  have h3 := h2.synced H.out.2.2.2.2.2.2.1 H.out.2.2.2.2.2.2.2
  have H2 := hide (And.intro h3.1 ((H1.out.2.trans (below_grown hg2 H1.out.1.lo.1 H1.out.1.lt)).trans h3.2))
  clear h2 hg2 hz2 hF2 hv h3
  go_wp2_with fail
  go_ret
  exact ⟨rfl, ⟨_, H2.out.1⟩, H2.out.2⟩
set_option maxHeartbeats 400000 in
theorem sync_dead {w : World} {N b i : Nat} {s : St} {k : Bs} (h : Fs w N b s) (hk : k.length ≤ 1000000) (hg : good k = true) (hd : dget s.dir k = some i) (h0 : s.left = 0) :
    Calls Try.prog 14 #[ptr b, tx k] w fun e w' => e = .returned (.int .i64 22) ∧ Fs w' N b s ∧ Below N w w' := by
  obtain ⟨X, h⟩ := h
  obtain ⟨e, f, he, hf, hF⟩ := h.fl.get (h.wf.dir (k, i) (dget_mem hd))
  have H := hide (And.intro h (And.intro hk (And.intro hg (And.intro hd (And.intro h0 he)))))
  clear h hk hg hd h0 he hf hF
  unfold ptr
  go_enter Try.func14, Try.ntmps14
  go_wp2_with fail
  refine (open_some H.out.1 H.out.2.1 H.out.2.2.1 H.out.2.2.2.1 H.out.2.2.2.2.2).mono ?_
  rintro e' w1 ⟨rfl, h1, hb1⟩
  have H1 := hide (And.intro h1 (hb1.mono H.out.1.hN))
  clear h1 hb1
  unfold ptr
  go_wp2_with fail
  refine (step_dead H1.out.1 H.out.2.2.2.2.1).mono ?_
  rintro e' w2 ⟨rfl, rfl⟩
  go_wp2_with fail
  go_ret
  exact ⟨rfl, ⟨_, H1.out.1⟩, H1.out.2⟩
set_option maxHeartbeats 400000 in
theorem syncdir_dead {w : World} {N b : Nat} {s : St} (h : Fs w N b s) (h0 : s.left = 0) :
    Calls Try.prog 15 #[ptr b] w fun e w' => e = .returned (.int .i64 22) ∧ Fs w' N b s ∧ Below N w w' := by
  obtain ⟨X, h⟩ := h
  have H := hide (And.intro h h0)
  clear h h0
  unfold ptr
  go_enter Try.func15, Try.ntmps15
  go_wp2_with fail
  refine (step_dead H.out.1 H.out.2).mono ?_
  rintro e' w2 ⟨rfl, rfl⟩
  go_wp2_with fail
  go_ret
  exact ⟨rfl, ⟨_, H.out.1⟩, Below.refl _ _⟩
/-- The directory is sure: a new map, no changes. -/
theorem FsX.syncedDir {w w1 : World} {N b : Nat} {s : St} {X : Lay} (h : FsX w N b s X) (hd : Dr w1 w.heap.size s.dir) (hb : Below w.heap.size w w1) (hz : w1.heap.size = w.heap.size + 1) :
    w1.heap[b]? = some (.cells (fsCells s X) 52 (0, 0)) ∧
    FsX ((w1.setCell ⟨b, 6, none⟩ (.map (some w.heap.size))).setCell ⟨b, 7, none⟩ (.slice none 0 0)) N b { s with sure := s.dir, chg := [] } { X with sb := w.heap.size, CA := none, cc := 0, cs := [] } ∧
    Below N w ((w1.setCell ⟨b, 6, none⟩ (.map (some w.heap.size))).setCell ⟨b, 7, none⟩ (.slice none 0 0)) := by
  have h1 := h.below hb
  have hgs : w1.grownBy ((w1.setCell ⟨b, 6, none⟩ (.map (some w.heap.size))).setCell ⟨b, 7, none⟩ (.slice none 0 0)) (some b) := grown_setCell (grown_setCell (World.grownBy.refl _ _))
  have s2 : Same (Of (flT ++ csT)) w1 ((w1.setCell ⟨b, 6, none⟩ (.map (some w.heap.size))).setCell ⟨b, 7, none⟩ (.slice none 0 0)) := Same.of_grown hgs h1.blk (not_of (by decide))
  have q1 : ∀ o, Of flT o → Of (flT ++ csT) o := fun o ⟨a, t, f, e, ht⟩ => ⟨a, t, f, e, List.mem_append_left _ ht⟩
  have maps : ∀ d : Nat, (∃ es c, w1.heap[d]? = some (Obj.map es c)) → ((w1.setCell ⟨b, 6, none⟩ (.map (some w.heap.size))).setCell ⟨b, 7, none⟩ (.slice none 0 0)).heap[d]? = w1.heap[d]? := by
    rintro d ⟨es, c, hd⟩
    exact hgs.block d (lt_of_block hd) (by intro e; injection e with e; rw [e, h1.blk] at hd; cases hd)
  refine ⟨h1.blk, FsX.of ⟨⟨h.lo.1, h.lo.2.1, h.lo.2.2.2.2, ?_, ?_⟩, ?_, h1.fl.same (s2.less q1), h1.dir.same (maps _ h1.dir.block), hd.same (maps _ hd.block), Cs.nil _ _, ⟨h.wf.dir, h.wf.dir, (by intro c hc; cases hc), h.wf.data, h.wf.left⟩⟩, ?_⟩
  · have := h.dir.lt; show X.db ≠ w.heap.size; omega
  · have := h.hN; simp; omega
  · rw [heap_setCell_same _ _ _ _ _ _ (heap_setCell_same _ _ _ _ _ _ h1.blk)]
    simp [fsCells]
  · exact (((hb.mono h.hN)).setCell (p := ⟨b, 6, none⟩) h.lo.1 _).setCell (p := ⟨b, 7, none⟩) h.lo.1 _
set_option maxHeartbeats 400000 in
theorem syncdir_ok {w : World} {N b : Nat} {s : St} (h : Fs w N b s) (hs : s.steps ≤ 1000000000) (h0 : s.left ≠ 0) :
    Calls Try.prog 15 #[ptr b] w fun e w' => e = .returned (.int .i64 0) ∧ Fs w' N b s.syncDir ∧ Below N w w' := by
  obtain ⟨X, h⟩ := h
  have H := hide (And.intro h (And.intro h0 hs))
  clear h h0 hs
  unfold ptr
  go_enter Try.func15, Try.ntmps15
  go_wp2_with fail
  refine (step_alive H.out.1 H.out.2.1 H.out.2.2).mono ?_
  rintro e' w1 ⟨rfl, h1, hg1, hz1⟩
  have c5 := h1.c5
  have H1 := hide (And.intro h1 (below_grown hg1 H.out.1.lo.1 H.out.1.lt))
  clear h1 hg1 hz1
  go_wp2_with fail
  refine (mapclone_any H1.out.1.dir).mono ?_
  rintro e' w2 ⟨rfl, hd2, hb2, hz2⟩
  have h3 := H1.out.1.syncedDir hd2 hb2 hz2
  have f6 := frozen_of_row w2 b 6 _ _ h3.1
  have f7 := frozen_of_row w2 b 7 _ _ h3.1
  have c6 := cell_of_row w2 b 6 _ _ _ h3.1
  have c7 := cell_of_row w2 b 7 _ _ _ h3.1
  simp only [fsCells] at c6 c7
  have H3 := hide (And.intro h3.2.1 (H1.out.2.trans h3.2.2))
  clear hd2 hb2 hz2 h3
  go_wp2_with fail
  go_ret
  exact ⟨rfl, ⟨_, H3.out.1⟩, H3.out.2⟩
end Go.Proofs.Ytlnmjkilefnjpaa
