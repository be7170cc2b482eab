/-
  What a round of Crash does to the new file system's memory.
-/
import Derived.Test.YtlnmjkilefnjpaaAppend
namespace Go.Proofs.Ytlnmjkilefnjpaa
open Go.RowKit Go.Maps

theorem owns_base {w : World} {N M k n : Nat} {e : TypeId} {v : Value} {xs : List Value} (h : w.ownsRow M e k v n xs) (hN : N ≤ M) : w.ownsRow N e k v n xs := by
  refine ⟨h.1, ?_⟩
  rcases h.2 with h2 | ⟨g, cap, cur, hv, hb, rest⟩
  · exact .inl h2
  · exact .inr ⟨g, cap, cur, hv, Nat.le_trans hN hb, rest⟩
theorem Wf.crashAdd {s st : St} (h : Wf st) (ts : List Int) (p : Bs × Nat) : Wf (crashAdd s ts st p) := by
  refine ⟨fun q hq => ?_, fun q hq => ?_, fun c hc q hq => ?_, fun f hf => ?_, h.left⟩
  · show q.2 < (st.files ++ [_]).length
    rw [List.length_append]
    rcases dput_mem _ _ _ _ hq with rfl | hq
    · show st.files.length < st.files.length + 1; omega
    · have := h.dir q hq; show q.2 < st.files.length + 1; omega
  · have := h.sure q hq
    show q.2 < (st.files ++ [_]).length
    rw [List.length_append]
    show q.2 < st.files.length + 1
    omega
  · have := h.chg c hc q hq
    show q.2 < ((st.files ++ [_]).length : Int)
    rw [List.length_append]
    show q.2 < ((st.files.length + 1 : Nat) : Int)
    omega
  · rcases List.mem_append.1 hf with hf | hf
    · exact h.data f hf
    · rw [List.mem_singleton.1 hf]; exact Nat.le_refl _
/-- The file behind the others, behind the map's store. -/
theorem crash_file {wr w5 w6 w8 : World} {M bc c' c2 : Nat} {s st : St} {X : Lay} {A' A2 : Option Addr} {ts : List Int} {p : Bs × Nat} {kl : Bs}
    (h : FsX wr M bc st X) (hkl : kl = keep ts p.2 ((s.files[p.2]?).getD ([], 0))) (hb5 : Below wr.heap.size wr w5) (hrow : w5.ownsRow wr.heap.size 5 1 (.slice A' kl.length c') kl.length (u8s kl))
    (hd6 : Dr w6 X.db (dput st.dir p.1 st.files.length)) (hg6 : w5.grownBy w6 (some X.db))
    (hg8 : ((w6.alloc (.cells #[.slice A' kl.length c', .int .i64 (kl.length : Int)] 61)).alloc (.cells #[ptr w6.heap.size] 59)).grownBy w8 (Value.slice X.FA st.files.length X.fc).ownBlock)
    (hrow8 : w8.ownsRow M 59 1 (.slice A2 (st.files.length + 1) c2) (st.files.length + 1) (X.es.map (fun e => ptr e.1) ++ [ptr w6.heap.size])) :
    w8.heap[bc]? = some (.cells (fsCells { st with dir := dput st.dir p.1 st.files.length } X) 52 (0, 0)) ∧
    FsX (w8.setCell ⟨bc, 4, none⟩ (.slice A2 (st.files.length + 1) c2)) M bc (crashAdd s ts st p) { X with FA := A2, fc := c2, es := X.es ++ [(w6.heap.size, .slice A' kl.length c')] } ∧
    Below M wr (w8.setCell ⟨bc, 4, none⟩ (.slice A2 (st.files.length + 1) c2)) ∧
    (∀ (k : Nat) (o : Obj), wr.heap[k]? = some o → k ≠ X.db → (∀ a f, o ≠ .cells a 59 f) → (∀ a f, o ≠ .cells a 52 f) → (w8.setCell ⟨bc, 4, none⟩ (.slice A2 (st.files.length + 1) c2)).heap[k]? = some o) := by
  have h5 := h.below hb5
  obtain ⟨es, cl, hm⟩ := h5.dir.block
  have m6 := h5.toFsM.afterDir hd6 hg6
  have hN : M ≤ wr.heap.size := h.hN
  have hz5 := hb5.size
  have hz6 := hg6.size
  have hb7 : Below w6.heap.size w6 ((w6.alloc (.cells #[.slice A' kl.length c', .int .i64 (kl.length : Int)] 61)).alloc (.cells #[ptr w6.heap.size] 59)) := ((Below.refl _ _).alloc (Nat.le_refl _) _).alloc (by simp) _
  have s56 : Same (Of flT) w5 w6 := Same.of_grown hg6 hm not_of_map
  have s57 : Same (Of flT) w5 ((w6.alloc (.cells #[.slice A' kl.length c', .int .i64 (kl.length : Int)] 61)).alloc (.cells #[ptr w6.heap.size] 59)) := s56.trans (Same.of_below hb7)
  have hr7 := owns_base (owns_same hrow s57 (by simp [flT])) hN
  have hF : FileAt ((w6.alloc (.cells #[.slice A' kl.length c', .int .i64 (kl.length : Int)] 61)).alloc (.cells #[ptr w6.heap.size] 59)) M (w6.heap.size, .slice A' kl.length c') (kl, kl.length) :=
    ⟨by show M ≤ w6.heap.size; omega, by rw [Below.heap_alloc _ _ _ (by simp)]; exact heap_alloc_new _ _, hr7⟩
  have hmain := m6.afterFile h.fl ((Same.of_below hb5).trans s57) hb7 (by omega) hF (fun x hx => (hrow.lt x hx).1) hg8 hrow8
  have e1 : crashAdd s ts st p = { ({ st with dir := dput st.dir p.1 st.files.length } : St) with files := st.files ++ [(kl, kl.length)] } := by rw [hkl]; rfl
  have hb6 : Below M wr w6 := (hb5.mono hN).trans (below_grown hg6 h.lo.2.1 h5.dir.lt)
  refine ⟨hmain.1, ?_, ?_, ?_⟩
  · rw [e1]
    refine ⟨hmain.2.1, ?_⟩
    have := h.wf.crashAdd (s := s) ts p
    rw [e1] at this
    exact this
  · exact (hb6.trans hmain.2.2).setCell (p := ⟨bc, 4, none⟩) h.lo.1 _
  · intro k o hk hkd h59 h52
    have k5 : w5.heap[k]? = some o := by rw [hb5.block _ (lt_of_block hk)]; exact hk
    have k6 : w6.heap[k]? = some o := by rw [hg6.block _ (lt_of_block k5) (by intro e; injection e with e; exact hkd e)]; exact k5
    have k7 : ((w6.alloc (.cells #[.slice A' kl.length c', .int .i64 (kl.length : Int)] 61)).alloc (.cells #[ptr w6.heap.size] 59)).heap[k]? = some o := by rw [hb7.block _ (lt_of_block k6)]; exact k6
    have k8 : w8.heap[k]? = some o := by rw [hg8.block _ (lt_of_block k7) (fun e => row_other (m6.below hb7).fl.row k7 h59 e.symm)]; exact k7
    rw [Below.heap_setCell]
    · exact k8
    · show k ≠ bc
      intro e
      rw [e, h.blk] at hk
      injection hk with hk
      exact h52 _ _ hk.symm
/-- The directory as it is becomes sure. -/
theorem FsX.sured {w w1 : World} {N b : Nat} {s : St} {X : Lay} (h : FsX w N b s X) (hd : Dr w1 w.heap.size s.dir) (hb : Below w.heap.size w w1) (hz : w1.heap.size = w.heap.size + 1) :
    w1.heap[b]? = some (.cells (fsCells s X) 52 (0, 0)) ∧
    FsX (w1.setCell ⟨b, 6, none⟩ (.map (some w.heap.size))) N b { s with sure := s.dir } { X with sb := w.heap.size } ∧
    Below N w (w1.setCell ⟨b, 6, none⟩ (.map (some w.heap.size))) := by
  have h1 := h.below hb
  have hgs : w1.grownBy (w1.setCell ⟨b, 6, none⟩ (.map (some w.heap.size))) (some b) := grown_setCell (World.grownBy.refl _ _)
  have s2 : Same (Of (flT ++ csT)) w1 (w1.setCell ⟨b, 6, none⟩ (.map (some w.heap.size))) := Same.of_grown hgs h1.blk (not_of (by decide))
  have q1 : ∀ o, Of flT o → Of (flT ++ csT) o := fun o ⟨a, t, f, e, ht⟩ => ⟨a, t, f, e, List.mem_append_left _ ht⟩
  have q2 : ∀ o, Of csT o → Of (flT ++ csT) o := fun o ⟨a, t, f, e, ht⟩ => ⟨a, t, f, e, List.mem_append_right _ ht⟩
  have maps : ∀ d : Nat, (∃ es c, w1.heap[d]? = some (Obj.map es c)) → (w1.setCell ⟨b, 6, none⟩ (.map (some w.heap.size))).heap[d]? = w1.heap[d]? := by
    rintro d ⟨es, c, hd⟩
    exact hgs.block d (lt_of_block hd) (by intro e; injection e with e; rw [e, h1.blk] at hd; cases hd)
  refine ⟨h1.blk, FsX.of ⟨⟨h.lo.1, h.lo.2.1, h.lo.2.2.2.2, ?_, ?_⟩, ?_, h1.fl.same (s2.less q1), h1.dir.same (maps _ h1.dir.block), hd.same (maps _ hd.block), h1.cs.same (s2.less q2), ⟨h.wf.dir, h.wf.dir, h.wf.chg, h.wf.data, h.wf.left⟩⟩, ?_⟩
  · have := h.dir.lt; show X.db ≠ w.heap.size; omega
  · have := h.hN; simp; omega
  · rw [heap_setCell_same _ _ _ _ _ _ h1.blk]
    simp [fsCells]
  · exact ((hb.mono h.hN)).setCell (p := ⟨b, 6, none⟩) h.lo.1 _
end Go.Proofs.Ytlnmjkilefnjpaa
