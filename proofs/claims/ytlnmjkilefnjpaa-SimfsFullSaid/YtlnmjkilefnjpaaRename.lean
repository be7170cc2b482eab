/-
  The walks of Read, Rename and Remove.
-/
import Derived.Test.YtlnmjkilefnjpaaSync
namespace Go.Proofs.Ytlnmjkilefnjpaa
open Go.RowKit Go.Maps

set_option maxHeartbeats 400000 in
theorem read_bad {w : World} {N b : Nat} {s : St} {k : Bs} (h : Fs w N b s) (hk : k.length ≤ 1000000) (hg : good k = false) :
    Calls Try.prog 18 #[ptr b, tx k] w fun e w' => e = .returned (.tuple #[.slice none 0 0, .int .i64 7]) ∧ Fs w' N b s ∧ Below w.heap.size w w' := by
  obtain ⟨X, h⟩ := h
  have H := hide (And.intro h (And.intro hk hg))
  clear h hk hg
  unfold ptr
  go_enter Try.func18, Try.ntmps18
  go_wp2_with fail
  refine (open_bad H.out.1 H.out.2.1 H.out.2.2).mono ?_
  rintro e' w1 ⟨rfl, h1, hb1⟩
  have H1 := hide (And.intro h1 hb1)
  clear h1 hb1
  go_wp2_with fail
  go_ret2
  exact ⟨rfl, ⟨_, H1.out.1⟩, H1.out.2⟩
set_option maxHeartbeats 400000 in
theorem read_none {w : World} {N b : Nat} {s : St} {k : Bs} (h : Fs w N b s) (hk : k.length ≤ 1000000) (hg : good k = true) (hd : dget s.dir k = none) :
    Calls Try.prog 18 #[ptr b, tx k] w fun e w' => e = .returned (.tuple #[.slice none 0 0, .int .i64 3]) ∧ Fs w' N b s ∧ Below w.heap.size w w' := by
  obtain ⟨X, h⟩ := h
  have H := hide (And.intro h (And.intro hk (And.intro hg hd)))
  clear h hk hg hd
  unfold ptr
  go_enter Try.func18, Try.ntmps18
  go_wp2_with fail
  refine (open_none H.out.1 H.out.2.1 H.out.2.2.1 H.out.2.2.2).mono ?_
  rintro e' w1 ⟨rfl, h1, hb1⟩
  have H1 := hide (And.intro h1 hb1)
  clear h1 hb1
  go_wp2_with fail
  go_ret2
  exact ⟨rfl, ⟨_, H1.out.1⟩, H1.out.2⟩
theorem FileAt.rb {w : World} {N c : Nat} {e : Nat × Value} {f : Bs × Nat} {A : Option Addr} (h : FileAt w N e f) (hv : e.2 = .slice A f.1.length c) : Rb w w.heap.size A f.1.length f.1 := by
  have hr := h.row
  rw [hv] at hr
  exact Rb.of_own hr
set_option maxHeartbeats 400000 in
theorem read_ok {w : World} {N b i : Nat} {s : St} {k : Bs} {f : Bs × Nat} (h : Fs w N b s) (hk : k.length ≤ 1000000) (hg : good k = true) (hd : dget s.dir k = some i) (hf : s.files[i]? = some f) (hl : f.1.length ≤ 1000000000) :
    Calls Try.prog 18 #[ptr b, tx k] w fun e w' => ∃ A c, e = .returned (.tuple #[.slice A f.1.length c, .int .i64 0]) ∧ Rb w' w'.heap.size A f.1.length f.1 ∧ Fs w' N b s ∧ Below w.heap.size w w' := by
  obtain ⟨X, h⟩ := h
  obtain ⟨e, f', he, hf', hF⟩ := h.fl.get (h.wf.dir (k, i) (dget_mem hd))
  rw [hf] at hf'
  injection hf' with hf'
  subst hf'
  have H := hide (And.intro h (And.intro hk (And.intro hg (And.intro hd (And.intro he (And.intro hf hl))))))
  clear h hk hg hd he hf hF hl
  unfold ptr
  go_enter Try.func18, Try.ntmps18
  go_wp2_with fail
  refine (open_some H.out.1 H.out.2.1 H.out.2.2.1 H.out.2.2.2.1 H.out.2.2.2.2.1).mono ?_
  rintro e' w1 ⟨rfl, h1, hb1⟩
  have hF1 := h1.fl.at_ i e f H.out.2.2.2.2.1 H.out.2.2.2.2.2.1
  obtain ⟨A, c, hv, _, _⟩ := hF1.val
  have d0 : w1.cell? ⟨e.1, 0, none⟩ = some (.slice A f.1.length c) := by rw [cell_of_row _ _ _ _ _ _ hF1.blk, ← hv]; rfl
  have H1 := hide (And.intro h1 (And.intro hb1 (hF1.rb hv)))
  clear h1 hb1 hF1 hv
  unfold ptr
  go_wp2_with fail
  refine (clone_any c H1.out.2.2 (Nat.le_refl _) H.out.2.2.2.2.2.2).mono ?_
  rintro e' w2 ⟨A2, c2, rfl, hrow, hb2⟩
  have H2 := hide (And.intro (Rb.of_own hrow) (And.intro (H1.out.1.below hb2) (H1.out.2.1.trans (hb2.mono H1.out.2.1.size))))
  clear hrow hb2
  go_wp2_with fail
  go_ret2
  exact ⟨A2, c2, rfl, H2.out.1, ⟨_, H2.out.2.1⟩, H2.out.2.2⟩
set_option maxHeartbeats 400000 in
theorem rename_bad {w : World} {N b : Nat} {s : St} {k to : Bs} (h : Fs w N b s) (hk : k.length ≤ 1000000) (hk2 : to.length ≤ 1000000) (hg : ¬ (good k = true ∧ good to = true)) :
    Calls Try.prog 16 #[ptr b, tx k, tx to] w fun e w' => e = .returned (.int .i64 7) ∧ Fs w' N b s ∧ Below N w w' := by
  obtain ⟨X, h⟩ := h
  have hb : Below w.heap.size w (w.alloc (.cells #[tx k, tx to] 9)) := (Below.refl _ _).alloc (Nat.le_refl _) _
  have H := hide (And.intro (h.below hb) (And.intro hk (And.intro hk2 (And.intro hg (hb.mono h.hN)))))
  clear h hk hk2 hg hb
  unfold ptr
  go_enter Try.func16, Try.ntmps16
  go_wp2_with fail
  refine (named2_no H.out.2.1 H.out.2.2.1 H.out.2.2.2.1).mono ?_
  rintro e w1 ⟨rfl, rfl⟩
  go_wp2_with fail
  go_ret
  exact ⟨rfl, ⟨_, H.out.1⟩, H.out.2.2.2.2⟩
set_option maxHeartbeats 400000 in
theorem rename_dead {w : World} {N b i : Nat} {s : St} {k to : Bs} (h : Fs w N b s) (hk : k.length ≤ 1000000) (hk2 : to.length ≤ 1000000) (hg : good k = true) (hg2 : good to = true) (hd : dget s.dir k = some i) (h0 : s.left = 0) :
    Calls Try.prog 16 #[ptr b, tx k, tx to] w fun e w' => e = .returned (.int .i64 22) ∧ Fs w' N b s ∧ Below N w w' := by
  obtain ⟨X, h⟩ := h
  have hb : Below w.heap.size w (w.alloc (.cells #[tx k, tx to] 9)) := (Below.refl _ _).alloc (Nat.le_refl _) _
  have h1 := h.below hb
  have c5 := h1.c5
  have H := hide (And.intro h1 (And.intro hk (And.intro hk2 (And.intro hg (And.intro hg2 (And.intro hd (And.intro h0 (hb.mono h.hN))))))))
  clear h hk hk2 hg hg2 hd h0 hb h1
  unfold ptr
  go_enter Try.func16, Try.ntmps16
  go_wp2_with fail
  refine (named2_yes H.out.2.1 H.out.2.2.1 H.out.2.2.2.1 H.out.2.2.2.2.1).mono ?_
  rintro e w1 ⟨rfl, rfl⟩
  go_wp2_with (at_lookup; refine wpList_dget_some rfl H.out.1.dir rfl H.out.2.1 H.out.2.2.2.2.2.1 ?_)
  refine (step_dead H.out.1 H.out.2.2.2.2.2.2.1).mono ?_
  rintro e w1 ⟨rfl, rfl⟩
  go_wp2_with fail
  go_ret
  exact ⟨rfl, ⟨_, H.out.1⟩, H.out.2.2.2.2.2.2.2⟩
set_option maxHeartbeats 400000 in
theorem rename_ok {w : World} {N b i : Nat} {s : St} {k to : Bs} (h : Fs w N b s) (hk : k.length ≤ 1000000) (hk2 : to.length ≤ 1000000) (hg : good k = true) (hg2 : good to = true) (hd : dget s.dir k = some i) (h0 : s.left ≠ 0) (hs : s.steps ≤ 1000000000)
    (hl : s.dir.length ≤ 999990) (hn : s.chg.length ≤ 1000000) (hi : i ≤ 1000000) :
    Calls Try.prog 16 #[ptr b, tx k, tx to] w fun e w' => e = .returned (.int .i64 0) ∧ Fs w' N b (s.rename k to i) ∧ Below N w w' := by
  obtain ⟨X, h⟩ := h
  have hb : Below w.heap.size w (w.alloc (.cells #[tx k, tx to] 9)) := (Below.refl _ _).alloc (Nat.le_refl _) _
  have h1 := h.below hb
  have c5 := h1.c5
  have hfi : i < s.files.length := h.wf.dir (k, i) (dget_mem hd)
  have H := hide (And.intro h1 (And.intro hk (And.intro hk2 (And.intro hg (And.intro hg2 (And.intro hd (And.intro h0 (hb.mono h.hN))))))))
  have HL := hide (And.intro hs (And.intro hl (And.intro hn (And.intro hi hfi))))
  clear h hk hk2 hg hg2 hd h0 hb h1 hs hl hn hi hfi
  unfold ptr
  go_enter Try.func16, Try.ntmps16
  go_wp2_with fail
  refine (named2_yes H.out.2.1 H.out.2.2.1 H.out.2.2.2.1 H.out.2.2.2.2.1).mono ?_
  rintro e w1 ⟨rfl, rfl⟩
  go_wp2_with (at_lookup; refine wpList_dget_some rfl H.out.1.dir rfl H.out.2.1 H.out.2.2.2.2.2.1 ?_)
  refine (step_alive H.out.1 H.out.2.2.2.2.2.2.1 HL.out.1).mono ?_
  rintro e w2 ⟨rfl, h2, hg2, hz2⟩
  have hb2 : Below N w w2 := H.out.2.2.2.2.2.2.2.trans (below_grown hg2 H.out.1.lo.1 H.out.1.lt)
  have hb3 : Below w2.heap.size w2 (w2.alloc (.cells (chs [(k, -1), (to, (i : Int))]).toArray 64)) := (Below.refl _ _).alloc (Nat.le_refl _) _
  have hch : ChAt (w2.alloc (.cells (chs [(k, -1), (to, (i : Int))]).toArray 64)) N (.slice (some ⟨w2.heap.size, 0, none⟩) 2 2) [(k, -1), (to, (i : Int))] := ⟨w2.heap.size, 2, rfl, Nat.le_refl _, h2.hN, heap_alloc_new _ _⟩
  have H2 := hide (And.intro (h2.below hb3) (And.intro hch (hb2.trans (hb3.mono h2.hN))))
  clear h2 hg2 hz2 hb2 hb3 hch
  go_wp2_with fail
  refine (turn_any H2.out.1 H2.out.2.1 ?_ ?_ ?_ HL.out.2.2.1).mono ?_
  · intro p hp
    rcases List.mem_cons.1 hp with rfl | hp
    · exact ⟨H.out.2.1, by show (-1000000000 : Int) ≤ -1; omega, by show (-1 : Int) ≤ 1000000000; omega⟩
    · rw [List.mem_singleton.1 hp]
      have := HL.out.2.2.2.1
      exact ⟨H.out.2.2.1, by show (-1000000000 : Int) ≤ (i : Int); omega, by show (i : Int) ≤ 1000000000; omega⟩
  · have := HL.out.2.2.2.2
    intro p hp
    rcases List.mem_cons.1 hp with rfl | hp
    · show (-1 : Int) < (s.files.length : Int); omega
    · rw [List.mem_singleton.1 hp]; show (i : Int) < (s.files.length : Int); omega
  · have := HL.out.2.1
    show s.dir.length + 2 ≤ 1000000
    omega
  rintro e w4 ⟨rfl, h4, hb4⟩
  have H4 := hide (And.intro h4 (H2.out.2.2.trans hb4))
  clear h4 hb4
  go_wp2_with fail
  go_ret
  exact ⟨rfl, H4.out⟩
set_option maxHeartbeats 400000 in
theorem remove_bad {w : World} {N b : Nat} {s : St} {k : Bs} (h : Fs w N b s) (hk : k.length ≤ 1000000) (hg : good k = false) :
    Calls Try.prog 19 #[ptr b, tx k] w fun e w' => e = .returned (.int .i64 7) ∧ Fs w' N b s ∧ Below N w w' := by
  obtain ⟨X, h⟩ := h
  have H := hide (And.intro h (And.intro hk hg))
  clear h hk hg
  unfold ptr
  go_enter Try.func19, Try.ntmps19
  go_wp2_with fail
  refine (open_bad H.out.1 H.out.2.1 H.out.2.2).mono ?_
  rintro e' w1 ⟨rfl, h1, hb1⟩
  have H1 := hide (And.intro h1 (hb1.mono H.out.1.hN))
  clear h1 hb1
  go_wp2_with fail
  go_ret
  exact ⟨rfl, ⟨_, H1.out.1⟩, H1.out.2⟩
set_option maxHeartbeats 400000 in
theorem remove_dead {w : World} {N b i : Nat} {s : St} {k : Bs} (h : Fs w N b s) (hk : k.length ≤ 1000000) (hg : good k = true) (hd : dget s.dir k = some i) (h0 : s.left = 0) :
    Calls Try.prog 19 #[ptr b, tx k] w fun e w' => e = .returned (.int .i64 22) ∧ Fs w' N b s ∧ Below N w w' := by
  obtain ⟨X, h⟩ := h
  obtain ⟨e, f, he, hf, hF⟩ := h.fl.get (h.wf.dir (k, i) (dget_mem hd))
  have H := hide (And.intro h (And.intro hk (And.intro hg (And.intro hd (And.intro h0 he)))))
  clear h hk hg hd h0 he hf hF
  unfold ptr
  go_enter Try.func19, Try.ntmps19
  go_wp2_with fail
  refine (open_some H.out.1 H.out.2.1 H.out.2.2.1 H.out.2.2.2.1 H.out.2.2.2.2.2).mono ?_
  rintro e' w1 ⟨rfl, h1, hb1⟩
  have H1 := hide (And.intro h1 (hb1.mono H.out.1.hN))
  clear h1 hb1
  unfold ptr
  go_wp2_with fail
  refine (step_dead H1.out.1 H.out.2.2.2.2.1).mono ?_
  rintro e' w2 ⟨rfl, rfl⟩
  go_wp2_with fail
  go_ret
  exact ⟨rfl, ⟨_, H1.out.1⟩, H1.out.2⟩
set_option maxHeartbeats 400000 in
theorem remove_ok {w : World} {N b i : Nat} {s : St} {k : Bs} (h : Fs w N b s) (hk : k.length ≤ 1000000) (hg : good k = true) (hd : dget s.dir k = some i) (h0 : s.left ≠ 0) (hs : s.steps ≤ 1000000000)
    (hl : s.dir.length ≤ 999990) (hn : s.chg.length ≤ 1000000) :
    Calls Try.prog 19 #[ptr b, tx k] w fun e w' => e = .returned (.int .i64 0) ∧ Fs w' N b (s.remove k) ∧ Below N w w' := by
  obtain ⟨X, h⟩ := h
  obtain ⟨e, f, he, hf, hF⟩ := h.fl.get (h.wf.dir (k, i) (dget_mem hd))
  have H := hide (And.intro h (And.intro hk (And.intro hg (And.intro hd (And.intro h0 he)))))
  have HL := hide (And.intro hs (And.intro hl hn))
  clear h hk hg hd h0 he hf hF hs hl hn
  unfold ptr
  go_enter Try.func19, Try.ntmps19
  go_wp2_with fail
  refine (open_some H.out.1 H.out.2.1 H.out.2.2.1 H.out.2.2.2.1 H.out.2.2.2.2.2).mono ?_
  rintro e' w1 ⟨rfl, h1, hb1⟩
  have H1 := hide (And.intro h1 (hb1.mono H.out.1.hN))
  clear h1 hb1
  unfold ptr
  go_wp2_with fail
  refine (step_alive H1.out.1 H.out.2.2.2.2.1 HL.out.1).mono ?_
  rintro e' w2 ⟨rfl, h2, hg2, hz2⟩
  have hb2 : Below N w w2 := H1.out.2.trans (below_grown hg2 H1.out.1.lo.1 H1.out.1.lt)
  have hb3 : Below w2.heap.size w2 (w2.alloc (.cells (chs [(k, -1)]).toArray 64)) := (Below.refl _ _).alloc (Nat.le_refl _) _
  have hch : ChAt (w2.alloc (.cells (chs [(k, -1)]).toArray 64)) N (.slice (some ⟨w2.heap.size, 0, none⟩) 1 1) [(k, -1)] := ⟨w2.heap.size, 1, rfl, Nat.le_refl _, h2.hN, heap_alloc_new _ _⟩
  have H2 := hide (And.intro (h2.below hb3) (And.intro hch (hb2.trans (hb3.mono h2.hN))))
  clear h2 hg2 hz2 hb2 hb3 hch
  go_wp2_with fail
  refine (turn_any H2.out.1 H2.out.2.1 ?_ ?_ ?_ HL.out.2.2).mono ?_
  · intro p hp
    rw [List.mem_singleton.1 hp]
    exact ⟨H.out.2.1, by show (-1000000000 : Int) ≤ -1; omega, by show (-1 : Int) ≤ 1000000000; omega⟩
  · intro p hp
    rw [List.mem_singleton.1 hp]; show (-1 : Int) < (s.files.length : Int); omega
  · have := HL.out.2.1
    show s.dir.length + 1 ≤ 1000000
    omega
  rintro e' w4 ⟨rfl, h4, hb4⟩
  have H4 := hide (And.intro h4 (H2.out.2.2.trans hb4))
  clear h4 hb4
  go_wp2_with fail
  go_ret
  exact ⟨rfl, H4.out⟩
end Go.Proofs.Ytlnmjkilefnjpaa
