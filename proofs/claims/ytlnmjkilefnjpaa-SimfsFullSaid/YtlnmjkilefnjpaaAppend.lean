/-
  The walk of Append.
-/
import Derived.Test.YtlnmjkilefnjpaaCreate
import Derived.Deep.QuietTactic
import Derived.BigQuiet
namespace Go.Proofs.Ytlnmjkilefnjpaa
open Go.RowKit Go.Maps

theorem Rb.keepFs {w w' : World} {N b B n : Nat} {s : St} {X : Lay} {A : Option Addr} {l : Bs} (hr : Rb w B A n l) (h : FsX w N b s X) (hg : w.grownBy w' (some b)) : Rb w' B A n l := by
  refine ⟨Rd.len hr, fun j u hu => ?_⟩
  obtain ⟨b', o, e, hb, hc⟩ := Rd.cell hr j u hu
  refine ⟨b', o, e, hb, ?_⟩
  obtain ⟨hj, rfl⟩ := u8s_get l hu
  by_cases hbb : b' = b
  · subst hbb
    rw [cell_of_row _ _ _ _ _ _ h.blk] at hc
    have hm := List.mem_of_getElem? (by rw [← Array.getElem?_toList] at hc; exact hc)
    simp [fsCells] at hm
  · have hlt : b' < w.heap.size := World.block_lt_of_cell? w _ hc
    rw [World.cell?_of_block (hg.block b' hlt (by intro e; injection e with e; exact hbb e))]
    exact hc
set_option maxHeartbeats 400000 in
theorem append_bad {w : World} {N b : Nat} {s : St} {k : Bs} {v : Value} (h : Fs w N b s) (hk : k.length ≤ 1000000) (hg : good k = false) :
    Calls Try.prog 11 #[ptr b, tx k, v] w fun e w' => e = .returned (.int .i64 7) ∧ Fs w' N b s ∧ Below N w w' := by
  obtain ⟨X, h⟩ := h
  have H := hide (And.intro h (And.intro hk hg))
  clear h hk hg
  unfold ptr
  go_enter Try.func11, Try.ntmps11
  go_wp2_with fail
  refine (open_bad H.out.1 H.out.2.1 H.out.2.2).mono ?_
  rintro e' w1 ⟨rfl, h1, hb1⟩
  have H1 := hide (And.intro h1 (hb1.mono H.out.1.hN))
  clear h1 hb1
  go_wp2_with fail
  go_ret
  exact ⟨rfl, ⟨_, H1.out.1⟩, H1.out.2⟩
theorem load_room {w : World} {N b : Nat} {s : St} {X : Lay} (h : FsX w N b s X) : (Instr.loadAt 3 (.pointer (some ⟨b, 3, none⟩))).run Try.prog w = .ok (.int .i64 s.room) w := by
  have c3 := h.c3
  go_simp
theorem quiet_load_at {P : Program} {ops : Array Oper} {C : World → Prop} {Q : Act → Prop} {rest : List Oper} {o : Oper} {a : Act} (hw : Region.wanted o (yielded ops a.tmps) = true) (ty : TypeId) (x : Operand) (ho : o.op = .load ty x)
    (v : Value) (hx : ∀ w, C w → (Instr.loadAt ty (a.eval x)).run P w = .ok v w)
    (h : wpQuiet P ops C Q rest (a.put o.dst v)) : wpQuiet P ops C Q (o :: rest) a :=
  wpQuiet_step fun K hK => by
    simp only [hw, if_true]
    refine ⟨v, fun w hC => ?_, hK _ h⟩
    unfold Oper.quietAt execOp
    simp only [ho, Sem.run_bind, hx w hC, Sem.run_pure, Result.andThen_ok]
    exact ⟨rfl, rfl⟩
set_option maxHeartbeats 1600000 in
theorem append_dead {w : World} {N b i m d : Nat} {s : St} {k : Bs} {C : Option Addr} {f : Bs × Nat} (h : Fs w N b s) (hk : k.length ≤ 1000000) (hg : good k = true) (hd : dget s.dir k = some i) (hf : s.files[i]? = some f) (hlen : f.1.length + m ≤ 65536)
    (hu : s.used ≤ 1000000) (hroom : s.room ≤ 1048576) (hroom0 : 0 ≤ s.room) (h0 : s.left = 0) :
    Calls Try.prog 11 #[ptr b, tx k, .slice C m d] w fun e w' => e = .returned (.int .i64 22) ∧ Fs w' N b s ∧ Below N w w' := by
  obtain ⟨X, h⟩ := h
  obtain ⟨e, f', he, hf', hF⟩ := h.fl.get (h.wf.dir (k, i) (dget_mem hd))
  rw [hf] at hf'
  injection hf' with hf'
  subst hf'
  have i1 : (f.1.length : Int) + (m : Int) ≤ 65536 := by omega
  have i2 : 0 ≤ s.room - (s.used : Int) + 1000000 := by omega
  have i3 : s.room - (s.used : Int) ≤ 1048576 := by omega
  have H := hide (And.intro h (And.intro hk (And.intro hg (And.intro hd (And.intro he (And.intro hf (And.intro h0 hu)))))))
  clear h hk hg hd he hf hF hlen h0 hu hroom hroom0
  unfold ptr
  go_enter Try.func11, Try.ntmps11
  go_wp2_with fail
  refine (open_some H.out.1 H.out.2.1 H.out.2.2.1 H.out.2.2.2.1 H.out.2.2.2.2.1).mono ?_
  rintro e' w1 ⟨rfl, h1, hb1⟩
  have hF1 := h1.fl.at_ i e f H.out.2.2.2.2.1 H.out.2.2.2.2.2.1
  obtain ⟨A, c, hv, _, _⟩ := hF1.val
  have d0 : w1.cell? ⟨e.1, 0, none⟩ = some (.slice A f.1.length c) := by rw [cell_of_row _ _ _ _ _ _ hF1.blk, ← hv]; rfl
  have H1 := hide (And.intro h1 (hb1.mono H.out.1.hN))
  clear h1 hb1 hF1 hv
  unfold ptr
  go_wp2_with fail
  refine wp_region_quiet (C := fun w' => Below w1.heap.size w1 w') (by kernel_rfl) (by kernel_rfl) (Below.refl _ _).drew ?_
  refine wpQuiet_step (fun K hK => ?_)
  go_simp
  refine ⟨_, fun _ _ => rfl, hK _ ?_⟩
  clear hK K
  refine wpQuiet_step (fun K hK => ?_)
  go_simp
  refine ⟨_, fun _ _ => rfl, hK _ ?_⟩
  clear hK K
  refine wpQuiet_step (fun K hK => ?_)
  go_simp
  refine ⟨_, fun _ _ => rfl, hK _ ?_⟩
  clear hK K
  refine quiet_load_at (by rfl) 3 _ rfl (.int .i64 s.room) (fun w' hw' => load_room (H1.out.1.below hw')) ?_
  refine wpQuiet_step (fun K hK => ?_)
  go_simp
  refine ⟨_, fun _ _ => rfl, hK _ ?_⟩
  clear hK K
  refine wpQuiet_step (fun K hK => ?_)
  go_simp
  refine ⟨.int .i64 (s.used : Int), fun w' hw' => (used_any (H1.out.1.below hw') (by have := H.out.2.2.2.2.2.2.2; omega)).mono ?_, hK _ ?_⟩
  · rintro e' w5 ⟨rfl, _, hb5⟩
    exact ⟨rfl, hw'.trans (hb5.mono hw'.size)⟩
  clear hK K
  refine wpQuiet_step (fun K hK => ?_)
  go_simp
  refine ⟨_, fun _ _ => rfl, hK _ ?_⟩
  clear hK K
  refine wpQuiet_step (fun K hK => ?_)
  go_simp
  refine ⟨_, fun _ _ => rfl, hK _ ?_⟩
  clear hK K
  refine wpQuiet_nil ?_
  intro w2 hw2
  have h2 := H1.out.1.below hw2
  have H2 := hide (And.intro h2 (H1.out.2.trans (hw2.mono H1.out.1.hN)))
  clear hw2 h2
  go_wp2_with fail
  refine (step_dead H2.out.1 H.out.2.2.2.2.2.2.1).mono ?_
  rintro e' w3 ⟨rfl, rfl⟩
  go_wp2_with fail
  go_ret
  exact ⟨rfl, ⟨_, H2.out.1⟩, H2.out.2⟩
set_option maxHeartbeats 1600000 in
theorem append_space {w : World} {N b i m d : Nat} {s : St} {k : Bs} {C : Option Addr} {f : Bs × Nat} (h : Fs w N b s) (hk : k.length ≤ 1000000) (hg : good k = true) (hd : dget s.dir k = some i) (hf : s.files[i]? = some f) (hlen : f.1.length + m ≤ 65536)
    (hu : s.used ≤ 1000000) (hroom : s.room ≤ 1048576) (hroom0 : 0 ≤ s.room) (h0 : s.left ≠ 0) (hs : s.steps ≤ 1000000000) (hsp : s.room < (s.used : Int) + (m : Int)) :
    Calls Try.prog 11 #[ptr b, tx k, .slice C m d] w fun e w' => e = .returned (.int .i64 21) ∧ Fs w' N b s.step ∧ Below N w w' := by
  obtain ⟨X, h⟩ := h
  obtain ⟨e, f', he, hf', hF⟩ := h.fl.get (h.wf.dir (k, i) (dget_mem hd))
  rw [hf] at hf'
  injection hf' with hf'
  subst hf'
  have i1 : (f.1.length : Int) + (m : Int) ≤ 65536 := by omega
  have i2 : 0 ≤ s.room - (s.used : Int) + 1000000 := by omega
  have i3 : s.room - (s.used : Int) ≤ 1048576 := by omega
  have i4 : s.room - (s.used : Int) < (m : Int) := by omega
  have HS := hide hs
  clear hs hsp
  have H := hide (And.intro h (And.intro hk (And.intro hg (And.intro hd (And.intro he (And.intro hf (And.intro h0 hu)))))))
  clear h hk hg hd he hf hF hlen h0 hu hroom hroom0
  unfold ptr
  go_enter Try.func11, Try.ntmps11
  go_wp2_with fail
  refine (open_some H.out.1 H.out.2.1 H.out.2.2.1 H.out.2.2.2.1 H.out.2.2.2.2.1).mono ?_
  rintro e' w1 ⟨rfl, h1, hb1⟩
  have hF1 := h1.fl.at_ i e f H.out.2.2.2.2.1 H.out.2.2.2.2.2.1
  obtain ⟨A, c, hv, _, _⟩ := hF1.val
  have d0 : w1.cell? ⟨e.1, 0, none⟩ = some (.slice A f.1.length c) := by rw [cell_of_row _ _ _ _ _ _ hF1.blk, ← hv]; rfl
  have H1 := hide (And.intro h1 (hb1.mono H.out.1.hN))
  clear h1 hb1 hF1 hv
  unfold ptr
  go_wp2_with fail
  refine wp_region_quiet (C := fun w' => Below w1.heap.size w1 w') (by kernel_rfl) (by kernel_rfl) (Below.refl _ _).drew ?_
  refine wpQuiet_step (fun K hK => ?_)
  go_simp
  refine ⟨_, fun _ _ => rfl, hK _ ?_⟩
  clear hK K
  refine wpQuiet_step (fun K hK => ?_)
  go_simp
  refine ⟨_, fun _ _ => rfl, hK _ ?_⟩
  clear hK K
  refine wpQuiet_step (fun K hK => ?_)
  go_simp
  refine ⟨_, fun _ _ => rfl, hK _ ?_⟩
  clear hK K
  refine quiet_load_at (by rfl) 3 _ rfl (.int .i64 s.room) (fun w' hw' => load_room (H1.out.1.below hw')) ?_
  refine wpQuiet_step (fun K hK => ?_)
  go_simp
  refine ⟨_, fun _ _ => rfl, hK _ ?_⟩
  clear hK K
  refine wpQuiet_step (fun K hK => ?_)
  go_simp
  refine ⟨.int .i64 (s.used : Int), fun w' hw' => (used_any (H1.out.1.below hw') (by have := H.out.2.2.2.2.2.2.2; omega)).mono ?_, hK _ ?_⟩
  · rintro e' w5 ⟨rfl, _, hb5⟩
    exact ⟨rfl, hw'.trans (hb5.mono hw'.size)⟩
  clear hK K
  refine wpQuiet_step (fun K hK => ?_)
  go_simp
  refine ⟨_, fun _ _ => rfl, hK _ ?_⟩
  clear hK K
  refine wpQuiet_step (fun K hK => ?_)
  go_simp
  refine ⟨_, fun _ _ => rfl, hK _ ?_⟩
  clear hK K
  refine wpQuiet_nil ?_
  intro w2 hw2
  have h2 := H1.out.1.below hw2
  have H2 := hide (And.intro h2 (H1.out.2.trans (hw2.mono H1.out.1.hN)))
  clear hw2 h2
  go_wp2_with fail
  refine (step_alive H2.out.1 H.out.2.2.2.2.2.2.1 HS.out).mono ?_
  rintro e' w3 ⟨rfl, h3, hg3, hz3⟩
  have H3 := hide (And.intro h3 (H2.out.2.trans (below_grown hg3 H2.out.1.lo.1 H2.out.1.lt)))
  clear h3 hg3 hz3
  go_wp2_with fail
  go_ret
  exact ⟨rfl, ⟨_, H3.out.1⟩, H3.out.2⟩
theorem wpList_append_u8h {ops : Array Oper} {rest : List Oper} {a : Act} {Q : Exit → Act → World → Prop} {w : World} {dst : Option Tmp} {ty : TypeId} {pos : String} {af : Array Edge} {s x : Operand} {base : Nat}
    {A C : Option Addr} {n c m d B : Nat} {xs : List Value} {l : List UInt8} (hs : a.eval s = .slice A n c) (hx : a.eval x = .slice C m d)
    (hown : w.ownsRow base 5 1 (.slice A n c) n xs) (hr : Rb w B C m l) (hl : n + m ≤ 1000000000) (hbase : base ≤ w.heap.size)
    (h : ∀ A' c' w', w'.ownsRow base 5 1 (.slice A' (n + m) c') (n + m) (xs ++ u8s l) → w.grownBy w' (Value.slice A n c).ownBlock → ((Value.slice A' (n + m) c').ownBlock = (Value.slice A n c).ownBlock ∨ (Value.slice A' (n + m) c').ownBlock = some w.heap.size) → wpList Try.prog ops Q rest (a.put dst (.slice A' (n + m) c')) w') :
    wpList Try.prog ops Q ({ dst := dst, op := .call { callee := .builtin .append, args := #[s, x], argTypes := #[29, 29] }, type := ty, pos := pos, after := af, guard := none } :: rest) a w :=
  wpList_plain rfl fun _ hK => by
    obtain ⟨i0, hi, hz0, hz1, hz2⟩ := info_parts Try.infoU8
    have key : ∃ A' c' w', (Builtin.append_ #[29, 29] ty #[.slice A n c, .slice C m d]).run Try.prog w = .ok (.slice A' (n + m) c') w' ∧ w'.ownsRow base 5 1 (.slice A' (n + m) c') (n + m) (xs ++ u8s l) ∧ w.grownBy w' (Value.slice A n c).ownBlock ∧ ((Value.slice A' (n + m) c').ownBlock = (Value.slice A n c).ownBlock ∨ (Value.slice A' (n + m) c').ownBlock = some w.heap.size) := by
      rcases C with _ | ad
      · have hn : l = [] := by have := Rd.none_len hr; simpa [u8s] using this
        subst hn
        have hm : m = 0 := by have := hr.len; simpa using this.symm
        subst hm
        refine ⟨A, c, w, ?_, by simpa [u8s] using hown, World.grownBy.refl w _, .inl rfl⟩
        rcases hown.2 with ⟨hv, rfl⟩ | ⟨g, cap, cur, hv, _, hg, hnc, _⟩
        · cases hv
          simp [Builtin.append_, run_underlying Try.underlying29, sizeOf, typeInfo, hi, Builtin.lenOf, Builtin.firstCells]
        · cases hv
          simp [Builtin.append_, run_underlying Try.underlying29, sizeOf, typeInfo, hi, Builtin.lenOf, Builtin.firstCells, hnc, storeCells]
      · obtain ⟨v', w', hrun, h2, h3, _, h5⟩ := run_append_own_at (P := Try.prog) w base 29 ty 5 i0 (.int .u8 0) 1 1 Try.underlying29 hi hz0 hz1 hz2 rfl (by decide) _ n xs hown ad m d (u8s l) (Rd.len hr) (Rd.adds hr) (u8s_one l) (by unfold maxLen; omega) (by omega) hbase
        rcases h2.2 with ⟨hv, h0⟩ | ⟨g, cap, cur, hv, _⟩
        · subst hv
          exact ⟨none, 0, w', by rw [hrun, h0], by rw [h0] at h2 ⊢; exact h2, h3, h5⟩
        · subst hv
          exact ⟨some ⟨g, 0, none⟩, cap, w', hrun, h2, h3, h5⟩
    obtain ⟨A', c', w', hrun, h2, h3, h5⟩ := key
    unfold Oper.wp execOp
    simp only [resolve, invoke, builtin, Sem.run_bind, Sem.run_pure, Result.andThen_ok, List.map_toArray, List.map_cons, List.map_nil, hs, hx]
    rw [hrun]
    exact hK _ _ (h A' c' w' h2 h3 h5)
set_option maxHeartbeats 1600000 in
theorem append_ok {w : World} {N b B i m d : Nat} {s : St} {k l : Bs} {C : Option Addr} {f : Bs × Nat} (h : Fs w N b s) (hk : k.length ≤ 1000000) (hg : good k = true) (hd : dget s.dir k = some i) (hf : s.files[i]? = some f) (hlen : f.1.length + m ≤ 65536)
    (hu : s.used ≤ 1000000) (hroom : s.room ≤ 1048576) (hroom0 : 0 ≤ s.room) (h0 : s.left ≠ 0) (hs : s.steps ≤ 1000000000) (hsp : (s.used : Int) + (m : Int) ≤ s.room) (hr : Rb w B C m l) (hB : B ≤ w.heap.size) :
    Calls Try.prog 11 #[ptr b, tx k, .slice C m d] w fun e w' => e = .returned (.int .i64 0) ∧ Fs w' N b (s.append i l) ∧ Below N w w' := by
  obtain ⟨X, h⟩ := h
  obtain ⟨e, f', he, hf', hF⟩ := h.fl.get (h.wf.dir (k, i) (dget_mem hd))
  rw [hf] at hf'
  injection hf' with hf'
  subst hf'
  have i1 : (f.1.length : Int) + (m : Int) ≤ 65536 := by omega
  have i2 : 0 ≤ s.room - (s.used : Int) + 1000000 := by omega
  have i3 : s.room - (s.used : Int) ≤ 1048576 := by omega
  have i4 : (m : Int) ≤ s.room - (s.used : Int) := by omega
  have HS := hide (And.intro hs (And.intro (hr.more hB) hlen))
  clear hs hsp hr hB
  have H := hide (And.intro h (And.intro hk (And.intro hg (And.intro hd (And.intro he (And.intro hf (And.intro h0 hu)))))))
  clear h hk hg hd he hf hF hlen h0 hu hroom hroom0
  unfold ptr
  go_enter Try.func11, Try.ntmps11
  go_wp2_with fail
  refine (open_some H.out.1 H.out.2.1 H.out.2.2.1 H.out.2.2.2.1 H.out.2.2.2.2.1).mono ?_
  rintro e' w1 ⟨rfl, h1, hb1⟩
  have hF1 := h1.fl.at_ i e f H.out.2.2.2.2.1 H.out.2.2.2.2.2.1
  obtain ⟨A, c, hv, _, _⟩ := hF1.val
  have d0 : w1.cell? ⟨e.1, 0, none⟩ = some (.slice A f.1.length c) := by rw [cell_of_row _ _ _ _ _ _ hF1.blk, ← hv]; rfl
  have H1 := hide (And.intro h1 (hb1.mono H.out.1.hN))
  have HR1 := hide ((HS.out.2.1.below hb1).more hb1.size)
  clear h1 hb1 hF1 hv
  unfold ptr
  go_wp2_with fail
  refine wp_region_quiet (C := fun w' => Below w1.heap.size w1 w') (by kernel_rfl) (by kernel_rfl) (Below.refl _ _).drew ?_
  refine wpQuiet_step (fun K hK => ?_)
  go_simp
  refine ⟨_, fun _ _ => rfl, hK _ ?_⟩
  clear hK K
  refine wpQuiet_step (fun K hK => ?_)
  go_simp
  refine ⟨_, fun _ _ => rfl, hK _ ?_⟩
  clear hK K
  refine wpQuiet_step (fun K hK => ?_)
  go_simp
  refine ⟨_, fun _ _ => rfl, hK _ ?_⟩
  clear hK K
  refine quiet_load_at (by rfl) 3 _ rfl (.int .i64 s.room) (fun w' hw' => load_room (H1.out.1.below hw')) ?_
  refine wpQuiet_step (fun K hK => ?_)
  go_simp
  refine ⟨_, fun _ _ => rfl, hK _ ?_⟩
  clear hK K
  refine wpQuiet_step (fun K hK => ?_)
  go_simp
  refine ⟨.int .i64 (s.used : Int), fun w' hw' => (used_any (H1.out.1.below hw') (by have := H.out.2.2.2.2.2.2.2; omega)).mono ?_, hK _ ?_⟩
  · rintro e' w5 ⟨rfl, _, hb5⟩
    exact ⟨rfl, hw'.trans (hb5.mono hw'.size)⟩
  clear hK K
  refine wpQuiet_step (fun K hK => ?_)
  go_simp
  refine ⟨_, fun _ _ => rfl, hK _ ?_⟩
  clear hK K
  refine wpQuiet_step (fun K hK => ?_)
  go_simp
  refine ⟨_, fun _ _ => rfl, hK _ ?_⟩
  clear hK K
  refine wpQuiet_nil ?_
  intro w2 hw2
  have h2 := H1.out.1.below hw2
  have H2 := hide (And.intro h2 (And.intro (H1.out.2.trans (hw2.mono H1.out.1.hN)) (HR1.out.below hw2)))
  clear hw2 h2
  go_wp2_with fail
  refine (step_alive H2.out.1 H.out.2.2.2.2.2.2.1 HS.out.1).mono ?_
  rintro e' w3 ⟨rfl, h3, hg3, hz3⟩
  have hr3 := H2.out.2.2.keepFs H2.out.1 hg3
  have hF3 := h3.fl.at_ i e f H.out.2.2.2.2.1 H.out.2.2.2.2.2.1
  obtain ⟨A4, c4, hv4, hcap4, hmax4⟩ := hF3.val
  have d0 : w3.cell? ⟨e.1, 0, none⟩ = some (.slice A4 f.1.length c4) := by rw [cell_of_row _ _ _ _ _ _ hF3.blk, ← hv4]; rfl
  have hrow : w3.ownsRow N 5 1 (.slice A4 f.1.length c4) f.1.length (u8s f.1) := by rw [← hv4]; exact hF3.row
  have H3 := hide (And.intro h3 (And.intro (H2.out.2.1.trans (below_grown hg3 H2.out.1.lo.1 H2.out.1.lt)) (And.intro hr3 (And.intro hrow (And.intro hv4 hF3)))))
  clear h3 hg3 hz3 hr3 hF3 hv4 hcap4 hmax4 hrow
  go_wp2_with ((with_reducible show wpList _ _ _ ({ dst := _, op := .call { callee := .builtin .append, args := #[_, _], argTypes := #[29, 29] }, type := _, pos := _, after := _, guard := _ } :: _) _ _); refine wpList_append_u8h rfl rfl H3.out.2.2.2.1 H3.out.2.2.1 (by have := HS.out.2.2; omega) H3.out.1.hN ?_; intro A5 c5 w5 hown5 hg5 hb5; have hk5 : w5.heap[e.1]? = some (.cells #[e.2, .int .i64 (f.2 : Int)] 61 (0, 0)) := (hg5.block _ (lt_of_block H3.out.2.2.2.2.2.blk) (fun e0 => row_other H3.out.2.2.2.1 H3.out.2.2.2.2.2.blk (fun a f e1 => by injection e1 with _ e1; exact absurd e1 (by decide)) e0.symm)).trans H3.out.2.2.2.2.2.blk; have f0 := frozen_of_row w5 e.1 0 _ _ hk5; have g0 : w5.cell? ⟨e.1, 0, none⟩ = some (.slice A4 f.1.length c4) := (by rw [cell_of_row _ _ _ _ _ _ hk5, ← H3.out.2.2.2.2.1]; rfl); have H5 := hide (And.intro hown5 (And.intro hg5 (And.intro hb5 hk5))); clear hown5 hg5 hb5 hk5)
  have hF6 : FileAt (w5.setCell ⟨e.1, 0, none⟩ (.slice A5 (f.1.length + m) c5)) N (e.1, .slice A5 (f.1.length + m) c5) (f.1 ++ l, f.2) := by
    refine ⟨H3.out.2.2.2.2.2.lo, ?_, ?_⟩
    · rw [heap_setCell_same _ _ _ _ _ _ H5.out.2.2.2]; rfl
    · have hll := H3.out.2.2.1.len
      have h6 : w5.ownsRow N 5 1 (.slice A5 (f.1.length + m) c5) (f.1 ++ l).length (u8s (f.1 ++ l)) := by
        rw [List.length_append, hll, u8s_append]; exact H5.out.1
      exact h6.kept (grown_setCell (World.grownBy.refl _ _)) (.inr (row_other h6 H5.out.2.2.2 fun a f e0 => by injection e0 with _ e0; exact absurd e0 (by decide)))
  have h7 := H3.out.1.fileMod H.out.2.2.2.2.1 H.out.2.2.2.2.2.1 (by rw [H3.out.2.2.2.2.1]; exact H5.out.2.1) (grown_setCell (World.grownBy.refl w5 _)) hF6 (by
    intro x hx
    rcases H5.out.2.2.1 with h8 | h8
    · left; rw [H3.out.2.2.2.2.1, ← h8]; exact hx
    · right; rw [h8] at hx; injection hx with hx; omega) (g := fun f => (f.1 ++ l, f.2)) rfl (fun f hf => by simp; omega)
  have H7 := hide (And.intro h7.1 (H3.out.2.1.trans h7.2))
  clear h7 hF6
  go_wp2_with fail
  go_ret
  exact ⟨rfl, ⟨_, H7.out.1⟩, H7.out.2⟩
end Go.Proofs.Ytlnmjkilefnjpaa
