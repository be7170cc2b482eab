/-
  The walks of five and of New.
-/
import Derived.Test.YtlpmnnkijdbopaaTys
namespace Go.Proofs.Ytlpmnnkijdbopaa
open Go.RowKit Go.Maps

theorem five_any (w : World) : Calls Try.prog 24 #[] w fun e w' => e = .returned (.slice (some ⟨w.heap.size, 0, none⟩) 5 5) ∧ w' = w.alloc (.cells (fiveL.map tx).toArray 9) := by
  go_enter Try.func24, Try.ntmps24
  go_wp2
  go_ret
  exact ⟨rfl, rfl⟩
/-- the cells of a scalar -/
def scalarC (k : Bs) : List Value := [.int .i64 1, tx k, .slice none 0 0, .slice none 0 0, .slice none 0 0, .slice none 0 0, .int .i64 0]
theorem scalar_rt (w : World) (S : Nat → Prop) (n : Nat) (k : Bs) : RT w S n (scalar k) (scalarC k) :=
  ⟨none, 0, none, 0, none, 0, none, 0, rfl, Sl.nil' _ _ _ _ _, Sl.nil' _ _ _ _ _, Sl.nil' _ _ _ _ _, Sl.nil' _ _ _ _ _⟩
theorem five_len {j : Nat} {s : Bs} (h : fiveL[j]? = some s) : s.length ≤ 7 := by
  have : ∀ s ∈ fiveL, s.length ≤ 7 := by decide
  exact this s (List.mem_of_getElem? h)
structure NewL (n : Nat) (w : World) (T : Ts) (A : Option Addr) (c : Nat) (D : Dir) (V : Nat → Prop) (wr : World) : Prop where
  below : Below w.heap.size w wr
  blk : wr.heap[w.heap.size + 1]? = some (.cells #[.map (some w.heap.size), .slice A T.length c] 51 (0, 0))
  map : Mp wr w.heap.size D
  dlen : D.length ≤ T.length + 5
  get : ∀ k d, find T k = some d → ∃ cs, dget D k = some (.agg cs.toArray) ∧ RT wr V n d cs
  non : ∀ k, find T k = none → dget D k = none
  row : wr.ownsRow (w.heap.size + 2) 9 1 (.slice A T.length c) T.length (T.map fun d => tx d.name)
  vlo : ∀ b, V b → w.heap.size + 2 ≤ b ∧ b < wr.heap.size ∧ A ≠ some ⟨b, 0, none⟩
  few : ∀ d ∈ T, FewT n d
/-- the scalars that are in -/
structure Five (w : World) (j : Nat) (D : Dir) (wr : World) : Prop where
  below : Below w.heap.size w wr
  blk : wr.heap[w.heap.size + 1]? = some (.cells #[.map (some w.heap.size), .slice none 0 0] 51 (0, 0))
  five : wr.heap[w.heap.size + 2]? = some (.cells (fiveL.map tx).toArray 9 (0, 0))
  map : Mp wr w.heap.size D
  dlen : D.length ≤ j
  get : ∀ k, dget D k = if k ∈ fiveL.take j then some (.agg (scalarC k).toArray) else none
theorem Five.step {w wr w' : World} {j : Nat} {D : Dir} {s : Bs} (h : Five w j D wr) (hs : fiveL[j]? = some s) (hm : Mp w' w.heap.size (dput D s (.agg (scalarC s).toArray))) (hg : wr.grownBy w' (some w.heap.size)) : Five w (j + 1) (dput D s (.agg (scalarC s).toArray)) w' := by
  have hk : ∀ b, b < wr.heap.size → b ≠ w.heap.size → w'.heap[b]? = wr.heap[b]? := fun b hb hne => hg.block b hb (by simpa using hne)
  refine ⟨h.below.grown hg h.below.size (fun q hq => by injection hq with hq; omega), by rw [hk _ (lt_of_block h.blk) (by omega)]; exact h.blk, by rw [hk _ (lt_of_block h.five) (by omega)]; exact h.five, hm, ?_, fun k => ?_⟩
  · have := dput_length D s (.agg (scalarC s).toArray); have := h.dlen; omega
  · obtain ⟨hj, e⟩ := List.getElem?_eq_some_iff.1 hs
    rw [dget_put, h.get, List.take_succ_eq_append_getElem hj, e]
    by_cases e2 : s = k
    · subst e2; simp
    · have : (s == k) = false := by simpa using e2
      simp [this, Ne.symm e2]
theorem Five.done {n : Nat} {w wr : World} {D : Dir} (h : Five w 5 D wr) : NewL n w [] none 0 D (fun _ => False) wr := by
  have h5 : fiveL.take 5 = fiveL := rfl
  refine ⟨h.below, h.blk, h.map, by simpa using h.dlen, fun k d hd => ?_, fun k hk => ?_, World.ownsRow_nil _ _ _ _, fun b hb => hb.elim, fun d hd => by simp at hd⟩
  · unfold find at hd
    split at hd
    · injection hd with hd
      subst hd
      rename_i hk
      exact ⟨scalarC k, by rw [h.get, h5, if_pos hk], scalar_rt _ _ _ _⟩
    · simp at hd
  · unfold find at hk
    split at hk
    · cases hk
    · rename_i h0
      rw [h.get, h5, if_neg h0]
theorem lt_of_cell {w : World} {p : Addr} {v : Value} (h : w.cell? p = some v) : p.block < w.heap.size := World.block_lt_of_cell? w p h
section
variable {n : Nat} {w wr w' : World} {T : Ts} {B : Option Addr} {cb : Nat} {E : Dir} {V : Nat → Prop}
theorem NewL.p0 (h : NewL n w T B cb E V wr) : wr.cell? ⟨w.heap.size + 1, 0, none⟩ = some (.map (some w.heap.size)) := by rw [cell_of_row _ _ _ _ _ _ h.blk]; rfl
theorem NewL.p1 (h : NewL n w T B cb E V wr) : wr.cell? ⟨w.heap.size + 1, 1, none⟩ = some (.slice B T.length cb) := by rw [cell_of_row _ _ _ _ _ _ h.blk]; rfl
theorem NewL.more (h : NewL n w T B cb E V wr) (hb : Below wr.heap.size wr w') : NewL n w T B cb E V w' := by
  have hk : ∀ b, V b → w'.heap[b]? = wr.heap[b]? := fun b hv => hb.block b (h.vlo b hv).2.1
  refine ⟨h.below.trans (hb.mono h.below.size), by rw [hb.block _ (lt_of_block h.blk)]; exact h.blk, h.map.same (hb.block _ h.map.lt), h.dlen, fun k d hd => ?_, h.non, owns_below h.row hb (fun g hg => (h.row.lt g hg).2), fun b hv => ?_, h.few⟩
  · obtain ⟨cs, h1, h2⟩ := h.get k d hd
    exact ⟨cs, h1, RT.map (fun _ h => h) hk _ _ h2⟩
  · obtain ⟨h1, h2, h3⟩ := h.vlo b hv
    exact ⟨h1, Nat.lt_of_lt_of_le h2 hb.size, h3⟩
/-- what a look-up yields is a type's cells -/
theorem NewL.seven (h : NewL n w T B cb E V wr) (k : Bs) : ∃ cu : List Value, (dget E k).getD (.agg zeroT.toArray) = .agg cu.toArray ∧ cu.length = 7 ∧ (∀ u ∈ cu, u.oneCell' = true) ∧ (dget E k).isSome = (find T k).isSome := by
  cases hf : find T k with
  | none =>
    rw [h.non k hf]
    exact ⟨zeroT, rfl, rfl, by decide, rfl⟩
  | some d =>
    obtain ⟨cs, h1, h2⟩ := h.get k d hf
    rw [h1]
    refine ⟨cs, rfl, ?_, h2.one, rfl⟩
    obtain ⟨_, _, _, _, _, _, _, _, e, _⟩ := h2
    rw [e]; rfl
theorem NewL.add {d : Td} {cs : List Value} {V' : Nat → Prop} {w3 w4 w5 : World} {B' : Option Addr} {c' : Nat} (h : NewL n w T B cb E V wr) (hn : find T d.name = none) (hfew : FewT n d) (hRT : RT wr V' n d cs) (hV' : ∀ b, V' b → w.heap.size + 2 ≤ b ∧ b < wr.heap.size ∧ B ≠ some ⟨b, 0, none⟩)
    (hm : Mp w3 w.heap.size (dput E d.name (.agg cs.toArray))) (hg3 : wr.grownBy w3 (some w.heap.size)) (hb4 : Below w3.heap.size w3 w4)
    (hrow : w5.ownsRow (w.heap.size + 2) 9 1 (.slice B' (T.length + 1) c') (T.length + 1) (T.map (fun d => tx d.name) ++ [tx d.name])) (hg5 : w4.grownBy w5 (Value.slice B T.length cb).ownBlock)
    (hfr : (Value.slice B' (T.length + 1) c').ownBlock = (Value.slice B T.length cb).ownBlock ∨ (Value.slice B' (T.length + 1) c').ownBlock = some w4.heap.size) :
    NewL n w (T ++ [d]) B' c' (dput E d.name (.agg cs.toArray)) (fun b => V b ∨ V' b) (w5.setCell ⟨w.heap.size + 1, 1, none⟩ (.slice B' (T.length + 1) c')) := by
  have s3 := hg3.size
  have s4 := hb4.size
  have s5 := hg5.size
  have hp := lt_of_block h.blk
  have hBf : ∀ q, (Value.slice B T.length cb).ownBlock = some q → w.heap.size + 2 ≤ q ∧ q < wr.heap.size ∧ B = some ⟨q, 0, none⟩ := fun q hq => by
    rcases h.row.2 with ⟨hv, _⟩ | ⟨g, cap, cur, hv, hb, hgb, _⟩
    · rw [hv] at hq; cases hq
    · rw [hv] at hq
      have : g = q := by simpa [Value.ownBlock] using hq
      subst this
      injection hv with hv
      exact ⟨hb, lt_of_block hgb, hv⟩
  have k5 : ∀ b, b < wr.heap.size → b ≠ w.heap.size → B ≠ some ⟨b, 0, none⟩ → w5.heap[b]? = wr.heap[b]? := fun b hb h1 h2 => by
    rw [hg5.block b (by omega) (fun e => h2 (hBf b e.symm).2.2), hb4.block b (by omega), hg3.block b hb (by simpa using h1)]
  have k6 : ∀ b, b < wr.heap.size → b ≠ w.heap.size → B ≠ some ⟨b, 0, none⟩ → b ≠ w.heap.size + 1 → (w5.setCell ⟨w.heap.size + 1, 1, none⟩ (.slice B' (T.length + 1) c')).heap[b]? = wr.heap[b]? := fun b hb h1 h2 h3 => by
    rw [heap_setCell_other _ _ _ _ (by simpa using h3)]; exact k5 b hb h1 h2
  have hpB : B ≠ some ⟨w.heap.size + 1, 0, none⟩ := fun e => by have := (hBf (w.heap.size + 1) (by rw [e]; rfl)).1; omega
  have hmB : ∀ q, (Value.slice B T.length cb).ownBlock = some q → q ≠ w.heap.size := fun q hq => by have := (hBf q hq).1; omega
  have kV : ∀ b, V b ∨ V' b → w.heap.size + 2 ≤ b ∧ b < wr.heap.size ∧ B ≠ some ⟨b, 0, none⟩ := fun b hb => hb.elim (h.vlo b) (hV' b)
  have kVh : ∀ b, V b ∨ V' b → (w5.setCell ⟨w.heap.size + 1, 1, none⟩ (.slice B' (T.length + 1) c')).heap[b]? = wr.heap[b]? := fun b hb => by
    obtain ⟨h1, h2, h3⟩ := kV b hb
    exact k6 b h2 (by omega) h3 (by omega)
  refine ⟨?_, ?_, ?_, ?_, fun k e hk => ?_, fun k hk => ?_, ?_, fun b hb => ?_, fun e he => ?_⟩
  · exact ((((h.below.grown hg3 h.below.size (fun q hq => by injection hq with hq; omega)).trans (hb4.mono (by have := h.below.size; omega))).grown hg5 (by have := h.below.size; omega) (fun q hq => by have := (hBf q hq).1; omega))).setCell (by simp) _
  · have hb5 : w5.heap[w.heap.size + 1]? = _ := (k5 _ hp (by omega) hpB).trans h.blk
    have := heap_setCell_same w5 (w.heap.size + 1) 1 _ _ (.slice B' (T.length + 1) c') hb5
    simpa using this
  · refine hm.same ?_
    rw [heap_setCell_other _ _ _ _ (by simp), hg5.block _ (by have := h.map.lt; omega) (fun e => hmB _ e.symm rfl), hb4.block _ (by have := h.map.lt; omega)]
  · have := dput_length E d.name (.agg cs.toArray); have := h.dlen; simp; omega
  · rw [find_add hn] at hk
    rw [dget_put]
    by_cases e2 : (d.name == k) = true
    · rw [if_pos e2] at hk ⊢
      injection hk with hk
      subst hk
      exact ⟨cs, rfl, RT.map (fun b hb => .inr hb) (fun b hb => kVh b (.inr hb)) _ _ hRT⟩
    · rw [if_neg e2] at hk ⊢
      obtain ⟨cs', h1, h2⟩ := h.get k e hk
      exact ⟨cs', h1, RT.map (fun b hb => .inl hb) (fun b hb => kVh b (.inl hb)) _ _ h2⟩
  · rw [find_add hn] at hk
    rw [dget_put]
    by_cases e2 : (d.name == k) = true
    · rw [if_pos e2] at hk; cases hk
    · rw [if_neg e2] at hk ⊢
      exact h.non k hk
  · have := owns_setCell_off (.slice B' (T.length + 1) c') hrow (b := w.heap.size + 1) (o := 1) (by omega)
    simpa using this
  · obtain ⟨h1, h2, h3⟩ := kV b hb
    refine ⟨h1, by simp; omega, fun e => ?_⟩
    rcases hfr with hfr | hfr
    · rw [e] at hfr
      exact h3 (hBf b (by rw [← hfr]; rfl)).2.2
    · rw [e] at hfr
      have : b = w4.heap.size := by simpa [Value.ownBlock] using hfr
      omega
  · rcases List.mem_append.1 he with he | he
    · exact h.few e he
    · rw [List.mem_singleton.1 he]; exact hfew
end
theorem mkT_snoc (l : List Td) {k : Nat} (hk : k < l.length) : mkT (l.take (k + 1)) = add1 (mkT (l.take k)) l[k] := by
  unfold mkT
  rw [List.take_succ_eq_append_getElem hk, List.foldl_append]
  rfl
theorem mkT_length (l : List Td) : (mkT l).length ≤ l.length := by
  have h : ∀ (l : List Td) (T : Ts), (l.foldl add1 T).length ≤ T.length + l.length := by
    intro l
    induction l with
    | nil => intro T; simp
    | cons d r ih =>
      intro T
      rw [List.foldl_cons]
      have := ih (add1 T d)
      have h2 : (add1 T d).length ≤ T.length + 1 := by
        unfold add1
        split <;> simp
      simp
      omega
  simpa [mkT] using h l []
theorem wp_mapUpdate_run {P : Program} {op : Oper} {a : Act} {w w' : World} {K : Act → World → Prop} {Q : Exit → Act → World → Prop} {t : TypeId} {m x v : Operand} {mv xv u : Value} (ho : op.op = .mapUpdate t m x v) (hm : a.eval m = mv) (hx : a.eval x = xv) (hv : a.eval v = u)
    (h : (Instr.mapUpdate t mv xv u).run P w = .ok () w') (hK : K (a.put op.dst undef) w') : op.wp P a w K Q := by
  refine wp_run_skip ?_ hK
  subst hm hx hv
  unfold execOp
  simp only [ho, Sem.run_bind, h, Sem.run_pure, Result.andThen_ok]
theorem infoS' : ∃ i : TypeInfo, Try.prog.info? 9 = some i ∧ i.zero = some (.string ⟨#[]⟩) ∧ i.size = 1 ∧ i.bytes = 16 := info_parts Try.infoS
set_option maxRecDepth 10000 in
/-- a name put behind names -/
theorem run_append_name {w : World} {base n c b : Nat} {rt : TypeId} {B : Option Addr} {xs : List Value} {u : Value} (hown : w.ownsRow base 9 1 (.slice B n c) n xs) (hc : w.cell? ⟨b, 0, none⟩ = some u) (h1 : u.oneCell' = true) (hn : n ≤ 1000) (hbase : base ≤ w.heap.size) :
    ∃ B' c' w', (Builtin.append_ #[31, 31] rt #[.slice B n c, .slice (some ⟨b, 0, none⟩) 1 1]).run Try.prog w = .ok (.slice B' (n + 1) c') w' ∧ w'.ownsRow base 9 1 (.slice B' (n + 1) c') (n + 1) (xs ++ [u]) ∧ w.grownBy w' (Value.slice B n c).ownBlock ∧
      ((Value.slice B' (n + 1) c').ownBlock = (Value.slice B n c).ownBlock ∨ (Value.slice B' (n + 1) c').ownBlock = some w.heap.size) := by
  obtain ⟨i0, hi, hz0, hz1, hz2⟩ := infoS'
  obtain ⟨v', w', hrun, h2, h3, _, h5⟩ := run_append_own_at (P := Try.prog) w base 31 rt 9 i0 (.string ⟨#[]⟩) 1 16 Try.underlying31 hi hz0 hz1 hz2 rfl (by decide) _ n xs hown ⟨b, 0, none⟩ 1 1 [u] (by simp) (fun j v hv => by
    match j with
    | 0 => injection hv with hv; subst hv; exact hc
    | j + 1 => simp at hv) (fun v hv => by rw [List.mem_singleton.1 hv]; exact h1) (by unfold maxLen; omega) (by omega) hbase
  rcases h2.2 with ⟨hv, h0⟩ | ⟨g, cap, cur, hv, _⟩
  · omega
  · subst hv
    exact ⟨some ⟨g, 0, none⟩, cap, w', hrun, h2, h3, h5⟩
def NewPost (n : Nat) (l : List Td) (w : World) (e : Ending) (w' : World) : Prop := ∃ X, e = .returned (.pointer (some ⟨w.heap.size + 1, 0, none⟩)) ∧ TysX n w' w.heap.size w'.heap.size (w.heap.size + 1) (mkT l) X ∧ Below w.heap.size w w'
set_option maxRecDepth 20000 in
set_option maxHeartbeats 3200000 in
theorem new_any {S : Nat → Prop} {n : Nat} {l : List Td} {A : Option Addr} {w : World} (c : Nat) (h : Sl w S 7 A (RT w S n) l) (hS : ∀ b, S b → b < w.heap.size) (hf : FewL n l) :
    Calls Try.prog 9 #[.slice A l.length c] w (NewPost n l w) := by
  obtain ⟨f1, f2⟩ := hf
  have i1 : (l.length : Int) ≤ 80 := by omega
  have H := hide (And.intro h (And.intro hS f2))
  clear h hS f2
  have hmm := @run_makeMap Try.prog
  go_enter Try.func9, Try.ntmps9
  go_wp2_with fail
  refine (five_any _).mono ?_
  rintro e w1 ⟨rfl, hw1⟩
  have HF0 : Hid (Five w 0 [] w1) := hide (by
    rw [hw1]
    refine ⟨?_, ?_, ?_, Mp.of (World.ownsMap.alloc (World.ownsMap.alloc (World.ownsMap_made w _ _ _) _) _), Nat.le_refl _, fun k => rfl⟩
    · exact (((Below.refl _ w).alloc (Nat.le_refl _) _).alloc (by simp) _).alloc (by simp; omega) _
    · rw [heap_alloc_old _ _ (by simp)]
      have := heap_alloc_new (w.alloc (.map #[] 0)) (.cells #[.map (some w.heap.size), .slice none 0 0] 51)
      simpa using this
    · have := heap_alloc_new ((w.alloc (.map #[] 0)).alloc (.cells #[.map (some w.heap.size), .slice none 0 0] 51)) (.cells (fiveL.map tx).toArray 9)
      simpa using this)
  clear hw1 hmm
  have hsz2 : ((w.alloc (.map #[] 0)).alloc (.cells #[.map (some w.heap.size), .slice none 0 0] 51)).heap.size = w.heap.size + 2 := by simp
  rw [hsz2]
  clear hsz2
  go_wp2_with fail
  go_loopw [15] (fun i wr => ∃ j : Nat, j ≤ 5 ∧ i = .int .i64 j ∧ Hid (∃ D, Five w j D wr)) (fun i _ => 5 - (intOf i).toNat)
  case atStart => exact ⟨0, by omega, rfl, hide ⟨[], HF0.out⟩⟩
  case round =>
    obtain ⟨j, hj, rfl, HR⟩ := hrel
    obtain ⟨D, hR⟩ := HR.out
    clear HR HF0
    by_cases hlt : j < 5
    · obtain ⟨s, hs⟩ : ∃ s, fiveL[j]? = some s := ⟨_, List.getElem?_eq_getElem (show j < fiveL.length from hlt)⟩
      have hc : wr.cell? ⟨w.heap.size + 2, j, none⟩ = some (tx s) := by
        rw [cell_of_row _ _ _ _ _ _ hR.five]
        simp [hs]
      have hp : wr.cell? ⟨w.heap.size + 1, 0, none⟩ = some (.map (some w.heap.size)) := by rw [cell_of_row _ _ _ _ _ _ hR.blk]; rfl
      have hjl : (j : Int) < 5 := by omega
      have HK := hide (And.intro hR hs)
      clear hR hs
      go_wp2_with (at_mapUpdate; refine wpList_tput rfl HK.out.1.map rfl rfl (by have := five_len HK.out.2; unfold maxLen; omega) (by have := HK.out.1.dlen; omega) ?_; intro w2 hm2 hg2; have HZ := hide (HK.out.1.step HK.out.2 hm2 hg2); clear hm2 hg2 hc hp)
      go_roundw
      case rel => exact ⟨j + 1, by omega, by go_num, hide ⟨_, HZ.out⟩⟩
      case measure => simp [intOf]; omega
    · have h5 : j = 5 := by omega
      obtain ⟨wk, hwk⟩ : ∃ wk, wk = wr := ⟨_, rfl⟩
      rw [← hwk] at hR ⊢
      have HN : Hid (NewL n w [] none 0 D (fun _ => False) wk) := hide (by rw [h5] at hR; exact hR.done (n := n))
      clear hR hwk h5
      go_wp2_with fail
      go_loopw [29] (fun i wr => ∃ k : Nat, k ≤ l.length ∧ i = .int .i64 k ∧ Hid (∃ A c D V, NewL n w (mkT (l.take k)) A c D V wr)) (fun i _ => l.length - (intOf i).toNat)
      case atStart => exact ⟨0, Nat.zero_le _, rfl, hide ⟨_, _, _, _, HN.out⟩⟩
      case round =>
        obtain ⟨k, hk, rfl, HR⟩ := hrel
        obtain ⟨B, cb, E, V, hR⟩ := HR.out
        clear HR HN
        by_cases hlk : k < l.length
        · obtain ⟨b, o, hA1, hel⟩ := H.out.1.addr
          obtain ⟨hA1, hSb⟩ := hA1 (ne_nil_of_lt hlk)
          obtain ⟨ce, _, hr, hRT⟩ := hel k _ (List.getElem?_eq_getElem hlk)
          obtain ⟨d, hd⟩ : ∃ d, d = l[k] := ⟨_, rfl⟩
          have hfd := H.out.2.2 _ (List.getElem_mem hlk)
          have hTd := mkT_snoc l hlk
          rw [← hd] at hRT hfd hTd
          have hwS : ∀ b, S b → wr.heap[b]? = w.heap[b]? := fun b hb => hR.below.block b (H.out.2.1 b hb)
          replace hr := range_congr (hwS b hSb) hr
          replace hRT := RT.map (fun _ h => h) hwS _ _ hRT
          have hRT0 := hRT
          obtain ⟨A1, c1, A2, c2, A3, c3, A4, c4, e, hrest⟩ := hRT
          clear hrest
          subst e
          obtain ⟨T, hT⟩ : ∃ T, T = mkT (l.take k) := ⟨_, rfl⟩
          rw [← hT] at hR hTd
          have hTl : T.length ≤ k := by rw [hT]; have := mkT_length (l.take k); simp at this; omega
          have HN := hide (And.intro hA1 (And.intro hr (And.intro hRT0 (And.intro hfd (And.intro hTd (And.intro hR hT))))))
          have hSr : ∀ b, S b → b < wr.heap.size := fun b hb => Nat.lt_of_lt_of_le (H.out.2.1 b hb) hR.below.size
          clear hA1 hr hRT0 hfd hTd hel hwS hSb hR hd hT
          go_wp2_with (first
            | ((with_reducible show wpList _ _ _ ({ dst := _, op := .indexAddr 22 _ _, type := _, pos := _, after := _, guard := _ } :: _) _ _); refine wpList_index Try.underlying22 Try.sizeT rfl rfl HN.out.1 hlk rfl ?_)
            | ((with_reducible show wpList _ _ _ ({ dst := _, op := .load 35 _, type := _, pos := _, after := _, guard := _ } :: _) _ _); refine wpList_loadE rfl HN.out.2.1 Try.underlying35 rfl Try.sizeT rfl ?_)
            | ((with_reducible show wpList _ _ _ ({ dst := _, op := .store 35 _ _, type := _, pos := _, after := _, guard := _ } :: _) _ _); refine wpList_store_new rfl rfl rfl Try.sizeT rfl rfl ?_))
          obtain ⟨wa, hwa⟩ : ∃ wa, wa = wr.alloc (.cells #[.int .i64 d.kind, tx d.name, .slice A1 d.impls.length c1, .slice A2 d.fields.length c2, .slice A3 d.members.length c3, .slice A4 d.inputs.length c4, .int .i64 d.pos] 35) := ⟨_, rfl⟩
          rw [← hwa]
          have hsa : wa.heap.size = wr.heap.size + 1 := by rw [hwa]; simp
          have hba : Below wr.heap.size wr wa := by rw [hwa]; exact (Below.refl _ wr).alloc (Nat.le_refl _) _
          have hbx : wa.heap[wr.heap.size]? = some (.cells #[.int .i64 d.kind, tx d.name, .slice A1 d.impls.length c1, .slice A2 d.fields.length c2, .slice A3 d.members.length c3, .slice A4 d.inputs.length c4, .int .i64 d.pos] 35 (0, 0)) := by rw [hwa]; exact heap_alloc_new wr _
          have x1 : wa.cell? ⟨wr.heap.size, 1, none⟩ = some (tx d.name) := by rw [cell_of_row _ _ _ _ _ _ hbx]; rfl
          have HA := hide (And.intro (HN.out.2.2.2.2.2.1.more hba) (And.intro hba (And.intro hbx hwa)))
          have p0 := HA.out.1.p0
          obtain ⟨cu, hcu, hcul, hcu1, hq⟩ := HA.out.1.seven d.name
          have hnl : d.name.length ≤ maxLen := by have := HN.out.2.2.2.1.name; unfold maxLen; omega
          have HL := hide (And.intro hcu (And.intro hcul (And.intro hcu1 (And.intro hq hnl))))
          clear hwa hba hbx hcu hcul hcu1 hq hnl
          refine wp_region_G (fun w' => Below wa.heap.size wa w') (fun _ => true) (by kernel_rfl) ((Below.refl _ _).drew) (fun hS => ?_)
          refine wpG_take 0 rfl (by kernel_rfl) (fun _ _ _ h => h) (by rfl) (fun w' hw => by go_simp; rfl) hS (fun _ => ?_)
          simp only [Act.put, List.setIfInBounds_toArray, List.set_cons_zero, List.set_cons_succ]
          refine wpG_take 1 rfl (by kernel_rfl) (fun _ _ _ h => h) (by rfl) (fun w' hw => by go_simp; rfl) hS (fun _ => ?_)
          simp only [Act.put, List.setIfInBounds_toArray, List.set_cons_zero, List.set_cons_succ]
          refine wpG_take 2 rfl (by kernel_rfl) (fun _ _ _ h => h) (by rfl) (fun w' hw => by go_simp; rfl) hS (fun _ => ?_)
          simp only [Act.put, List.setIfInBounds_toArray, List.set_cons_zero, List.set_cons_succ]
          refine wpG_load 3 rfl (by kernel_rfl) (fun _ _ _ h => h) (by rfl) rfl (v := .map (some w.heap.size)) (fun w' hw => by have := (hw.cell (lt_of_cell (p0))).trans (p0); clear hw; go_simp) hS (fun _ => ?_)
          simp only [Act.put, List.setIfInBounds_toArray, List.set_cons_zero, List.set_cons_succ]
          refine wpG_take 4 rfl (by kernel_rfl) (fun _ _ _ h => h) (by rfl) (fun w' hw => by go_simp; rfl) hS (fun _ => ?_)
          simp only [Act.put, List.setIfInBounds_toArray, List.set_cons_zero, List.set_cons_succ]
          refine wpG_load 5 rfl (by kernel_rfl) (fun _ _ _ h => h) (by rfl) rfl (v := tx d.name) (fun w' hw => by have := (hw.cell (lt_of_cell (x1))).trans (x1); clear hw; go_simp) hS (fun _ => ?_)
          simp only [Act.put, List.setIfInBounds_toArray, List.set_cons_zero, List.set_cons_succ]
          refine wpG_lookup 6 rfl (by kernel_rfl) (fun _ _ _ h => h) (by rfl) rfl (v := .tuple #[.agg cu.toArray, .bool (find T d.name).isSome]) (fun w' hw => by rw [← HL.out.1, ← HL.out.2.2.2.1]; exact Mp.getOk (HA.out.1.map.same (hw.block _ HA.out.1.map.lt)) HL.out.2.2.2.2) hS (fun _ => ?_)
          simp only [Act.put, List.setIfInBounds_toArray, List.set_cons_zero, List.set_cons_succ]
          refine wpG_take 7 rfl (by kernel_rfl) (fun _ _ _ h => h) (by rfl) (fun w' hw => by go_simp; rfl) hS (fun _ => ?_)
          simp only [Act.put, List.setIfInBounds_toArray, List.set_cons_zero, List.set_cons_succ]
          refine wpG_take 8 rfl (by kernel_rfl) (fun _ _ _ h => h) (by rfl) (fun w' hw => by go_simp; rfl) hS (fun _ => ?_)
          simp only [Act.put, List.setIfInBounds_toArray, List.set_cons_zero, List.set_cons_succ]
          refine wpG_take 9 rfl (by kernel_rfl) (fun _ _ _ h => h) (by rfl) (fun w' hw => by go_simp; rfl) hS (fun _ => ?_)
          simp only [Act.put, List.setIfInBounds_toArray, List.set_cons_zero, List.set_cons_succ]
          refine wpG_one 10 rfl (by kernel_rfl) (by rfl) (fun K hK => ?_)
          go_simp
          refine hK _ _ (fun _ => ((Below.refl _ wa).alloc (Nat.le_refl _) _).drew) (fun _ => ?_)
          clear hK K hS
          obtain ⟨wz, hwz⟩ : ∃ wz, wz = (wa.alloc (.cells #[.int .i64 0, .string ⟨#[]⟩, .slice none 0 0, .slice none 0 0, .slice none 0 0, .slice none 0 0, .int .i64 0] 35)).drew := ⟨_, rfl⟩
          rw [← hwz]
          have hbz : Below wa.heap.size wa wz := by rw [hwz]; exact ((Below.refl _ wa).alloc (Nat.le_refl _) _).drew
          have hz : wz.heap[wr.heap.size + 1]? = some (.cells #[.int .i64 0, .string ⟨#[]⟩, .slice none 0 0, .slice none 0 0, .slice none 0 0, .slice none 0 0, .int .i64 0] 35 (0, 0)) := by rw [hwz, ← hsa]; exact heap_alloc_new wa _
          have HZ := hide (And.intro hbz hz)
          clear hwz hbz hz
          refine wpG_one 11 rfl (by kernel_rfl) (by rfl) (fun K hK => ?_)
          refine wp_store_row _ _ _ rfl (wr.heap.size + 1) cu.toArray rfl rfl 35 _ HZ.out.2 (by rw [Try.sizeT]; simp [HL.out.2.1]) (by simp [HL.out.2.1]) (all_oneCell_toArray HL.out.2.2.1) ?_
          refine hK _ _ (fun _ => below_setRow HZ.out.1 (by omega) _) (fun _ => ?_)
          clear hK K
          obtain ⟨wy, hwy⟩ : ∃ wy, wy = wz.setRow (wr.heap.size + 1) cu.toArray := ⟨_, rfl⟩
          rw [← hwy]
          have hS : Below wa.heap.size wa wy := by rw [hwy]; exact below_setRow HZ.out.1 (by omega) _
          clear hwy HZ
          refine wpG_take 12 rfl (by kernel_rfl) (fun _ _ _ h => h) (by rfl) (fun w' hw => by go_simp; rfl) hS (fun _ => ?_)
          simp only [Act.put, List.setIfInBounds_toArray, List.set_cons_zero, List.set_cons_succ]
          refine wpG_done (by kernel_rfl) ?_
          have hyb : wy.heap[wr.heap.size]? = some (.cells #[.int .i64 d.kind, tx d.name, .slice A1 d.impls.length c1, .slice A2 d.fields.length c2, .slice A3 d.members.length c3, .slice A4 d.inputs.length c4, .int .i64 d.pos] 35 (0, 0)) := by rw [hS.block _ (lt_of_block HA.out.2.2.1)]; exact HA.out.2.2.1
          have HY := hide (And.intro (HA.out.1.more hS) (And.intro hS hyb))
          clear hyb
          have hby : Below wr.heap.size wr wy := HA.out.2.1.trans (hS.mono (by omega))
          clear hS p0 x1
          obtain ⟨q, hq⟩ : ∃ q, q = (find T d.name).isSome := ⟨_, rfl⟩
          rw [← hq]
          have HQ := hide hq
          have HBY := hide hby
          clear hq hby
          cases q with
          | true =>
            go_wp2
            go_roundw
            case rel => exact ⟨k + 1, by omega, by go_num, hide ⟨B, cb, E, V, by rw [HN.out.2.2.2.2.1]; unfold add1; rw [← HQ.out]; exact HY.out.1⟩⟩
            case measure => simp [intOf]; omega
          | false =>
            have hfn : find T d.name = none := by have := HQ.out; cases hf : find T d.name with | none => rfl | some _ => rw [hf] at this; cases this
            have HF := hide hfn
            clear hfn
            have p0 := HY.out.1.p0
            have x1 : wy.cell? ⟨wr.heap.size, 1, none⟩ = some (tx d.name) := by rw [cell_of_row _ _ _ _ _ _ HY.out.2.2]; rfl
            go_wp2_with fail
            refine wp_region_G (fun w' => Below wy.heap.size wy w') (fun j => decide (j < 8)) (by kernel_rfl) ((Below.refl _ _).drew) (fun hS => ?_)
            refine wpG_take 0 rfl (by kernel_rfl) (fun _ _ _ h => h) (by rfl) (fun w' hw => by go_simp; rfl) hS (fun _ => ?_)
            simp only [Act.put, List.setIfInBounds_toArray, List.set_cons_zero, List.set_cons_succ]
            refine wpG_take 1 rfl (by kernel_rfl) (fun _ _ _ h => h) (by rfl) (fun w' hw => by go_simp; rfl) hS (fun _ => ?_)
            simp only [Act.put, List.setIfInBounds_toArray, List.set_cons_zero, List.set_cons_succ]
            refine wpG_take 2 rfl (by kernel_rfl) (fun _ _ _ h => h) (by rfl) (fun w' hw => by go_simp; rfl) hS (fun _ => ?_)
            simp only [Act.put, List.setIfInBounds_toArray, List.set_cons_zero, List.set_cons_succ]
            refine wpG_load 3 rfl (by kernel_rfl) (fun _ _ _ h => h) (by rfl) rfl (v := .map (some w.heap.size)) (fun w' hw => by have := (hw.cell (lt_of_cell (p0))).trans (p0); clear hw; go_simp) hS (fun _ => ?_)
            simp only [Act.put, List.setIfInBounds_toArray, List.set_cons_zero, List.set_cons_succ]
            refine wpG_take 4 rfl (by kernel_rfl) (fun _ _ _ h => h) (by rfl) (fun w' hw => by go_simp; rfl) hS (fun _ => ?_)
            simp only [Act.put, List.setIfInBounds_toArray, List.set_cons_zero, List.set_cons_succ]
            refine wpG_load 5 rfl (by kernel_rfl) (fun _ _ _ h => h) (by rfl) rfl (v := tx d.name) (fun w' hw => by have := (hw.cell (lt_of_cell (x1))).trans (x1); clear hw; go_simp) hS (fun _ => ?_)
            simp only [Act.put, List.setIfInBounds_toArray, List.set_cons_zero, List.set_cons_succ]
            refine wpG_load 6 rfl (by kernel_rfl) (fun _ _ _ h => h) (by rfl) rfl (v := .agg #[.int .i64 d.kind, tx d.name, .slice A1 d.impls.length c1, .slice A2 d.fields.length c2, .slice A3 d.members.length c3, .slice A4 d.inputs.length c4, .int .i64 d.pos]) (fun w' hw => run_loadAt_mid w' wr.heap.size 0 35 [.int .i64 d.kind, tx d.name, .slice A1 d.impls.length c1, .slice A2 d.fields.length c2, .slice A3 d.members.length c3, .slice A4 d.inputs.length c4, .int .i64 d.pos] _ (fun j u hu => by rw [cell_of_row _ _ _ _ _ _ ((hw.block _ (lt_of_block HY.out.2.2)).trans HY.out.2.2), Nat.zero_add]; simpa using hu) Try.underlying35 rfl (by rw [Try.sizeT]; rfl)) hS (fun _ => ?_)
            simp only [Act.put, List.setIfInBounds_toArray, List.set_cons_zero, List.set_cons_succ]
            refine wpG_one 7 rfl (by kernel_rfl) (by rfl) (fun K hK => ?_)
            go_simp
            refine (own_any (S := S) (n := n) (t := d) (cs := [.int .i64 d.kind, tx d.name, .slice A1 d.impls.length c1, .slice A2 d.fields.length c2, .slice A3 d.members.length c3, .slice A4 d.inputs.length c4, .int .i64 d.pos]) (RT.map (w' := wy.drew) (fun _ h => h) (fun b hb => HBY.out.block b (hSr b hb)) _ _ HN.out.2.2.1) (fun b hb => Nat.lt_of_lt_of_le (hSr b hb) HBY.out.size) HN.out.2.2.2.1).mono ?_
            rintro e w2 ⟨cs, rfl, hRT2, hb2⟩
            have hb2' : Below wy.heap.size wy w2 := ⟨hb2.os, hb2.tape, hb2.output, hb2.size, hb2.block⟩
            refine hK _ _ (fun _ => hb2') (fun _ => ?_)
            have HM := hide (And.intro hRT2 (And.intro hb2' (HY.out.1.more hb2')))
            clear hRT2 hb2 hb2' hK K hS p0 x1
            refine wpG_one 8 rfl (by kernel_rfl) (by rfl) (fun K hK => ?_)
            obtain ⟨w3, hrun3, hm3, hg3⟩ := Mp.put (.agg cs.toArray) HM.out.2.2.map HL.out.2.2.2.2 (by have := HM.out.2.2.dlen; omega)
            refine wp_mapUpdate_run rfl rfl rfl rfl hrun3 ?_
            refine hK _ _ (fun h => by simp at h) (fun _ => wpG_done (by kernel_rfl) ?_)
            have H3 := hide (And.intro hm3 hg3)
            have hs3 := hg3.size
            clear hrun3 hm3 hg3 hK K
            have hw3 : ∀ b, b < w2.heap.size → b ≠ w.heap.size → w3.heap[b]? = w2.heap[b]? := fun b hb hne => H3.out.2.block b hb (by simpa using hne)
            have hwl := HM.out.2.2.below.size
            have hwr : w.heap.size < wr.heap.size := by have := lt_of_block HN.out.2.2.2.2.2.1.blk; omega
            have hs2 := HM.out.2.1.size
            have hsy := HBY.out.size
            have p1 : w3.cell? ⟨w.heap.size + 1, 1, none⟩ = some (.slice B T.length cb) := by rw [cell_congr (hw3 _ (lt_of_block HM.out.2.2.blk) (by omega))]; exact HM.out.2.2.p1
            have hyl := lt_of_block HY.out.2.2
            have x1 : w3.cell? ⟨wr.heap.size, 1, none⟩ = some (tx d.name) := by
              rw [cell_congr (hw3 _ (by omega) (by omega)), cell_congr (HM.out.2.1.block _ hyl), cell_of_row _ _ _ _ _ _ HY.out.2.2]; rfl
            have HW3 := hide hw3
            clear hw3
            go_wp2_with fail
            refine wp_region_G (fun w' => w'.cell? ⟨w.heap.size + 1, 1, none⟩ = some (.slice B T.length cb) ∧ w'.cell? ⟨wr.heap.size, 1, none⟩ = some (tx d.name)) (fun j => decide (j < 9)) (by kernel_rfl) (⟨by simpa using p1, by simpa using x1⟩) (fun hS => ?_)
            refine wpG_take 0 rfl (by kernel_rfl) (fun _ _ _ h => h) (by rfl) (fun w' hw => by go_simp; rfl) hS (fun _ => ?_)
            simp only [Act.put, List.setIfInBounds_toArray, List.set_cons_zero, List.set_cons_succ]
            refine wpG_take 1 rfl (by kernel_rfl) (fun _ _ _ h => h) (by rfl) (fun w' hw => by go_simp; rfl) hS (fun _ => ?_)
            simp only [Act.put, List.setIfInBounds_toArray, List.set_cons_zero, List.set_cons_succ]
            refine wpG_take 2 rfl (by kernel_rfl) (fun _ _ _ h => h) (by rfl) (fun w' hw => by go_simp; rfl) hS (fun _ => ?_)
            simp only [Act.put, List.setIfInBounds_toArray, List.set_cons_zero, List.set_cons_succ]
            refine wpG_take 3 rfl (by kernel_rfl) (fun _ _ _ h => h) (by rfl) (fun w' hw => by go_simp; rfl) hS (fun _ => ?_)
            simp only [Act.put, List.setIfInBounds_toArray, List.set_cons_zero, List.set_cons_succ]
            refine wpG_load 4 rfl (by kernel_rfl) (fun _ _ _ h => h) (by rfl) rfl (v := .slice B T.length cb) (fun w' hw => by have := hw.1; clear hw; go_simp) hS (fun _ => ?_)
            simp only [Act.put, List.setIfInBounds_toArray, List.set_cons_zero, List.set_cons_succ]
            refine wpG_take 5 rfl (by kernel_rfl) (fun _ _ _ h => h) (by rfl) (fun w' hw => by go_simp; rfl) hS (fun _ => ?_)
            simp only [Act.put, List.setIfInBounds_toArray, List.set_cons_zero, List.set_cons_succ]
            refine wpG_load 6 rfl (by kernel_rfl) (fun _ _ _ h => h) (by rfl) rfl (v := tx d.name) (fun w' hw => by have := hw.2; clear hw; go_simp) hS (fun _ => ?_)
            simp only [Act.put, List.setIfInBounds_toArray, List.set_cons_zero, List.set_cons_succ]
            refine wpG_one 7 rfl (by kernel_rfl) (by rfl) (fun K hK => ?_)
            go_simp
            have hb4 : Below w3.heap.size w3 (w3.alloc (.cells #[tx d.name] 9)).drew := ((Below.refl _ w3).alloc (Nat.le_refl _) _).drew
            have hn4 : (w3.alloc (.cells #[tx d.name] 9)).drew.cell? ⟨w3.heap.size, 0, none⟩ = some (tx d.name) := by
              rw [World.cell?_drew, cell_of_row _ _ _ _ _ _ (heap_alloc_new w3 _)]; rfl
            obtain ⟨w4, hw4⟩ : ∃ w4, w4 = (w3.alloc (.cells #[tx d.name] 9)).drew := ⟨_, rfl⟩
            rw [← hw4] at hb4 hn4 ⊢
            have q1 := (hb4.cell (lt_of_cell p1)).trans p1
            have qx := (hb4.cell (lt_of_cell x1)).trans x1
            refine hK _ _ (fun _ => ⟨q1, qx⟩) (fun _ => ?_)
            have hr3 := HM.out.2.2.row.kept H3.out.2 (.inr (fun e => by
              cases hv : (Value.slice B T.length cb).ownBlock with
              | none => rw [hv] at e; cases e
              | some g => rw [hv] at e; injection e with e; have := (HM.out.2.2.row.lt g hv).1; omega))
            have hr4 := owns_below hr3 hb4 (fun g hg => (hr3.lt g hg).2)
            have hs4 := hb4.size
            have H4 := hide (And.intro hb4 (And.intro hr4 hn4))
            clear hw4 hb4 hn4 hr3 hr4 hK K hS p1 x1
            refine wpG_one 8 rfl (by kernel_rfl) (by rfl) (fun K hK => ?_)
            obtain ⟨B', c', w5, hrun5, hr5, hg5, hfr5⟩ := run_append_name (rt := 31) H4.out.2.1 H4.out.2.2 rfl (by omega) (by omega)
            have hBn : ∀ g, (Value.slice B T.length cb).ownBlock = some g → w.heap.size + 2 ≤ g ∧ g < wr.heap.size := fun g hg => by
              have h1 := (HN.out.2.2.2.2.2.1.row.lt g hg)
              exact h1
            have s5 := hg5.size
            have hpl := lt_of_block HN.out.2.2.2.2.2.1.blk
            have r1 : w5.cell? ⟨w.heap.size + 1, 1, none⟩ = some (.slice B T.length cb) := by
              rw [cell_congr (hg5.block _ (by omega) (fun e => by have := (hBn _ e.symm).1; omega))]; exact q1
            have rx : w5.cell? ⟨wr.heap.size, 1, none⟩ = some (tx d.name) := by
              rw [cell_congr (hg5.block _ (by omega) (fun e => by have := (hBn _ e.symm).2; omega))]; exact qx
            refine wp_append_run rfl rfl rfl hrun5 ?_
            refine hK _ _ (fun _ => ⟨r1, rx⟩) (fun _ => ?_)
            have HZ := hide (HM.out.2.2.add HF.out HN.out.2.2.2.1 HM.out.1 (fun b hb => ⟨by have := hb.1; simp at this; omega, hb.2, fun e => by subst e; have := (hBn b rfl).2; have := hb.1; simp at this; omega⟩) H3.out.1 H3.out.2 H4.out.1 hr5 hg5 hfr5)
            have hf5 : w5.frozen? ⟨w.heap.size + 1, 1, none⟩ = false := by
              have hb5 : w5.heap[w.heap.size + 1]? = w2.heap[w.heap.size + 1]? := by
                rw [hg5.block _ (by omega) (fun e => by have := (hBn _ e.symm).1; omega), H4.out.1.block _ (by omega), HW3.out _ (by omega) (by omega)]
              exact frozen_of_row _ _ _ _ _ (hb5.trans HM.out.2.2.blk)
            clear hrun5 hr5 hg5 hfr5 hK K q1 qx rx hBn s5
            simp only [Act.put, List.setIfInBounds_toArray, List.set_cons_zero, List.set_cons_succ]
            refine wpG_takeW 9 rfl (by kernel_rfl) (fun _ _ _ h => h) (by rfl) (fun w' => by go_simp; rfl) ?_
            simp only [Act.put, List.setIfInBounds_toArray, List.set_cons_zero, List.set_cons_succ]
            refine wpG_takeW 10 rfl (by kernel_rfl) (fun _ _ _ h => h) (by rfl) (fun w' => by go_simp; rfl) ?_
            simp only [Act.put, List.setIfInBounds_toArray, List.set_cons_zero, List.set_cons_succ]
            refine wpG_one 11 rfl (by kernel_rfl) (by rfl) (fun K hK => ?_)
            go_simp
            refine hK _ _ (fun h => by simp at h) (fun _ => wpG_done (by kernel_rfl) ?_)
            obtain ⟨w6, hw6⟩ : ∃ w6, w6 = w5.setCell ⟨w.heap.size + 1, 1, none⟩ (.slice B' (T.length + 1) c') := ⟨_, rfl⟩
            rw [← hw6] at HZ ⊢
            clear hw6 hK K r1 hf5
            go_wp2
            go_roundw
            case rel => exact ⟨k + 1, by omega, by go_num, hide ⟨B', c', _, _, by rw [HN.out.2.2.2.2.1]; unfold add1; rw [← HQ.out]; exact HZ.out⟩⟩
            case measure => simp [intOf]; omega
        · have HX := hide hR
          have hkn := hide (show k = l.length by omega)
          clear hR
          go_wp2
          go_ret
          have hR := HX.out
          rw [hkn.out, List.take_length] at hR
          have hsz := lt_of_block hR.blk
          have hml := mkT_length l
          refine ⟨⟨w.heap.size, B, cb, E⟩, rfl, ⟨⟨by omega, hsz⟩, ⟨Nat.le_refl _, (by omega : w.heap.size < wr.heap.size)⟩, Nat.le_refl _, hR.blk, hR.map, fun k d hd => ?_, hR.non, ?_, hR.few, by omega⟩, hR.below⟩
          · obtain ⟨cs, h1, h2⟩ := hR.get k d hd
            exact ⟨cs, h1, RT.map (fun b hb => ⟨by have := (hR.vlo b hb).1; omega, (hR.vlo b hb).2.1⟩) (fun _ _ => rfl) _ _ h2⟩
          · have hr := hR.row
            rw [show (mkT l).map (fun d => tx d.name) = ((mkT l).map (·.name)).map tx by rw [List.map_map]; rfl] at hr
            exact rs_of_own hr (fun b h1 h2 => ⟨by omega, h2⟩)
end Go.Proofs.Ytlpmnnkijdbopaa
