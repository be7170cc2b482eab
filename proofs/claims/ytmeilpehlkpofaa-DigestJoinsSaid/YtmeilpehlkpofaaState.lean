/-
  Words on the state's block, and on bytes at an offset of an own block: what an append does to them.
-/
import Derived.Test.YtmeilpehlkpofaaPrimes
import Derived.Deep.MidRow
namespace Go.Proofs.Ytmeilpehlkpofaa
open Go.RowKit
open sha

/-- The slice v holds the bytes l, at some offset of a block of the call's own. -/
def OwnB (w : World) (base : Nat) (v : Value) (n : Nat) (l : List UInt8) : Prop :=
  l.length = n ∧ ((v = .slice none 0 0 ∧ n = 0) ∨
    ∃ g o cap cur, v = .slice (some ⟨g, o, none⟩) n cap ∧ base ≤ g ∧ w.heap[g]? = some (.cells cur 5 (0, 0)) ∧ n ≤ cap ∧ cap ≤ maxLen ∧ o + cap ≤ cur.size ∧ (cur.toList.drop o).take n = u8s l)
theorem OwnB.nil' (w : World) (base : Nat) : OwnB w base (.slice none 0 0) 0 [] := ⟨rfl, .inl ⟨rfl, rfl⟩⟩
theorem OwnB.rb {w : World} {base n c : Nat} {A : Option Addr} {l : List UInt8} (h : OwnB w base (.slice A n c) n l) : Rb w w.heap.size A n l := by
  rcases h.2 with ⟨hv, rfl⟩ | ⟨g, o, cap, cur, hv, _, hg, _, _, _, ht⟩
  · have : l = [] := List.eq_nil_of_length_eq_zero h.1
    subst this
    exact Rb.nil' _ _ _
  · cases hv
    refine ⟨by rw [u8s_length, h.1]; omega, fun j u hu => ⟨g, o, rfl, ?_, ?_⟩⟩
    · rcases Nat.lt_or_ge g w.heap.size with h | h
      · exact h
      · rw [Array.getElem?_eq_none h] at hg; cases hg
    · rw [cell_of_row _ _ _ _ _ _ hg]
      rw [← ht, List.getElem?_take] at hu
      split at hu
      · rw [List.getElem?_drop] at hu
        rw [← hu, Array.getElem?_toList]
      · cases hu
theorem OwnB.lt {w : World} {base n : Nat} {v : Value} {l : List UInt8} (h : OwnB w base v n l) : ∀ k, v.ownBlock = some k → base ≤ k ∧ k < w.heap.size := by
  intro k hk
  rcases h.2 with ⟨rfl, _⟩ | ⟨g, o, cap, cur, rfl, hb, hg, _⟩
  · cases hk
  · have : g = k := by simpa [Value.ownBlock] using hk
    subst this
    refine ⟨hb, ?_⟩
    rcases Nat.lt_or_ge g w.heap.size with h | h
    · exact h
    · rw [Array.getElem?_eq_none h] at hg; cases hg
theorem OwnB.kept {w w' : World} {base n : Nat} {v : Value} {l : List UInt8} {row : Option Nat} (h : OwnB w base v n l) (hg : w.grownBy w' row) (hne : v.ownBlock = none ∨ v.ownBlock ≠ row) : OwnB w' base v n l := by
  refine ⟨h.1, ?_⟩
  rcases h.2 with hn | ⟨g, o, cap, cur, rfl, hb, hgg, rest⟩
  · exact .inl hn
  · have hlt := (h.lt g rfl).2
    refine .inr ⟨g, o, cap, cur, rfl, hb, ?_, rest⟩
    rw [hg.block g hlt (by
      rcases hne with h | h
      · cases h
      · exact h)]
    exact hgg
/-- A block of another type is not the bytes' own. -/
theorem OwnB.other {w : World} {base n S : Nat} {v : Value} {l : List UInt8} {cs : Array Value} {T : TypeId} {fr : Nat × Nat} (h : OwnB w base v n l) (hS : w.heap[S]? = some (.cells cs T fr)) (hT : T ≠ 5) : v.ownBlock ≠ some S := by
  intro e
  rcases h.2 with ⟨rfl, _⟩ | ⟨g, o, cap, cur, rfl, hb, hgg, _⟩
  · cases e
  · have : g = S := by simpa [Value.ownBlock] using e
    subst this
    rw [hS] at hgg
    injection hgg with hgg
    injection hgg with _ ht
    exact hT ht
theorem OwnB.cap {w : World} {base n c : Nat} {A : Option Addr} {l : List UInt8} (h : OwnB w base (.slice A n c) n l) : n ≤ c ∧ c ≤ maxLen := by
  rcases h.2 with ⟨hv, h0⟩ | ⟨g, o, cap, cur, hv, _, _, hnc, hcm, _⟩
  · cases hv; exact ⟨Nat.le_refl _, by unfold maxLen; omega⟩
  · cases hv; exact ⟨hnc, hcm⟩

theorem run_append_b {w : World} {base : Nat} {rt : TypeId} {A C : Option Addr} {n c m d B : Nat} {l l2 : List UInt8} (hown : OwnB w base (.slice A n c) n l) (hr : Rb w B C m l2)
    (h63 : n + m ≤ 1000000000) (hbase : base ≤ w.heap.size) :
    ∃ A' c' w', (Builtin.append_ #[22, 22] rt #[.slice A n c, .slice C m d]).run Try.prog w = .ok (.slice A' (n + m) c') w' ∧ OwnB w' base (.slice A' (n + m) c') (n + m) (l ++ l2) ∧ w.grownBy w' (Value.slice A n c).ownBlock := by
  obtain ⟨i, hi, hz, hsize, hby⟩ := info_parts Try.infoU8
  have ht := Try.underlying22
  rcases C with _ | ad
  · have hn : l2 = [] := by have := Rd.none_len hr; simpa [u8s] using this
    subst hn
    have hm : m = 0 := by have := hr.len; simpa using this.symm
    subst hm
    refine ⟨A, c, w, ?_, by simpa using hown, World.grownBy.refl w _⟩
    rcases hown.2 with ⟨hv, rfl⟩ | ⟨g, o, cap, cur, hv, _, hg, hnc, _⟩
    · cases hv
      simp [Builtin.append_, run_underlying ht, sizeOf, typeInfo, hi, Builtin.lenOf, Builtin.firstCells]
    · cases hv
      simp [Builtin.append_, run_underlying ht, sizeOf, typeInfo, hi, Builtin.lenOf, Builtin.firstCells, hnc, storeCells]
  · have hl : (u8s l2).length = m * i.size := by rw [u8s_length, hr.len, hsize]; omega
    have hnews := Rd.adds hr
    have hlen : (l ++ l2).length = n + m := by rw [List.length_append, hown.1, hr.len]
    have grown : ∀ (old : Nat), old < n + m →
      OwnB (w.drew.alloc (.cells ((u8s l).toArray ++ (u8s l2).toArray ++ Builtin.zeroCells (Value.int .u8 0).cells (grownCap w (n + m) old 5 - (n + m))) 5)) base (.slice (some ⟨w.heap.size, 0, none⟩) (n + m) (grownCap w (n + m) old 5)) (n + m) (l ++ l2) ∧
      w.grownBy (w.drew.alloc (.cells ((u8s l).toArray ++ (u8s l2).toArray ++ Builtin.zeroCells (Value.int .u8 0).cells (grownCap w (n + m) old 5 - (n + m))) 5)) (Value.slice A n c).ownBlock := by
      intro old ho
      have hge := grownCap_ge w (n + m) old 5
      have hcm : grownCap w (n + m) old 5 ≤ maxLen := grownCap_le_maxLen w (n + m) old 5 (by unfold maxLen; omega)
      refine ⟨⟨hlen, .inr ⟨w.heap.size, 0, _, _, rfl, hbase, heap_alloc_new w.drew _, hge, hcm, ?_, ?_⟩⟩, ⟨rfl, rfl, rfl, by simp, fun k hk _ => Below.heap_alloc w.drew _ k hk⟩⟩
      · simp only [Array.size_append, List.size_toArray, size_zeroCells, u8s_length, hown.1, hr.len]
        show 0 + grownCap w (n + m) old 5 ≤ n + m + (grownCap w (n + m) old 5 - (n + m)) * 1
        omega
      · simp only [Array.toList_append, List.append_assoc, List.drop_zero]
        rw [← List.append_assoc, ← u8s_append, ← hlen, ← u8s_length]
        exact List.take_left
    rcases hown.2 with ⟨hv, rfl⟩ | ⟨g, o, cap, cur, hv, hbg, hg, hnc, hcm, hcs, htake⟩
    · cases hv
      have hx : l = [] := List.eq_nil_of_length_eq_zero hown.1
      subst hx
      by_cases hm : m = 0
      · subst hm
        have hn : l2 = [] := List.eq_nil_of_length_eq_zero hr.len
        subst hn
        refine ⟨none, 0, w, ?_, OwnB.nil' w base, World.grownBy.refl w _⟩
        simp [Builtin.append_, run_underlying ht, sizeOf, typeInfo, hi, Builtin.lenOf, Builtin.firstCells, loadCells, loadCellsFrom]
      · have hrun := run_append_nil (P := Try.prog) w 22 rt 5 i (.int .u8 0) ht hi hz ad m d (u8s l2) hl hnews (by omega) (by omega) (by rw [hby]; omega)
        have hgr := grown 0 (by omega)
        simp only [Nat.zero_add, List.nil_append] at hgr ⊢
        rw [show (u8s []).toArray ++ (u8s l2).toArray = (u8s l2).toArray from by simp [u8s]] at hgr
        exact ⟨_, _, _, hrun, hgr.1, hgr.2⟩
    · cases hv
      by_cases hroom : n + m ≤ c
      · have hf := run_firstCells_some (P := Try.prog) w i.size m ad m d (u8s l2) hl hnews
        have hst := run_storeCells_at Try.prog g (o + n) 5 (u8s l2) 0 cur w hg (by rw [u8s_length, hr.len]; omega) (u8s_one l2)
        simp only [Nat.add_zero] at hst
        refine ⟨some ⟨g, o, none⟩, c, _, by simp [Builtin.append_, run_underlying ht, sizeOf, typeInfo, hi, hsize, Builtin.lenOf, hroom, Addr.add_lit]; rw [← hsize, hf]; simp [hst]; rfl, ⟨hlen, .inr ⟨g, o, c, _, rfl, hbg, setRow_heap w g cur _ 5 _ hg, hroom, hcm, ?_, ?_⟩⟩, ⟨rfl, rfl, rfl, by simp, fun k _ hk => setRow_other w g k _ (fun e => hk (by simp [Value.ownBlock, e]))⟩⟩
        · simp only [List.size_toArray, List.length_append, List.length_take, List.length_drop, Array.length_toList, u8s_length, hr.len]
          omega
        · simp only []
          have e1 : (cur.toList.take (o + n)).drop o = u8s l := by rw [List.drop_take, ← htake]; congr 1; omega
          rw [List.drop_append_of_le_length (by rw [List.length_take, Array.length_toList]; omega), e1, ← List.append_assoc, ← u8s_append, ← hlen, ← u8s_length]
          exact List.take_left
      · have hrun := run_append_grow (P := Try.prog) w 22 rt 5 i (.int .u8 0) ht hi hz ⟨g, o, none⟩ n c (u8s l) (by rw [u8s_length, hown.1, hsize]; omega) (Rd.adds hown.rb) ad m d (u8s l2) hl hnews (by omega) (by omega) (growslice_fits (by omega) (by rw [hby]; omega))
        have hgr := grown c (by omega)
        exact ⟨_, _, _, hrun, hgr.1, hgr.2⟩
theorem wpList_append_b {ops : Array Oper} {rest : List Oper} {a : Act} {Q : Exit → Act → World → Prop} {w : World} {dst : Option Tmp} {ty : TypeId} {pos : String} {af : Array Edge} {s x : Operand} {base : Nat}
    {A C : Option Addr} {n c m d B : Nat} {l l2 : List UInt8} (hs : a.eval s = .slice A n c) (hx : a.eval x = .slice C m d)
    (hown : OwnB w base (.slice A n c) n l) (hr : Rb w B C m l2) (hl : n + m ≤ 1000000000) (hbase : base ≤ w.heap.size)
    (h : ∀ A' c' w', OwnB w' base (.slice A' (n + m) c') (n + m) (l ++ l2) → w.grownBy w' (Value.slice A n c).ownBlock → wpList Try.prog ops Q rest (a.put dst (.slice A' (n + m) c')) w') :
    wpList Try.prog ops Q ({ dst := dst, op := .call { callee := .builtin .append, args := #[s, x], argTypes := #[22, 22] }, type := ty, pos := pos, after := af, guard := none } :: rest) a w :=
  wpList_plain rfl fun _ hK => by
    obtain ⟨A', c', w', hrun, h2, h3⟩ := run_append_b (rt := ty) (d := d) hown hr hl hbase
    unfold Oper.wp execOp
    simp only [resolve, invoke, builtin, Sem.run_bind, Sem.run_pure, Result.andThen_ok, List.map_toArray, List.map_cons, List.map_nil, hs, hx]
    rw [hrun]
    exact hK _ _ (h A' c' w' h2 h3)

/-! ### The state's block -/
def stz (h k : List W32) (v : Value) (N : Nat) : Array Value := (u32s h ++ u32s k ++ [v, .int .u64 (N : Int)]).toArray
theorem stz_size {h k : List W32} {v : Value} {N : Nat} (hh : h.length = 8) (hk : k.length = 64) : (stz h k v N).size = 74 := by simp [stz, u32s_length, hh, hk]
theorem stz_h {h k : List W32} {v : Value} {N i : Nat} {x : W32} (hi : h[i]? = some x) : (stz h k v N)[i]? = some (.int .u32 (x.toNat : Int)) := by
  have hl : i < h.length := (List.getElem?_eq_some_iff.1 hi).1
  simp only [stz, List.getElem?_toArray]
  rw [List.append_assoc, List.getElem?_append_left (by rw [u32s_length]; exact hl)]
  exact u32s_get hi
theorem stz_k {h k : List W32} {v : Value} {N i : Nat} {x : W32} (hh : h.length = 8) (hi : k[i]? = some x) : (stz h k v N)[8 + i]? = some (.int .u32 (x.toNat : Int)) := by
  have hl : i < k.length := (List.getElem?_eq_some_iff.1 hi).1
  simp only [stz, List.getElem?_toArray]
  rw [List.append_assoc, List.getElem?_append_right (by rw [u32s_length, hh]; omega), u32s_length, hh, List.getElem?_append_left (by rw [u32s_length]; omega), Nat.add_sub_cancel_left]
  exact u32s_get hi
theorem stz_v {h k : List W32} {v : Value} {N : Nat} (hh : h.length = 8) (hk : k.length = 64) : (stz h k v N)[72]? = some v := by
  simp only [stz, List.getElem?_toArray]
  rw [List.getElem?_append_right (by simp [u32s_length, hh, hk])]
  simp [u32s_length, hh, hk]
theorem stz_n {h k : List W32} {v : Value} {N : Nat} (hh : h.length = 8) (hk : k.length = 64) : (stz h k v N)[73]? = some (.int .u64 (N : Int)) := by
  simp only [stz, List.getElem?_toArray]
  rw [List.getElem?_append_right (by simp [u32s_length, hh, hk])]
  simp [u32s_length, hh, hk]
theorem u32s_set (l : List W32) (i : Nat) (x : W32) : (u32s l).set i (.int .u32 (x.toNat : Int)) = u32s (l.set i x) := by simp [u32s, List.map_set]
theorem stz_setH {h k : List W32} {v : Value} {N i : Nat} {x : W32} (hi : i < h.length) : (stz h k v N).setIfInBounds i (.int .u32 (x.toNat : Int)) = stz (h.set i x) k v N := by
  simp only [stz, List.setIfInBounds_toArray]
  rw [List.append_assoc, List.set_append_left _ _ (by rw [u32s_length]; exact hi), u32s_set, ← List.append_assoc]
theorem stz_setK {h k : List W32} {v : Value} {N i : Nat} {x : W32} (hh : h.length = 8) (hi : i < k.length) : (stz h k v N).setIfInBounds (8 + i) (.int .u32 (x.toNat : Int)) = stz h (k.set i x) v N := by
  simp only [stz, List.setIfInBounds_toArray]
  rw [List.append_assoc, List.set_append_right _ _ (by rw [u32s_length, hh]; omega), u32s_length, hh, Nat.add_sub_cancel_left, List.set_append_left _ _ (by rw [u32s_length]; exact hi), u32s_set, ← List.append_assoc]
theorem stz_setV {h k : List W32} {v v' : Value} {N : Nat} (hh : h.length = 8) (hk : k.length = 64) : (stz h k v N).setIfInBounds 72 v' = stz h k v' N := by
  simp only [stz, List.setIfInBounds_toArray]
  rw [List.set_append_right _ _ (by simp [u32s_length, hh, hk])]
  simp [u32s_length, hh, hk]
theorem stz_setN {h k : List W32} {v : Value} {N M : Nat} (hh : h.length = 8) (hk : k.length = 64) : (stz h k v N).setIfInBounds 73 (.int .u64 (M : Int)) = stz h k v M := by
  simp only [stz, List.setIfInBounds_toArray]
  rw [List.set_append_right _ _ (by simp [u32s_length, hh, hk])]
  simp [u32s_length, hh, hk]
theorem K_length : K.length = 64 := by decide
theorem V8.l_length (v : V8) : v.l.length = 8 := rfl
/-- The first j words of l, and 0 behind them. -/
def fill (l : List W32) (j : Nat) : List W32 := l.take j ++ List.replicate (l.length - j) 0
theorem fill_length (l : List W32) (j : Nat) : (fill l j).length = l.length := by simp [fill]; omega
theorem fill_set {l : List W32} {j : Nat} {x : W32} (h : l[j]? = some x) : (fill l j).set j x = fill l (j + 1) := by
  have hj : j < l.length := (List.getElem?_eq_some_iff.1 h).1
  unfold fill
  rw [List.set_append_right _ _ (by rw [List.length_take]; omega), List.length_take, take_snoc h, show l.length - j = (l.length - (j + 1)) + 1 from by omega, List.replicate_succ,
    show j - min j l.length = 0 from by omega, List.set_cons_zero, List.append_assoc]
  rfl
theorem fill_all (l : List W32) (j : Nat) (h : l.length ≤ j) : fill l j = l := by
  unfold fill
  rw [List.take_of_length_le h, show l.length - j = 0 from by omega]
  simp
theorem fill_zero (l : List W32) : fill l 0 = List.replicate l.length 0 := by simp [fill]
theorem grown_setCell {w w' : World} {S j : Nat} {u : Value} (h : w.grownBy w' (some S)) : w.grownBy (w'.setCell ⟨S, j, none⟩ u) (some S) :=
  ⟨h.os, h.tape, h.output, by simpa using h.size, fun k hk hne => by rw [Below.heap_setCell _ _ _ _ (fun e => hne (by rw [e]))]; exact h.block k hk hne⟩
theorem grown_drewN {w w' : World} {row : Option Nat} (h : w.grownBy w' row) (q : Nat) : w.grownBy (w'.drewN q) row := ⟨h.os, h.tape, h.output, h.size, h.block⟩
end Go.Proofs.Ytmeilpehlkpofaa
