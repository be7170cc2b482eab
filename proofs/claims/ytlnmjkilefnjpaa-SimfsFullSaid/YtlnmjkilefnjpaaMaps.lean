/-
  The maps' operations at a directory, as laws of the walk; the walks of open and do.
-/
import Derived.Test.YtlnmjkilefnjpaaNamed
import Derived.Maps.OwnOps
import Derived.Maps.RangeWalk
import Derived.StringKeys
namespace Go.Proofs.Ytlnmjkilefnjpaa
open Go.RowKit Go.Maps Go.ChangeMaps

theorem key_tx {k : Bs} (hk : k.length ≤ maxLen) : keyOf Try.prog 9 (tx k) = some (.string k) := by
  have h := Go.WideMaps.keyOf_string_mk (P := Try.prog) Try.underlying9 (s := ⟨k.toArray⟩) (by show k.toArray.size ≤ maxLen; simpa using hk)
  simpa using h
theorem zeroInt (w : World) : (zeroValue 3).run Try.prog w = .ok (.int .i64 0) w := by kernel_rfl
theorem wf_nat {n : Nat} (h : n ≤ 1000000000) : (Lit.int .i64 (n : Int)).wf = true := WalkArith.wf_i64 (by omega)
section
variable {ops : Array Oper} {rest : List Oper} {a : Act} {Q : Exit → Act → World → Prop} {w : World} {dst : Option Tmp} {ty : TypeId} {pos : String} {af : Array Edge} {m x v : Operand} {b : Nat} {l : Dir} {k : Bs}
theorem wpList_dget_ok (hm : a.eval m = .map (some b)) (hd : Dr w b l) (hx : a.eval x = tx k) (hk : k.length ≤ 1000000)
    (h : wpList Try.prog ops Q rest (a.put dst (.tuple #[.int .i64 (((dget l k).getD 0 : Nat) : Int), .bool (dget l k).isSome])) w) :
    wpList Try.prog ops Q ({ dst := dst, op := .lookup 49 m x true, type := ty, pos := pos, after := af, guard := none } :: rest) a w :=
  wpList_lookup_own_ok_int w rfl m x 49 rfl 9 3 .i64 law Try.underlying49 Try.underlying3 (zeroInt w) b l.length (dirD l) hm hd (tx k) (.string k) hx (key_tx (by unfold maxLen; omega)) fun c hat _ => by
    rw [dirD_at] at hat
    injection hat with hat
    injection hat with _ hat
    rw [← hat, dirD_has]
    exact h
theorem wpList_dgetM (hm : a.eval m = .map (some b)) (hd : Dr w b l) (hx : a.eval x = tx k) (hk : k.length ≤ maxLen)
    (h : wpList Try.prog ops Q rest (a.put dst (.int .i64 (((dget l k).getD 0 : Nat) : Int))) w) :
    wpList Try.prog ops Q ({ dst := dst, op := .lookup 49 m x false, type := ty, pos := pos, after := af, guard := none } :: rest) a w :=
  wpList_lookup_own_int w rfl m x 49 rfl 9 3 .i64 law Try.underlying49 Try.underlying3 (zeroInt w) b l.length (dirD l) hm hd (tx k) (.string k) hx (key_tx hk) fun c hat _ => by
    rw [dirD_at] at hat
    injection hat with hat
    injection hat with _ hat
    rw [← hat]
    exact h
theorem wpList_dget_at {i : Nat} (hm : a.eval m = .map (some b)) (hd : Dr w b l) (hx : a.eval x = tx k) (hk : k.length ≤ maxLen) (hi : dget l k = some i)
    (h : wpList Try.prog ops Q rest (a.put dst (.int .i64 (i : Int))) w) :
    wpList Try.prog ops Q ({ dst := dst, op := .lookup 49 m x false, type := ty, pos := pos, after := af, guard := none } :: rest) a w :=
  wpList_dgetM hm hd hx hk (by rw [hi]; exact h)
theorem wpList_dget_some {i : Nat} (hm : a.eval m = .map (some b)) (hd : Dr w b l) (hx : a.eval x = tx k) (hk : k.length ≤ 1000000) (hi : dget l k = some i)
    (h : wpList Try.prog ops Q rest (a.put dst (.tuple #[.int .i64 (i : Int), .bool true])) w) :
    wpList Try.prog ops Q ({ dst := dst, op := .lookup 49 m x true, type := ty, pos := pos, after := af, guard := none } :: rest) a w :=
  wpList_dget_ok hm hd hx hk (by rw [hi]; exact h)
theorem wpList_dget_none (hm : a.eval m = .map (some b)) (hd : Dr w b l) (hx : a.eval x = tx k) (hk : k.length ≤ 1000000) (hi : dget l k = none)
    (h : wpList Try.prog ops Q rest (a.put dst (.tuple #[.int .i64 0, .bool false])) w) :
    wpList Try.prog ops Q ({ dst := dst, op := .lookup 49 m x true, type := ty, pos := pos, after := af, guard := none } :: rest) a w :=
  wpList_dget_ok hm hd hx hk (by rw [hi]; exact h)
theorem wpList_dput {i : Nat} (hm : a.eval m = .map (some b)) (hd : Dr w b l) (hx : a.eval x = tx k) (hv : a.eval v = .int .i64 (i : Int)) (hk : k.length ≤ 1000000) (hi : i ≤ 1000000000) (hl : l.length ≤ 1000000)
    (h : ∀ w', Dr w' b (dput l k i) → w.grownBy w' (some b) → wpList Try.prog ops Q rest (a.put dst undef) w') :
    wpList Try.prog ops Q ({ dst := dst, op := .mapUpdate 49 m x v, type := ty, pos := pos, after := af, guard := none } :: rest) a w :=
  wpList_mapUpdate_own w rfl m x v 49 rfl 9 3 law Try.underlying49 (plainElem Try.prog 3) b l.length (dirD l) hm hd (by unfold maxLen; omega) (tx k) (.int .i64 (i : Int)) (.string k) hx hv (key_tx (by unfold maxLen; omega)) (.lit (.int .i64 (i : Int))) [] (plainElem_int Try.underlying3 (wf_nat hi)) fun w' hw hg => by
    rw [dirD_put] at hw
    exact h w' (Dr.of hw) hg
theorem wpList_dputM {i : Nat} (hm : a.eval m = .map (some b)) (hd : Dr w b l) (hx : a.eval x = tx k) (hv : a.eval v = .int .i64 (i : Int)) (hk : k.length ≤ maxLen) (hi : i ≤ 1000000000) (hl : l.length ≤ 1000000)
    (h : ∀ w', Dr w' b (dput l k i) → w.grownBy w' (some b) → wpList Try.prog ops Q rest (a.put dst undef) w') :
    wpList Try.prog ops Q ({ dst := dst, op := .mapUpdate 49 m x v, type := ty, pos := pos, after := af, guard := none } :: rest) a w :=
  wpList_mapUpdate_own w rfl m x v 49 rfl 9 3 law Try.underlying49 (plainElem Try.prog 3) b l.length (dirD l) hm hd (by unfold maxLen; omega) (tx k) (.int .i64 (i : Int)) (.string k) hx hv (key_tx hk) (.lit (.int .i64 (i : Int))) [] (plainElem_int Try.underlying3 (wf_nat hi)) fun w' hw hg => by
    rw [dirD_put] at hw
    exact h w' (Dr.of hw) hg
theorem mapTurned_grown {w w' : World} {b : Nat} (h : w.mapTurned w' b) : w.grownBy w' (some b) := by
  obtain ⟨es, clock, es', clock', hb, rfl⟩ := h
  exact ⟨rfl, rfl, rfl, by simp [Go.ChangeMaps.setBlock], fun i _ hi => Go.ChangeMaps.heap_setBlock_other hb _ (fun e => hi (by rw [e]))⟩
theorem wpList_ddel (hm : a.eval m = .map (some b)) (hd : Dr w b l) (hx : a.eval x = tx k) (hk : k.length ≤ 1000000)
    (h : ∀ w', Dr w' b (ddel l k) → w.grownBy w' (some b) → wpList Try.prog ops Q rest (a.put dst (.tuple #[])) w') :
    wpList Try.prog ops Q ({ dst := dst, op := .call { callee := .builtin .delete, args := #[m, x], argTypes := #[49, 9] }, type := ty, pos := pos, after := af, guard := none } :: rest) a w :=
  wpList_delete_own w rfl m x 49 9 rfl 3 law Try.underlying49 (plainElem Try.prog 3) b l.length (dirD l) hm hd (tx k) (.string k) hx (key_tx (by unfold maxLen; omega)) fun w' hw hg => by
    rw [dirD_del] at hw
    exact h w' (Dr.of hw) (mapTurned_grown hg)
theorem wpList_dlen (hm : a.eval m = .map (some b)) (hd : Dr w b l)
    (h : wpList Try.prog ops Q rest (a.put dst (.int .i64 (l.length : Int))) w) :
    wpList Try.prog ops Q ({ dst := dst, op := .call { callee := .builtin .len, args := #[m], argTypes := #[49] }, type := ty, pos := pos, after := af, guard := none } :: rest) a w :=
  wpList_len_own w rfl m 49 rfl 9 3 Try.underlying49 (plainElem Try.prog 3) b l.length (dirD l) hm hd (by rw [dirD_size]; exact h)
end
theorem Dr.names {w : World} {b : Nat} {l : Dir} (h : Dr w b l) {p : Bs × Nat} (hp : p ∈ l) : p.1.length ≤ maxLen := by
  have := strKeys_le (R := plainElem Try.prog 3) h Try.underlying9 p.1
  rw [dirD_keys] at this
  exact this (List.mem_map.2 ⟨p, hp, rfl⟩)
/-- Where a file's pointer lies. -/
theorem Fl.cell {w : World} {N i n c : Nat} {A : Option Addr} {es : List (Nat × Value)} {fs : List (Bs × Nat)} {e : Nat × Value} (h : Fl w N (.slice A n c) es fs) (he : es[i]? = some e) : ∃ g, A = some ⟨g, 0, none⟩ ∧ g < w.heap.size ∧ w.cell? ⟨g, i, none⟩ = some (ptr e.1) := by
  have hm : (es.map fun e => ptr e.1)[i]? = some (ptr e.1) := by rw [List.getElem?_map, he]; rfl
  rcases h.row.2 with ⟨hv, h0⟩ | ⟨g, cap, cur, hv, hb, hg, hn, hc, hsz, ht⟩
  · have := (List.getElem?_eq_some_iff.1 he).1
    rw [h.len] at this
    omega
  · cases hv
    refine ⟨g, rfl, lt_of_block hg, ?_⟩
    rw [cell_of_row _ _ _ _ _ _ hg]
    rw [← ht, List.getElem?_take] at hm
    split at hm
    · rw [← Array.getElem?_toList]; exact hm
    · cases hm

set_option maxHeartbeats 400000 in
theorem open_bad {w : World} {N b : Nat} {s : St} {X : Lay} {k : Bs} (h : FsX w N b s X) (hk : k.length ≤ 1000000) (hg : good k = false) :
    Calls Try.prog 26 #[ptr b, tx k] w fun e w' => e = .returned (.tuple #[.pointer none, .int .i64 7]) ∧ FsX w' N b s X ∧ Below w.heap.size w w' := by
  have H := hide (And.intro hk (And.intro hg h))
  clear hk hg h
  unfold ptr
  go_enter Try.func26, Try.ntmps26
  go_wp2_with fail
  refine (named1_no H.out.1 H.out.2.1).mono ?_
  rintro e w1 ⟨rfl, rfl⟩
  go_wp2_with fail
  go_ret2
  have hb : Below w.heap.size w (w.alloc (.cells #[tx k] 9)) := (Below.refl _ _).alloc (Nat.le_refl _) _
  exact ⟨rfl, H.out.2.2.below hb, hb⟩
set_option maxHeartbeats 400000 in
theorem open_none {w : World} {N b : Nat} {s : St} {X : Lay} {k : Bs} (h : FsX w N b s X) (hk : k.length ≤ 1000000) (hg : good k = true) (hd : dget s.dir k = none) :
    Calls Try.prog 26 #[ptr b, tx k] w fun e w' => e = .returned (.tuple #[.pointer none, .int .i64 3]) ∧ FsX w' N b s X ∧ Below w.heap.size w w' := by
  have hb : Below w.heap.size w (w.alloc (.cells #[tx k] 9)) := (Below.refl _ _).alloc (Nat.le_refl _) _
  have h1 := h.below hb
  have c5 := h1.c5
  have H := hide (And.intro hk (And.intro hg (And.intro h1 (And.intro hb hd))))
  clear hk hg h h1 hd hb
  unfold ptr
  go_enter Try.func26, Try.ntmps26
  go_wp2_with fail
  refine (named1_yes H.out.1 H.out.2.1).mono ?_
  rintro e w1 ⟨rfl, rfl⟩
  go_wp2_with (at_lookup; refine wpList_dget_none rfl H.out.2.2.1.dir rfl H.out.1 H.out.2.2.2.2 ?_)
  go_ret2
  exact ⟨rfl, H.out.2.2.1, H.out.2.2.2.1⟩
set_option maxHeartbeats 400000 in
theorem open_some {w : World} {N b i : Nat} {s : St} {X : Lay} {k : Bs} {e : Nat × Value} (h : FsX w N b s X) (hk : k.length ≤ 1000000) (hg : good k = true) (hd : dget s.dir k = some i) (he : X.es[i]? = some e) :
    Calls Try.prog 26 #[ptr b, tx k] w fun e' w' => e' = .returned (.tuple #[ptr e.1, .int .i64 0]) ∧ FsX w' N b s X ∧ Below w.heap.size w w' := by
  have hb : Below w.heap.size w (w.alloc (.cells #[tx k] 9)) := (Below.refl _ _).alloc (Nat.le_refl _) _
  have h1 := h.below hb
  have hi : i < s.files.length := h.wf.dir (k, i) (dget_mem hd)
  have c5 := h1.c5
  have c4 := h1.c4
  obtain ⟨g, hA, hgl, hcell⟩ := h1.fl.cell he
  rw [hA] at c4
  unfold ptr at hcell
  have H := hide (And.intro hk (And.intro hg (And.intro h1 (And.intro hb (And.intro hd hA)))))
  clear hk hg h h1 hd hb he hA
  unfold ptr
  go_enter Try.func26, Try.ntmps26
  go_wp2_with fail
  refine (named1_yes H.out.1 H.out.2.1).mono ?_
  rintro e w1 ⟨rfl, rfl⟩
  go_wp2_with (at_lookup; refine wpList_dget_some rfl H.out.2.2.1.dir rfl H.out.1 H.out.2.2.2.2.1 ?_)
  go_ret2
  exact ⟨rfl, H.out.2.2.1, H.out.2.2.2.1⟩
end Go.Proofs.Ytlnmjkilefnjpaa
