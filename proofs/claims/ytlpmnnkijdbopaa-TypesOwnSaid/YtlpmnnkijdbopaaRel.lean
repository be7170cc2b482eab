/-
  How values, inputs, fields and types lie in memory: 'Sl': a slice whose elements take k cells each; 'RV', 'RI', 'RF', 'RT': the cells of one.
-/
import Derived.Test.YtlpmnnkijdbopaaWords
import Derived.Deep.MidRow
namespace Go.Proofs.Ytlpmnnkijdbopaa
open Go.RowKit

/-- text as a value -/
abbrev tx (l : Bs) : Value := .string ⟨l.toArray⟩
theorem cell_congr {w w' : World} {b : Nat} (h : w'.heap[b]? = w.heap[b]?) (o : Nat) : w'.cell? ⟨b, o, none⟩ = w.cell? ⟨b, o, none⟩ := by
  simp [World.cell?, h]
theorem range_congr {w w' : World} {b o : Nat} {cs : List Value} (h : w'.heap[b]? = w.heap[b]?) (hr : w.rangeAt b o cs) : w'.rangeAt b o cs := fun j v hv => by
  rw [cell_congr h]; exact hr j v hv

/-- The slice at A holds the xs, k cells each, in blocks of S. -/
def Sl {α : Type} (w : World) (S : Nat → Prop) (k : Nat) (A : Option Addr) (R : α → List Value → Prop) (xs : List α) : Prop :=
  ∀ (j : Nat) (x : α), xs[j]? = some x → ∃ b o cs, A = some ⟨b, o, none⟩ ∧ S b ∧ cs.length = k ∧ w.rangeAt b (o + j * k) cs ∧ R x cs
section
variable {α : Type} {w w' : World} {S S' : Nat → Prop} {k : Nat} {A : Option Addr} {R R' : α → List Value → Prop} {xs : List α}
theorem Sl.nil' (w : World) (S : Nat → Prop) (k : Nat) (A : Option Addr) (R : α → List Value → Prop) : Sl w S k A R [] := fun j x h => by simp at h
theorem Sl.map (h : Sl w S k A R xs) (hS : ∀ b, S b → S' b) (hw : ∀ b, S b → w'.heap[b]? = w.heap[b]?) (hR : ∀ x cs, R x cs → R' x cs) : Sl w' S' k A R' xs := fun j x hx => by
  obtain ⟨b, o, cs, e, hb, hl, hr, hR0⟩ := h j x hx
  exact ⟨b, o, cs, e, hS b hb, hl, range_congr (hw b hb) hr, hR _ _ hR0⟩
theorem Sl.none_nil (h : Sl w S k none R xs) : xs = [] := by
  match xs, h with
  | [], _ => rfl
  | x :: r, h => obtain ⟨_, _, _, e, _⟩ := h 0 x rfl; cases e
end

def RS (s : Bs) (cs : List Value) : Prop := cs = [tx s]
def RArg (R : V → List Value → Prop) (f : Bs × V × Int) (cs : List Value) : Prop := ∃ cv, cs = tx f.1 :: (cv ++ [.int .i64 f.2.2]) ∧ cv.length = 5 ∧ R f.2.1 cv
def RV (w : World) (S : Nat → Prop) : Nat → V → List Value → Prop
  | 0 => fun _ _ => False
  | n + 1 => fun v cs => ∃ A1 c1 A2 c2, cs = [.int .i64 v.kind, tx v.text, .slice A1 v.items.length c1, .slice A2 v.fields.length c2, .int .i64 v.pos] ∧
      Sl w S 5 A1 (RV w S n) v.items ∧ Sl w S 7 A2 (RArg (RV w S n)) v.fields
def RI (w : World) (S : Nat → Prop) (n : Nat) (i : In) (cs : List Value) : Prop := ∃ cv, cs = tx i.name :: tx i.typ :: .bool i.has :: (cv ++ [.int .i64 i.pos]) ∧ cv.length = 5 ∧ RV w S n i.dflt cv
def RF (w : World) (S : Nat → Prop) (n : Nat) (f : Fd) (cs : List Value) : Prop := ∃ A c, cs = [tx f.name, .slice A f.args.length c, tx f.typ, .int .i64 f.pos] ∧ Sl w S 9 A (RI w S n) f.args
def RT (w : World) (S : Nat → Prop) (n : Nat) (t : Td) (cs : List Value) : Prop := ∃ A1 c1 A2 c2 A3 c3 A4 c4,
    cs = [.int .i64 t.kind, tx t.name, .slice A1 t.impls.length c1, .slice A2 t.fields.length c2, .slice A3 t.members.length c3, .slice A4 t.inputs.length c4, .int .i64 t.pos] ∧
      Sl w S 1 A1 RS t.impls ∧ Sl w S 4 A2 (RF w S n) t.fields ∧ Sl w S 1 A3 RS t.members ∧ Sl w S 9 A4 (RI w S n) t.inputs

section
variable {w w' : World} {S S' : Nat → Prop}
theorem RArg.map {R R' : V → List Value → Prop} (hR : ∀ x cs, R x cs → R' x cs) {f : Bs × V × Int} {cs : List Value} (h : RArg R f cs) : RArg R' f cs := by
  obtain ⟨cv, e, hl, hr⟩ := h
  exact ⟨cv, e, hl, hR _ _ hr⟩
theorem RV.map (hS : ∀ b, S b → S' b) (hw : ∀ b, S b → w'.heap[b]? = w.heap[b]?) : ∀ (n : Nat) (v : V) (cs : List Value), RV w S n v cs → RV w' S' n v cs
  | 0, _, _, h => h
  | n + 1, _, _, ⟨A1, c1, A2, c2, e, h1, h2⟩ =>
    ⟨A1, c1, A2, c2, e, h1.map hS hw (RV.map hS hw n), h2.map hS hw fun _ _ => RArg.map (RV.map hS hw n)⟩
theorem RI.map {n : Nat} (hS : ∀ b, S b → S' b) (hw : ∀ b, S b → w'.heap[b]? = w.heap[b]?) (i : In) (cs : List Value) (h : RI w S n i cs) : RI w' S' n i cs := by
  obtain ⟨cv, e, hl, hr⟩ := h
  exact ⟨cv, e, hl, RV.map hS hw n _ _ hr⟩
theorem RF.map {n : Nat} (hS : ∀ b, S b → S' b) (hw : ∀ b, S b → w'.heap[b]? = w.heap[b]?) (i : Fd) (cs : List Value) (h : RF w S n i cs) : RF w' S' n i cs := by
  obtain ⟨A, c, e, hr⟩ := h
  exact ⟨A, c, e, hr.map hS hw (RI.map hS hw)⟩
theorem RT.map {n : Nat} (hS : ∀ b, S b → S' b) (hw : ∀ b, S b → w'.heap[b]? = w.heap[b]?) (i : Td) (cs : List Value) (h : RT w S n i cs) : RT w' S' n i cs := by
  obtain ⟨A1, c1, A2, c2, A3, c3, A4, c4, e, h1, h2, h3, h4⟩ := h
  exact ⟨A1, c1, A2, c2, A3, c3, A4, c4, e, h1.map hS hw fun _ _ h => h, h2.map hS hw (RF.map hS hw), h3.map hS hw fun _ _ h => h, h4.map hS hw (RI.map hS hw)⟩
theorem RV.size {n : Nat} {v : V} {cs : List Value} (h : RV w S n v cs) : cs.length = 5 := by
  cases n with
  | zero => exact h.elim
  | succ n => obtain ⟨_, _, _, _, e, _⟩ := h; rw [e]; rfl
theorem RV.one {n : Nat} {v : V} {cs : List Value} (h : RV w S n v cs) : ∀ u ∈ cs, u.oneCell' = true := by
  cases n with
  | zero => exact h.elim
  | succ n =>
    obtain ⟨_, _, _, _, e, _⟩ := h
    rw [e]
    intro u hu
    simp only [List.mem_cons, List.not_mem_nil, or_false] at hu
    rcases hu with rfl | rfl | rfl | rfl | rfl <;> rfl
theorem RS.one {s : Bs} {cs : List Value} (h : RS s cs) : ∀ u ∈ cs, u.oneCell' = true := by
  intro u hu
  rw [h] at hu
  simp only [List.mem_cons, List.not_mem_nil, or_false] at hu
  subst hu; rfl
theorem RArg.one {n : Nat} {f : Bs × V × Int} {cs : List Value} (h : RArg (RV w S n) f cs) : ∀ u ∈ cs, u.oneCell' = true := by
  obtain ⟨cv, e, _, hr⟩ := h
  intro u hu
  rw [e] at hu
  simp only [List.mem_cons, List.mem_append, List.not_mem_nil, or_false] at hu
  rcases hu with rfl | hu | rfl
  · rfl
  · exact RV.one hr u hu
  · rfl
theorem RI.one {n : Nat} {i : In} {cs : List Value} (h : RI w S n i cs) : ∀ u ∈ cs, u.oneCell' = true := by
  obtain ⟨cv, e, _, hr⟩ := h
  intro u hu
  rw [e] at hu
  simp only [List.mem_cons, List.mem_append, List.not_mem_nil, or_false] at hu
  rcases hu with rfl | rfl | rfl | hu | rfl
  · rfl
  · rfl
  · rfl
  · exact RV.one hr u hu
  · rfl
theorem RF.one {n : Nat} {i : Fd} {cs : List Value} (h : RF w S n i cs) : ∀ u ∈ cs, u.oneCell' = true := by
  obtain ⟨A, c, e, _⟩ := h
  rw [e]
  intro u hu
  simp only [List.mem_cons, List.not_mem_nil, or_false] at hu
  rcases hu with rfl | rfl | rfl | rfl <;> rfl
theorem RT.one {n : Nat} {i : Td} {cs : List Value} (h : RT w S n i cs) : ∀ u ∈ cs, u.oneCell' = true := by
  obtain ⟨A1, c1, A2, c2, A3, c3, A4, c4, e, _⟩ := h
  rw [e]
  intro u hu
  simp only [List.mem_cons, List.not_mem_nil, or_false] at hu
  rcases hu with rfl | rfl | rfl | rfl | rfl | rfl | rfl <;> rfl
end

/-! ### the cells of all elements, one behind the other -/
/-- The j-th k cells. -/
def chunk (k : Nat) (cells : List Value) (j : Nat) : List Value := (cells.drop (j * k)).take k
theorem chunk_get {k : Nat} {cells : List Value} {j i : Nat} (hi : i < k) : (chunk k cells j)[i]? = cells[j * k + i]? := by
  unfold chunk
  rw [List.getElem?_take, if_pos hi, List.getElem?_drop]
theorem flat_chunks (k : Nat) (f : Nat → List Value) : ∀ n, (∀ j, j < n → (f j).length = k) → (((List.range n).map f).flatten).length = n * k ∧ ∀ j, j < n → chunk k (((List.range n).map f).flatten) j = f j
  | 0, _ => ⟨by simp, fun j hj => by omega⟩
  | n + 1, h => by
    obtain ⟨hl, hc⟩ := flat_chunks k f n (fun j hj => h j (by omega))
    have e : ((List.range (n + 1)).map f).flatten = ((List.range n).map f).flatten ++ f n := by simp [List.range_succ]
    have hn := h n (by omega)
    rw [e]
    refine ⟨by rw [List.length_append, hl, hn, Nat.succ_mul], fun j hj => ?_⟩
    rcases Nat.lt_or_ge j n with hjn | hjn
    · have hle : j * k + k ≤ n * k := by
        have := Nat.mul_le_mul_right k (show j + 1 ≤ n by omega)
        rwa [Nat.succ_mul] at this
      rw [← hc j hjn]
      unfold chunk
      rw [List.drop_append_of_le_length (by rw [hl]; omega), List.take_append_of_le_length (by rw [List.length_drop, hl]; omega)]
    · have : j = n := by omega
      subst this
      unfold chunk
      rw [← hl, List.drop_left, ← hn, List.take_length]
theorem Sl.flat {α : Type} {w : World} {S : Nat → Prop} {B k : Nat} {A : Option Addr} {R : α → List Value → Prop} {xs : List α} (h : Sl w S k A R xs) (hk : 0 < k) (hB : ∀ b, S b → b < B)
    (h1 : ∀ x cs, R x cs → ∀ u ∈ cs, u.oneCell' = true) :
    ∃ cells, Rd w B k A xs.length cells ∧ (∀ u ∈ cells, u.oneCell' = true) ∧ ∀ j x, xs[j]? = some x → R x (chunk k cells j) := by
  classical
  have hex : ∀ j, ∃ cs : List Value, ∀ x, xs[j]? = some x → ∃ b o, A = some ⟨b, o, none⟩ ∧ S b ∧ cs.length = k ∧ w.rangeAt b (o + j * k) cs ∧ R x cs := by
    intro j
    cases hx : xs[j]? with
    | none => exact ⟨[], fun x hx => by cases hx⟩
    | some x =>
      obtain ⟨b, o, cs, e⟩ := h j x hx
      exact ⟨cs, fun y hy => by injection hy with hy; subst hy; exact ⟨b, o, e⟩⟩
  obtain ⟨f, hf⟩ := Classical.axiomOfChoice hex
  have hget : ∀ j, j < xs.length → ∃ x, xs[j]? = some x := fun j hj => ⟨_, List.getElem?_eq_getElem hj⟩
  obtain ⟨hl, hc⟩ := flat_chunks k f xs.length (fun j hj => by
    obtain ⟨x, hx⟩ := hget j hj
    obtain ⟨_, _, _, _, h, _⟩ := hf j x hx
    exact h)
  refine ⟨_, ⟨hl, fun i u hu => ?_⟩, fun u hu => ?_, fun j x hx => ?_⟩
  · have hi : i < xs.length * k := by rw [← hl]; exact (List.getElem?_eq_some_iff.1 hu).1
    have hj : i / k < xs.length := (Nat.div_lt_iff_lt_mul hk).2 hi
    have him : i % k < k := Nat.mod_lt _ hk
    have hdm : i / k * k + i % k = i := by rw [Nat.mul_comm]; exact Nat.div_add_mod i k
    obtain ⟨x, hx⟩ := hget _ hj
    obtain ⟨b, o, e, hb, hlen, hr, _⟩ := hf _ x hx
    refine ⟨b, o, e, hB b hb, ?_⟩
    have hg := chunk_get (cells := ((List.range xs.length).map f).flatten) (j := i / k) him
    rw [hc _ hj, hdm, hu] at hg
    have := hr _ _ hg
    rw [Nat.add_assoc, hdm] at this
    exact this
  · obtain ⟨l, hl', hu'⟩ := List.mem_flatten.1 hu
    obtain ⟨j, hj, rfl⟩ := List.mem_map.1 hl'
    obtain ⟨x, hx⟩ := hget j (List.mem_range.1 hj)
    obtain ⟨_, _, _, _, _, _, hR⟩ := hf j x hx
    exact h1 _ _ hR u hu'
  · rw [hc j (List.getElem?_eq_some_iff.1 hx).1]
    obtain ⟨_, _, _, _, _, _, hR⟩ := hf j x hx
    exact hR

/-! ### a row of the call's own -/
theorem own_cells {w : World} {base k n c g : Nat} {e : TypeId} {cells : List Value} (h : w.ownsRow base e k (.slice (some ⟨g, 0, none⟩) n c) n cells) (j : Nat) : w.rangeAt g (j * k) (chunk k cells j) := by
  intro i u hu
  have hi : i < k := by
    have := (List.getElem?_eq_some_iff.1 hu).1
    unfold chunk at this
    rw [List.length_take] at this
    omega
  rw [chunk_get hi] at hu
  have := (Rd.of_own h).cell _ u hu
  obtain ⟨b, o, e, _, hc⟩ := this
  injection e with e
  injection e with e1 e2
  subst e1
  subst e2
  rw [Nat.zero_add] at hc
  exact hc
theorem chunk_len {k n : Nat} {cells : List Value} (hl : cells.length = n * k) {j : Nat} (hj : j < n) : (chunk k cells j).length = k := by
  have : j * k + k ≤ n * k := by
    have := Nat.mul_le_mul_right k (show j + 1 ≤ n by omega)
    rwa [Nat.succ_mul] at this
  unfold chunk
  rw [List.length_take, List.length_drop]
  omega
theorem Sl.of_own {α : Type} {w : World} {S : Nat → Prop} {base k n c : Nat} {e : TypeId} {A : Option Addr} {R : α → List Value → Prop} {xs : List α} {cells : List Value}
    (h : w.ownsRow base e k (.slice A n c) n cells) (hn : xs.length = n) (hS : ∀ g, A = some ⟨g, 0, none⟩ → S g) (hR : ∀ j x, xs[j]? = some x → R x (chunk k cells j)) : Sl w S k A R xs := by
  intro j x hx
  have hj : j < n := by rw [← hn]; exact (List.getElem?_eq_some_iff.1 hx).1
  rcases h.2 with ⟨_, h0⟩ | ⟨g, cap, cur, hv, _⟩
  · omega
  · cases hv
    exact ⟨g, 0, chunk k cells j, rfl, hS g rfl, chunk_len h.1 hj, by rw [Nat.zero_add]; exact own_cells h j, hR j x hx⟩
end Go.Proofs.Ytlpmnnkijdbopaa
