/-
  The rows of the copies that TypesOwn makes, in plain words.
-/
import Derived.Test.YtlpmnnkijdbopaaDefW
namespace Go.Proofs.Ytlpmnnkijdbopaa
open Go.RowKit Go.Maps

theorem owns_keep {w w' : World} {B k n : Nat} {e : TypeId} {v : Value} {xs : List Value} (h : w.ownsRow B e k v n xs) (hk : ∀ b cur, B ≤ b → w.heap[b]? = some (.cells cur e (0, 0)) → w'.heap[b]? = w.heap[b]?) : w'.ownsRow B e k v n xs := by
  refine ⟨h.1, ?_⟩
  rcases h.2 with hn | ⟨g, cap, cur, rfl, hbg, hgg, rest⟩
  · exact .inl hn
  · exact .inr ⟨g, cap, cur, rfl, hbg, by rw [hk g cur hbg hgg]; exact hgg, rest⟩
/-- a row of its own, of so many texts -/
def Rw (w : World) (B m : Nat) (A : Option Addr) (c : Nat) : Prop := ∃ xs, w.ownsRow B 9 1 (.slice A m c) m xs
theorem Rw.keep {w w' : World} {B m c : Nat} {A : Option Addr} (h : Rw w B m A c) (hk : ∀ b cur, B ≤ b → w.heap[b]? = some (.cells cur 9 (0, 0)) → w'.heap[b]? = w.heap[b]?) : Rw w' B m A c := by
  obtain ⟨xs, h⟩ := h
  exact ⟨xs, owns_keep h hk⟩
theorem Rw.set {w : World} {B m c : Nat} {A : Option Addr} (h : Rw w B m A c) (b o : Nat) (u : Value) : Rw (w.setCell ⟨b, o, none⟩ u) B m A c := by
  obtain ⟨xs, h⟩ := h
  by_cases hA : A = some ⟨b, 0, none⟩
  · subst hA
    exact ⟨_, (h.stored o u).1⟩
  · refine ⟨xs, h.1, ?_⟩
    rcases h.2 with hn | ⟨g, cap, cur, hv, hbg, hgg, rest⟩
    · exact .inl hn
    · have hne : g ≠ b := fun e => hA (by injection hv with h1 _ _; rw [h1, e])
      exact .inr ⟨g, cap, cur, hv, hbg, by rw [heap_setCell_other _ _ _ _ (by simpa using hne)]; exact hgg, rest⟩
theorem run_append_new {w : World} {g d B : Nat} {rt : TypeId} {C : Option Addr} {l : List Bs} (hg : w.heap[g]? = some (.cells #[] 9 (0, 0))) (hr : Rd w B 1 C l.length (l.map tx)) (hl : l.length ≤ 1000) :
    ∃ A' c' w', (Builtin.append_ #[31, 31] rt #[.slice (some ⟨g, 0, none⟩) 0 0, .slice C l.length d]).run Try.prog w = .ok (.slice A' l.length c') w' ∧ w'.ownsRow g 9 1 (.slice A' l.length c') l.length (l.map tx) ∧ w.grownBy w' (some g) := by
  obtain ⟨i0, hi, hz0, hz1, hz2⟩ := info_parts Try.infoS
  have hown : w.ownsRow g 9 1 (.slice (some ⟨g, 0, none⟩) 0 0) 0 [] := ⟨rfl, .inr ⟨g, 0, #[], rfl, Nat.le_refl _, hg, Nat.le_refl _, by decide, rfl, rfl⟩⟩
  obtain ⟨A', c', w', h1, h2, h3⟩ := run_append_rdg (P := Try.prog) (rt := rt) (d := d) Try.underlying31 hi hz0 hz1 hz2 rfl (by decide) hown hr (tx_one l) (by unfold maxLen; omega) (by omega) (Nat.le_of_lt (lt_of_block hg))
  rw [Nat.zero_add] at h1 h2
  rw [List.nil_append] at h2
  exact ⟨A', c', w', h1, h2, h3⟩
theorem str_ne : 9 ≠ 35 := by decide
/-- a list's texts in a row of their own (nothing is said of none) -/
def Ow (w : World) (B : Nat) (l : List Bs) (A : Option Addr) (c : Nat) : Prop := l = [] ∨ w.ownsRow B 9 1 (.slice A l.length c) l.length (l.map tx)
theorem Ow.keep {w w' : World} {B c : Nat} {l : List Bs} {A : Option Addr} (h : Ow w B l A c) (hk : ∀ b cur, B ≤ b → w.heap[b]? = some (.cells cur 9 (0, 0)) → 0 < cur.size → w'.heap[b]? = w.heap[b]?) : Ow w' B l A c := by
  rcases h with h | h
  · exact .inl h
  · by_cases hl : l = []
    · exact .inl hl
    · have h0 : 0 < l.length := List.length_pos_iff.2 hl
      refine .inr ⟨h.1, ?_⟩
      rcases h.2 with hn | ⟨g, cap, cur, hv, hbg, hgg, hcap, h63, hsz, ht⟩
      · exact .inl hn
      · exact .inr ⟨g, cap, cur, hv, hbg, by rw [hk g cur hbg hgg (by omega)]; exact hgg, hcap, h63, hsz, ht⟩
theorem Ow.base {w : World} {B B' c : Nat} {l : List Bs} {A : Option Addr} (h : Ow w B l A c) (hB : B' ≤ B) : Ow w B' l A c := by
  rcases h with h | h
  · exact .inl h
  · exact .inr (owns_base h hB)
theorem Ow.sl {w : World} {B c : Nat} {l : List Bs} {A : Option Addr} {S : Nat → Prop} (h : Ow w B l A c) (hS : ∀ b, B ≤ b → b < w.heap.size → S b) : Sl w S 1 A RS l := by
  rcases h with h | h
  · subst h; exact Sl.nil' _ _ _ _ _
  · exact rs_of_own h hS
section
variable {P : Program} {ops : Array Oper} {Q : Exit → Act → World → Prop}
theorem wp_append_new {oi : Oper} {sx sy : Operand} {a : Act} {w : World} {K : Act → World → Prop} {Q : Exit → Act → World → Prop} {g d B : Nat} {C : Option Addr} {l : List Bs} (ho : oi.op = .call { callee := .builtin .append, args := #[sx, sy], argTypes := #[31, 31] })
    (hs : a.eval sx = .slice (some ⟨g, 0, none⟩) 0 0) (hx : a.eval sy = .slice C l.length d) (hg : w.heap[g]? = some (.cells #[] 9 (0, 0))) (hr : Rd w B 1 C l.length (l.map tx)) (hl : l.length ≤ 1000)
    (h : ∀ A' c' w', Ow w' g l A' c' → w.grownBy w' (some g) → K (a.put oi.dst (.slice A' l.length c')) w') : Oper.wp Try.prog oi a w K Q := by
  obtain ⟨A', c', w', h1, h2, h3⟩ := run_append_new (rt := oi.type) (d := d) hg hr hl
  unfold Oper.wp execOp
  simp only [ho, resolve, invoke, builtin, Sem.run_bind, Sem.run_pure, Result.andThen_ok, List.map_toArray, List.map_cons, List.map_nil, hs, hx]
  rw [h1]
  exact h A' c' w' (.inr h2) h3
end
/-- a type's cells, its texts in rows of their own, the rest as it was -/
def OwnT (w0 wr : World) (B n : Nat) (x : Td) (cs : List Value) : Prop := ∃ A1 c1 A2 c2 A3 c3 A4 c4, cs = [.int .i64 x.kind, tx x.name, .slice A1 x.impls.length c1, .slice A2 x.fields.length c2, .slice A3 x.members.length c3, .slice A4 x.inputs.length c4, .int .i64 x.pos] ∧
  Ow wr B x.impls A1 c1 ∧ Ow wr B x.members A3 c3 ∧
  Sl w0 (fun b => b < w0.heap.size) 4 A2 (RF w0 (fun b => b < w0.heap.size) n) x.fields ∧ Sl w0 (fun b => b < w0.heap.size) 9 A4 (RI w0 (fun b => b < w0.heap.size) n) x.inputs
theorem OwnT.keep {w0 wr w' : World} {B n : Nat} {x : Td} {cs : List Value} (h : OwnT w0 wr B n x cs) (hk : ∀ b cur, B ≤ b → wr.heap[b]? = some (.cells cur 9 (0, 0)) → 0 < cur.size → w'.heap[b]? = wr.heap[b]?) : OwnT w0 w' B n x cs := by
  obtain ⟨A1, c1, A2, c2, A3, c3, A4, c4, e, h1, h3, h2, h4⟩ := h
  exact ⟨A1, c1, A2, c2, A3, c3, A4, c4, e, h1.keep hk, h3.keep hk, h2, h4⟩
theorem OwnT.rt {w0 wr : World} {B n : Nat} {x : Td} {cs : List Value} (h : OwnT w0 wr B n x cs) (hb : Below w0.heap.size w0 wr) : RT wr (fun b => b < wr.heap.size) n x cs := by
  obtain ⟨A1, c1, A2, c2, A3, c3, A4, c4, e, h1, h3, h2, h4⟩ := h
  have hin : ∀ b, b < w0.heap.size → b < wr.heap.size := fun b h => Nat.lt_of_lt_of_le h hb.size
  have hw : ∀ b, b < w0.heap.size → wr.heap[b]? = w0.heap[b]? := fun b h => hb.block b h
  exact ⟨A1, c1, A2, c2, A3, c3, A4, c4, e, h1.sl (fun b _ h => h), h2.map hin hw (RF.map hin hw), h3.sl (fun b _ h => h), h4.map hin hw (RI.map hin hw)⟩
/-- the first k types have rows of their own -/
structure CpL (w0 : World) (B n : Nat) (l : List Td) (A : Option Addr) (c k : Nat) (x1 : List Value) (wr : World) : Prop where
  below : Below w0.heap.size w0 wr
  base : w0.heap.size ≤ B
  row : wr.ownsRow B 35 7 (.slice A l.length c) l.length x1
  done : ∀ j x, j < k → l[j]? = some x → OwnT w0 wr B n x (chunk 7 x1 j)
  todo : ∀ j x, k ≤ j → l[j]? = some x → RT w0 (fun b => b < w0.heap.size) n x (chunk 7 x1 j)
theorem CpL.step {w0 wr w2 : World} {B n g c k c1 c3 : Nat} {l : List Td} {x : Td} {A1 A3 : Option Addr} {x1 : List Value} (h : CpL w0 B n l (some ⟨g, 0, none⟩) c k x1 wr) (hx : l[k]? = some x) (hb : Below wr.heap.size wr w2)
    (r1 : Ow w2 wr.heap.size x.impls A1 c1) (r3 : Ow w2 wr.heap.size x.members A3 c3) :
    CpL w0 B n l (some ⟨g, 0, none⟩) c (k + 1) (putAt (putAt x1 (k * 7 + 4) [.slice A3 x.members.length c3]) (k * 7 + 2) [.slice A1 x.impls.length c1]) ((w2.setCell ⟨g, k * 7 + 4, none⟩ (.slice A3 x.members.length c3)).setCell ⟨g, k * 7 + 2, none⟩ (.slice A1 x.impls.length c1)) := by
  have hlt : k < l.length := (List.getElem?_eq_some_iff.1 hx).1
  have hg := h.row.lt g rfl
  have hrow2 := owns_below h.row hb (fun g hg => (h.row.lt g hg).2)
  have hB2 : B ≤ wr.heap.size := Nat.le_trans hg.1 (Nat.le_of_lt hg.2)
  obtain ⟨g1, cur1, hgc⟩ : ∃ g1 cur, g1 = g ∧ w2.heap[g]? = some (.cells cur 35 (0, 0)) := by
    rcases hrow2.2 with ⟨hv, _⟩ | ⟨g', cap, cur, hv, _, hc, _⟩
    · cases hv
    · injection hv with h1 _ _
      injection h1 with h1
      injection h1 with h1
      subst h1
      exact ⟨g, cur, rfl, hc⟩
  obtain ⟨_, hgc⟩ := hgc
  obtain ⟨hr3, hg3⟩ := owns_setCells [.slice A3 x.members.length c3] (k * 7 + 4) w2 _ hrow2
  obtain ⟨w3, hw3⟩ : ∃ w3, w3 = w2.setCell ⟨g, k * 7 + 4, none⟩ (.slice A3 x.members.length c3) := ⟨_, rfl⟩
  have e3 : w2.setCells g (k * 7 + 4) [.slice A3 x.members.length c3] = w3 := hw3.symm
  rw [e3] at hr3 hg3
  rw [← hw3]
  obtain ⟨hr4, hg4⟩ := owns_setCells [.slice A1 x.impls.length c1] (k * 7 + 2) w3 _ hr3
  obtain ⟨w4, hw4⟩ : ∃ w4, w4 = w3.setCell ⟨g, k * 7 + 2, none⟩ (.slice A1 x.impls.length c1) := ⟨_, rfl⟩
  have e4 : w3.setCells g (k * 7 + 2) [.slice A1 x.impls.length c1] = w4 := hw4.symm
  rw [e4] at hr4 hg4
  rw [← hw4]
  clear hw3 hw4 e3 e4
  have hg24 := hg3.trans hg4
  have hbB : Below B wr w4 := (hb.mono hB2).grown hg24 (Nat.le_trans hB2 hb.size) (fun q hq => by injection hq with hq; omega)
  have hkeep : ∀ b cur, B ≤ b → w2.heap[b]? = some (.cells cur 9 (0, 0)) → 0 < cur.size → w4.heap[b]? = w2.heap[b]? := fun b cur _ hc _ => hg24.block b (lt_of_block hc) (fun e => by
    injection e with e
    subst e
    rw [hgc] at hc
    injection hc with hc
    injection hc with _ hc _
    exact str_ne hc.symm)
  have hl : k * 7 + 7 ≤ x1.length := by rw [h.row.1]; omega
  have hl2 : k * 7 + 7 ≤ (putAt x1 (k * 7 + 4) [.slice A3 x.members.length c3]).length := by rw [hr3.1]; omega
  refine ⟨h.below.trans (hbB.mono h.base), h.base, hr4, fun j y hj hy => ?_, fun j y hj hy => ?_⟩
  · rcases Nat.lt_or_ge j k with hjk | hjk
    · rw [chunk_put_midO (by simp) (by omega), chunk_put_midO (by simp) (by omega)]
      exact ((h.done j y hjk hy).keep (fun b cur _ hc _ => hb.block b (lt_of_block hc))).keep hkeep
    · have hjk : j = k := by omega
      subst hjk
      rw [hx] at hy
      injection hy with hy
      subst hy
      obtain ⟨A1', c1', A2, c2, A3', c3', A4, c4, e, s1, s2, s3, s4⟩ := h.todo j x (Nat.le_refl _) hx
      have e' : chunk 7 x1 j = [.int .i64 x.kind, tx x.name, .slice A1' x.impls.length c1', .slice A2 x.fields.length c2] ++ ([.slice A3' x.members.length c3'] ++ [.slice A4 x.inputs.length c4, .int .i64 x.pos]) := e
      have e2 := chunk_put_mid (k := 7) (o := 4) (cv := [.slice A3' x.members.length c3']) (cs := [.slice A3 x.members.length c3]) rfl rfl rfl hl e'
      have e2' : chunk 7 (putAt x1 (j * 7 + 4) [.slice A3 x.members.length c3]) j = [.int .i64 x.kind, tx x.name] ++ ([.slice A1' x.impls.length c1'] ++ [.slice A2 x.fields.length c2, .slice A3 x.members.length c3, .slice A4 x.inputs.length c4, .int .i64 x.pos]) := e2
      rw [chunk_put_mid (k := 7) (o := 2) (cv := [.slice A1' x.impls.length c1']) (cs := [.slice A1 x.impls.length c1]) rfl rfl rfl hl2 e2']
      exact ⟨A1, c1, A2, c2, A3, c3, A4, c4, rfl, (r1.keep (fun b cur hb' hc => hkeep b cur (by omega) hc)).base hB2, (r3.keep (fun b cur hb' hc => hkeep b cur (by omega) hc)).base hB2, s2, s4⟩
  · rw [chunk_put_midO (by simp) (by omega), chunk_put_midO (by simp) (by omega)]
    exact h.todo j y (by omega) hy
end Go.Proofs.Ytlpmnnkijdbopaa
