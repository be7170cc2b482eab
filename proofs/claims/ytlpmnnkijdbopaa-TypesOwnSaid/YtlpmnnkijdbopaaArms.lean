/-
  Operations as laws of the walk: an element's address; an element's load.
-/
import Derived.Test.YtlpmnnkijdbopaaRel
import Derived.Deep.WholeRow
namespace Go.Proofs.Ytlpmnnkijdbopaa
open Go.RowKit

theorem Try.sizeV : (Try.prog.info? 67).map (·.size) = some 5 := by kernel_rfl
theorem Try.sizeA : (Try.prog.info? 116).map (·.size) = some 7 := by kernel_rfl
theorem Try.sizeI : (Try.prog.info? 69).map (·.size) = some 9 := by kernel_rfl
theorem Try.sizeF : (Try.prog.info? 42).map (·.size) = some 4 := by kernel_rfl
theorem Try.sizeT : (Try.prog.info? 35).map (·.size) = some 7 := by kernel_rfl
theorem Try.infoS : (Try.prog.info? 9).map (fun i => (i.zero, i.size, i.bytes)) = some (some (.string ⟨#[]⟩), 1, 16) := by kernel_rfl
theorem Try.sizeS : (Try.prog.info? 9).map (·.size) = some 1 := by kernel_rfl
section
variable {P : Program} {ops : Array Oper} {rest : List Oper} {a : Act} {Q : Exit → Act → World → Prop} {w : World} {dst : Option Tmp} {ty : TypeId} {pos : String} {af : Array Edge} {x y : Operand} {g : Option (Nat × Bool)}
theorem wpList_index {t e : TypeId} {m n c b o j : Nat} {A : Option Addr} (hu : P.underlying t = some (.slice e)) (hsz : (P.info? e).map (·.size) = some m) (hx : a.eval x = .slice A n c) (hy : a.eval y = .int .i64 (j : Int))
    (hA : A = some ⟨b, o, none⟩) (hj : j < n)
    (hw : Region.wanted { dst := dst, op := .indexAddr t x y, type := ty, pos := pos, after := af, guard := g } (yielded ops a.tmps) = true) (h : wpList P ops Q rest (a.put dst (.pointer (some ⟨b, o + j * m, none⟩))) w) :
    wpList P ops Q ({ dst := dst, op := .indexAddr t x y, type := ty, pos := pos, after := af, guard := g } :: rest) a w :=
  wpList_step fun _ hK => by
    rw [if_pos hw]
    have he : P.elem t = e := by simp [Program.elem, hu]
    have hs : (sizeOf e).run P w = .ok m w := by
      cases hq : P.info? e with
      | none => simp [hq] at hsz
      | some i => simp [hq] at hsz; simp [sizeOf, typeInfo, hq, hsz]
    have hrun : (Instr.indexAt t (.slice A n c) (.int .i64 (j : Int))).run P w = .ok (.pointer (some ⟨b, o + j * m, none⟩)) w := by
      subst hA
      rw [run_indexAt_slice (h := by rw [he]; exact hu), if_pos (by omega), he, hs]
      simp [Result.andThen, Addr.add_mid]
    unfold Oper.wp execOp
    simp only [hx, hy, Sem.run_bind, Sem.run_pure, hrun, Result.andThen_ok]
    exact hK _ _ h
theorem wpList_loadE {t : TypeId} {b o : Nat} {cs : List Value} {d : TypeDesc} (hx : a.eval x = .pointer (some ⟨b, o, none⟩)) (hc : w.rangeAt b o cs) (hu : P.underlying t = some d) (hd : d.isRow = true)
    (hi : (P.info? t).map (·.size) = some cs.length)
    (hw : Region.wanted { dst := dst, op := .load t x, type := ty, pos := pos, after := af, guard := g } (yielded ops a.tmps) = true) (h : wpList P ops Q rest (a.put dst (.agg cs.toArray)) w) :
    wpList P ops Q ({ dst := dst, op := .load t x, type := ty, pos := pos, after := af, guard := g } :: rest) a w :=
  wpList_step fun _ hK => by
    rw [if_pos hw]
    exact wp_load_mid t x rfl b o hx cs d hc hu hd hi (hK _ _ h)
theorem wpList_store_new {t : TypeId} {W : World} {c : Array Value} {cs : Array Value} (hw : w = W.alloc (.cells c t (0, 0))) (hx : a.eval x = .pointer (some ⟨W.heap.size, 0, none⟩)) (hy : a.eval y = .agg cs)
    (hi : (P.info? t).map (·.size) = some cs.size) (ho : c.size = cs.size) (h1 : cs.all (·.oneCell') = true) (h : wpList P ops Q rest (a.put dst undef) (W.alloc (.cells cs t (0, 0)))) :
    wpList P ops Q ({ dst := dst, op := .store t x y, type := ty, pos := pos, after := af, guard := none } :: rest) a w :=
  wpList_plain rfl fun _ hK => by
    subst hw
    unfold Oper.wp execOp
    simp only [hx, hy, Instr.storeAt, Instr.sureAddr, Sem.run_bind, Sem.run_pure, Result.andThen_ok, run_storeVar_new W t c cs hi ho h1]
    exact hK _ _ h
end
theorem Sl.addr {α : Type} {w : World} {S : Nat → Prop} {k : Nat} {A : Option Addr} {R : α → List Value → Prop} {xs : List α} (h : Sl w S k A R xs) :
    ∃ b o, (xs ≠ [] → A = some ⟨b, o, none⟩ ∧ S b) ∧ ∀ j x, xs[j]? = some x → ∃ cs, cs.length = k ∧ w.rangeAt b (o + j * k) cs ∧ R x cs := by
  cases xs with
  | nil => exact ⟨0, 0, fun h => (h rfl).elim, fun j x hx => by simp at hx⟩
  | cons x r =>
    obtain ⟨b, o, cs, e, hb, _⟩ := h 0 x rfl
    refine ⟨b, o, fun _ => ⟨e, hb⟩, fun j y hy => ?_⟩
    obtain ⟨b', o', cs', e', _, hl, hr, hR⟩ := h j y hy
    rw [e] at e'
    injection e' with e'
    injection e' with e1 e2
    subst e1
    subst e2
    exact ⟨cs', hl, hr, hR⟩
/-- append onto an own row, as a step of a region that draws its order. -/
theorem step_append_rdg {P : Program} {ops : Array Oper} {o : Oper} {a : Act} {w : World} {Kt : Act → World → Prop} {Q : Exit → Act → World → Prop} {E : Prop} (hgd : o.guard = none) (s x : Operand) {t e : TypeId}
    (ho : o.op = .call { callee := .builtin .append, args := #[s, x], argTypes := #[t, t] }) {base : Nat} {i : TypeInfo} {z : Value} {k bytes : Nat} (ht : P.underlying t = some (.slice e)) (hi : P.info? e = some i) (hz : i.zero = some z)
    (hsize : i.size = k) (hby : i.bytes = bytes) (hzs : z.cells.size = k) (hk : 0 < k)
    {A C : Option Addr} {n c m d B : Nat} {xs news : List Value} (hs : a.eval s = .slice A n c) (hx : a.eval x = .slice C m d)
    (hown : w.ownsRow base e k (.slice A n c) n xs) (hr : Rd w B k C m news) (h1 : ∀ u ∈ news, u.oneCell' = true)
    (h63 : n + m ≤ maxLen) (hbytes : (n + m) * bytes ≤ 140737488355328) (hbase : base ≤ w.heap.size)
    (h : ∀ A' c' w', w'.ownsRow base e k (.slice A' (n + m) c') (n + m) (xs ++ news) → w.grownBy w' (Value.slice A n c).ownBlock → Kt (a.put o.dst (.slice A' (n + m) c')) w') :
    if Region.wanted o (yielded ops a.tmps) = true then Oper.wp P o a w Kt Q else E := by
  have hw : Region.wanted o (yielded ops a.tmps) = true := by simp [Region.wanted, hgd]
  rw [if_pos hw]
  obtain ⟨A', c', w', hrun, h2, h3⟩ := run_append_rdg (P := P) (rt := o.type) (d := d) ht hi hz hsize hby hzs hk hown hr h1 h63 hbytes hbase
  unfold Oper.wp
  simp only [execOp, ho, resolve, invoke, builtin, Sem.run_bind, Sem.run_pure, Result.andThen_ok, List.map_toArray, List.map_cons, List.map_nil, hs, hx]
  rw [hrun]
  exact h A' c' w' h2 h3
theorem ne_nil_of_lt {α : Type} {xs : List α} {k : Nat} (h : k < xs.length) : xs ≠ [] := by intro e; subst e; simp at h
end Go.Proofs.Ytlpmnnkijdbopaa
