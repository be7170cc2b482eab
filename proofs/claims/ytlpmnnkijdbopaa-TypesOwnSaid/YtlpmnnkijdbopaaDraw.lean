/-
  Regions that draw their order, walked once: an operation that only reads may be taken first under a condition S on the world; S need be shown only behind the operations that some taken one does not wait for ('keep').
-/
import Derived.Test.YtlpmnnkijdbopaaPut
import Derived.OrdersHeld
import Derived.RegionTactic
namespace Go.Proofs.Ytlpmnnkijdbopaa
open Go.RowKit

section
variable {P : Program} {ops : Array Oper} {Q : Exit → Act → World → Prop} {md : Region.Mode} {S : World → Prop} {kp : Nat → Bool}

/-- Whatever order is picked from here on; S holds behind each operation that 'kp' names. -/
def wpG (P : Program) (md : Region.Mode) (ops : Array Oper) (Q : Exit → Act → World → Prop) (S : World → Prop) (kp : Nat → Bool) : Nat → Array Bool → Act → World → Prop
  | 0, listed, a, w => Region.ready md ops listed = [] ∧ Q .normal a w
  | fuel + 1, listed, a, w =>
    (Region.ready md ops listed = [] → Q .normal a w) ∧
    ∀ i ∈ Region.ready md ops listed, wpOp P ops Q i (fun a' w' => (kp i = true → S w') ∧ wpG P md ops Q S kp fuel (listed.setIfInBounds i true) a' w') a w
theorem wpAny_of_G : ∀ (fuel : Nat) (listed : Array Bool) (a : Act) (w : World), wpG P md ops Q S kp fuel listed a w → wpAny P md ops Q fuel listed a w
  | 0, _, _, _, h => h
  | fuel + 1, _, _, _, h => ⟨h.1, fun i hi => wpOp_mono (fun a' w' h' => wpAny_of_G fuel _ a' w' h'.2) (h.2 i hi)⟩
theorem wpG_first {i : Nat} {oi : Oper} {v : Value} (hi : ops[i]? = some oi) (hsel : ∀ (j : Nat) (o : Oper) cs b, ops[j]? = some o → o.op ≠ .select cs b)
    (hQ : ∀ c a w, Q (.panic c) (a.put oi.dst v) w → Q (.panic c) a w) :
    ∀ (fuel : Nat) (listed : Array Bool) (a : Act) (w : World),
      (∀ j oj, ops[j]? = some oj → j ≠ i → listed.getD j true = false → (∀ e ∈ oj.after, Region.binds md e = true → e.on ≠ i) → oi.apart ops oj = true) →
      (∀ j oj, ops[j]? = some oj → kp j = false → j ≠ i → listed.getD j true = false → ∃ e ∈ oj.after, Region.binds md e = true ∧ e.on = i) →
      i ∈ Region.ready md ops listed → YieldsIf P ops S oi v a → S w →
      wpG P md ops Q S kp fuel (listed.setIfInBounds i true) (a.put oi.dst v) w → wpG P md ops Q S kp (fuel + 1) listed a w := by
  intro fuel
  induction fuel with
  | zero =>
    intro listed a w _ _ hr hy hS H
    refine ⟨fun h => (by rw [h] at hr; cases hr), fun j hj => ?_⟩
    by_cases hji : j = i
    · subst hji; exact hy.wpOp hi hS ⟨fun _ => hS, H⟩
    · have := ready_mono hj hji
      rw [H.1] at this
      cases this
  | succ fuel ih =>
    intro listed a w hfree hkp hr hy hS H
    refine ⟨fun h => (by rw [h] at hr; cases hr), fun j hj => ?_⟩
    by_cases hji : j = i
    · subst hji; exact hy.wpOp hi hS ⟨fun _ => hS, H⟩
    · have h1 := H.2 j (ready_mono hj hji)
      obtain ⟨hjun, oj, hoj, hall⟩ := mem_ready.1 hj
      have hnot : ∀ e ∈ oj.after, Region.binds md e = true → e.on ≠ i := fun e he hb heq => by
        have h1 := hall e he hb
        have h0 := (mem_ready.1 hr).1
        rw [heq] at h1
        rcases Nat.lt_or_ge i listed.size with h' | h'
        · simp [h'] at h0 h1; rw [h0] at h1; cases h1
        · simp [Array.getElem?_eq_none h'] at h1
      have hkj : kp j = true := by
        cases hk : kp j with
        | true => rfl
        | false =>
          obtain ⟨e, he, hb, heq⟩ := hkp j oj hoj hk hji hjun
          exact absurd heq (hnot e he hb)
      have h2 := wpOp_putIf hoj (hfree j oj hoj hji hjun hnot) (fun cs b => hsel i oi cs b hi) (fun cs b => hsel j oj cs b hoj) hQ hy h1
      have hfree' : ∀ k ok, ops[k]? = some ok → k ≠ i → (listed.setIfInBounds j true).getD k true = false →
          (∀ e ∈ ok.after, Region.binds md e = true → e.on ≠ i) → oi.apart ops ok = true := fun k ok hk hki hun hno => by
        refine hfree k ok hk hki ?_ hno
        by_cases hjk : j = k
        · subst hjk; exact hjun
        · rw [getD_set_ne true hjk] at hun; exact hun
      have hkp' : ∀ k ok, ops[k]? = some ok → kp k = false → k ≠ i → (listed.setIfInBounds j true).getD k true = false → ∃ e ∈ ok.after, Region.binds md e = true ∧ e.on = i := fun k ok hk hkk hki hun => by
        refine hkp k ok hk hkk hki ?_
        by_cases hjk : j = k
        · subst hjk; exact hjun
        · rw [getD_set_ne true hjk] at hun; exact hun
      refine wpOp_mono (fun a' w' h3 => ⟨fun _ => h3.2.1 hkj, ih (listed.setIfInBounds j true) a' w' hfree' hkp' (ready_mono hr (Ne.symm hji)) h3.1 (h3.2.1 hkj) ?_⟩) h2
      rw [Array.setIfInBounds_comm _ _ hji]
      exact h3.2.2

theorem wpG_firstW {i : Nat} {oi : Oper} {v : Value} (hi : ops[i]? = some oi) (hsel : ∀ (j : Nat) (o : Oper) cs b, ops[j]? = some o → o.op ≠ .select cs b)
    (hQ : ∀ c a w, Q (.panic c) (a.put oi.dst v) w → Q (.panic c) a w) (hkp : kp i = false) :
    ∀ (fuel : Nat) (listed : Array Bool) (a : Act) (w : World),
      (∀ j oj, ops[j]? = some oj → j ≠ i → listed.getD j true = false → (∀ e ∈ oj.after, Region.binds md e = true → e.on ≠ i) → oi.apart ops oj = true) →
      i ∈ Region.ready md ops listed → YieldsIf P ops (fun _ => True) oi v a →
      wpG P md ops Q S kp fuel (listed.setIfInBounds i true) (a.put oi.dst v) w → wpG P md ops Q S kp (fuel + 1) listed a w := by
  intro fuel
  induction fuel with
  | zero =>
    intro listed a w _ hr hy H
    refine ⟨fun h => (by rw [h] at hr; cases hr), fun j hj => ?_⟩
    by_cases hji : j = i
    · subst hji; exact hy.wpOp hi trivial ⟨fun h => (by rw [hkp] at h; cases h), H⟩
    · have := ready_mono hj hji
      rw [H.1] at this
      cases this
  | succ fuel ih =>
    intro listed a w hfree hr hy H
    refine ⟨fun h => (by rw [h] at hr; cases hr), fun j hj => ?_⟩
    by_cases hji : j = i
    · subst hji; exact hy.wpOp hi trivial ⟨fun h => (by rw [hkp] at h; cases h), H⟩
    · have h1 := H.2 j (ready_mono hj hji)
      obtain ⟨hjun, oj, hoj, hall⟩ := mem_ready.1 hj
      have hnot : ∀ e ∈ oj.after, Region.binds md e = true → e.on ≠ i := fun e he hb heq => by
        have h1 := hall e he hb
        have h0 := (mem_ready.1 hr).1
        rw [heq] at h1
        rcases Nat.lt_or_ge i listed.size with h' | h'
        · simp [h'] at h0 h1; rw [h0] at h1; cases h1
        · simp [Array.getElem?_eq_none h'] at h1
      have h2 := wpOp_putIf hoj (hfree j oj hoj hji hjun hnot) (fun cs b => hsel i oi cs b hi) (fun cs b => hsel j oj cs b hoj) hQ hy h1
      have hfree' : ∀ k ok, ops[k]? = some ok → k ≠ i → (listed.setIfInBounds j true).getD k true = false →
          (∀ e ∈ ok.after, Region.binds md e = true → e.on ≠ i) → oi.apart ops ok = true := fun k ok hk hki hun hno => by
        refine hfree k ok hk hki ?_ hno
        by_cases hjk : j = k
        · subst hjk; exact hjun
        · rw [getD_set_ne true hjk] at hun; exact hun
      refine wpOp_mono (fun a' w' h3 => ⟨h3.2.1, ih (listed.setIfInBounds j true) a' w' hfree' (ready_mono hr (Ne.symm hji)) h3.1 ?_⟩) h2
      rw [Array.setIfInBounds_comm _ _ hji]
      exact h3.2.2

/-- all operations that are not kept wait for number i -/
def needB (md : Region.Mode) (ops : Array Oper) (kp : Nat → Bool) (listed : Array Bool) (i : Nat) : Bool :=
  (List.range ops.size).all fun j => kp j || j == i || listed.getD j true || (match ops[j]? with | some oj => oj.after.any fun e => Region.binds md e && e.on == i | none => false)
theorem needB_spec {i : Nat} {listed : Array Bool} (h : needB md ops kp listed i = true) (j : Nat) (oj : Oper) (hj : ops[j]? = some oj) (hk : kp j = false) (hji : j ≠ i) (hun : listed.getD j true = false) : ∃ e ∈ oj.after, Region.binds md e = true ∧ e.on = i := by
  have hlt : j < ops.size := (Array.getElem?_eq_some_iff.1 hj).1
  have := List.all_eq_true.1 h j (List.mem_range.2 hlt)
  simp only [hk, hj, hun, Bool.false_or, Bool.or_false, Bool.or_eq_true, beq_iff_eq] at this
  rcases this with h1 | h1
  · exact absurd h1 hji
  · obtain ⟨e, he, hb⟩ := Array.any_eq_true'.1 h1
    simp only [Bool.and_eq_true, beq_iff_eq] at hb
    exact ⟨e, he, hb.1, hb.2⟩
/-- may number i be taken first? -/
def takeB (md : Region.Mode) (ops : Array Oper) (kp : Nat → Bool) (listed : Array Bool) (i : Nat) : Bool :=
  Region.noSelect ops && Region.free md ops listed i && (Region.ready md ops listed).contains i && needB md ops kp listed i
theorem at_of_drop {ops : Array Oper} {i : Nat} {oi : Oper} {rest : List Oper} (h : ops.toList.drop i = oi :: rest) : ops[i]? = some oi := by
  have h2 : (ops.toList.drop i)[0]? = some oi := by rw [h]; rfl
  rw [List.getElem?_drop] at h2
  simpa using h2
theorem wpG_take (i : Nat) {oi : Oper} {rest : List Oper} {v : Value} {fuel : Nat} {listed : Array Bool} {a : Act} {w : World} (hi : ops.toList.drop i = oi :: rest) (hb : takeB md ops kp listed i = true)
    (hQ : ∀ c a w, Q (.panic c) (a.put oi.dst v) w → Q (.panic c) a w) (hwt : Region.wanted oi (yielded ops a.tmps) = true) (hy : ∀ w, S w → (execOp a.eval oi).run P w = .ok (.value v) w) (hS : S w)
    (h : S w → wpG P md ops Q S kp fuel (listed.setIfInBounds i true) (a.put oi.dst v) w) : wpG P md ops Q S kp (fuel + 1) listed a w := by
  simp only [takeB, Bool.and_eq_true] at hb
  obtain ⟨⟨⟨h1, h2⟩, h3⟩, h4⟩ := hb
  have hi := at_of_drop hi
  exact wpG_first hi (Region.noSelect_spec h1) hQ fuel listed a w (Region.free_spec hi h2) (needB_spec h4) (by simpa using h3) (.inl ⟨hwt, hy⟩) hS (h hS)
/-- an operation that looks at no world -/
def takeWB (md : Region.Mode) (ops : Array Oper) (kp : Nat → Bool) (listed : Array Bool) (i : Nat) : Bool :=
  Region.noSelect ops && Region.free md ops listed i && (Region.ready md ops listed).contains i && !(kp i)
theorem wpG_takeW (i : Nat) {oi : Oper} {rest : List Oper} {v : Value} {fuel : Nat} {listed : Array Bool} {a : Act} {w : World} (hi : ops.toList.drop i = oi :: rest) (hb : takeWB md ops kp listed i = true)
    (hQ : ∀ c a w, Q (.panic c) (a.put oi.dst v) w → Q (.panic c) a w) (hwt : Region.wanted oi (yielded ops a.tmps) = true) (hy : ∀ w, (execOp a.eval oi).run P w = .ok (.value v) w)
    (h : wpG P md ops Q S kp fuel (listed.setIfInBounds i true) (a.put oi.dst v) w) : wpG P md ops Q S kp (fuel + 1) listed a w := by
  simp only [takeWB, Bool.and_eq_true, Bool.not_eq_true'] at hb
  obtain ⟨⟨⟨h1, h2⟩, h3⟩, h4⟩ := hb
  have hi := at_of_drop hi
  exact wpG_firstW hi (Region.noSelect_spec h1) hQ h4 fuel listed a w (Region.free_spec hi h2) (by simpa using h3) (.inl ⟨hwt, fun w _ => hy w⟩) h
/-- just one may come up -/
theorem wpG_one (i : Nat) {oi : Oper} {rest : List Oper} {fuel : Nat} {listed : Array Bool} {a : Act} {w : World} (hi : ops.toList.drop i = oi :: rest) (hr : Region.ready md ops listed = [i]) (hwt : Region.wanted oi (yielded ops a.tmps) = true)
    (h : ∀ K : Act → World → Prop, (∀ a' w', (kp i = true → S w') → (S w' ∨ kp i = false → wpG P md ops Q S kp fuel (listed.setIfInBounds i true) a' w') → K a' w') → Oper.wp P oi a w K Q) : wpG P md ops Q S kp (fuel + 1) listed a w := by
  have hi := at_of_drop hi
  refine ⟨fun h0 => (by rw [hr] at h0; cases h0), fun j hj => ?_⟩
  rw [hr] at hj
  have hji : j = i := by simpa using hj
  subst hji
  unfold wpOp
  simp only [hi, hwt, if_true]
  refine .inl (h _ fun a' w' h1 h2 => ⟨h1, h2 ?_⟩)
  cases hk : kp j with
  | true => exact .inl (h1 hk)
  | false => exact .inr rfl
theorem wpG_done {fuel : Nat} {listed : Array Bool} {a : Act} {w : World} (hr : Region.ready md ops listed = []) (h : Q .normal a w) : wpG P md ops Q S kp fuel listed a w := by
  cases fuel with
  | zero => exact ⟨hr, h⟩
  | succ f => exact ⟨fun _ => h, by rw [hr]; simp⟩
theorem wp_region_G (S : World → Prop) (kp : Nat → Bool) {id : Nat} {a : Act} {w : World} (hm : P.follows .mixedOrders = true) (hS : S w.drew)
    (h : S w.drew → wpG P .any ops Q S kp ops.size (Array.replicate ops.size false) a w.drew) : (Code.region id ops true).wp P Q a w :=
  wp_region_any hm (wpAny_of_G _ _ _ _ (h hS))

/-! ### the operations -/
theorem wpG_load (i : Nat) {oi : Oper} {rest : List Oper} {ty : TypeId} {x : Operand} {v : Value} {fuel : Nat} {listed : Array Bool} {a : Act} {w : World} (hi : ops.toList.drop i = oi :: rest) (hb : takeB md ops kp listed i = true)
    (hQ : ∀ c a w, Q (.panic c) (a.put oi.dst v) w → Q (.panic c) a w) (hwt : Region.wanted oi (yielded ops a.tmps) = true) (ho : oi.op = .load ty x) (hy : ∀ w, S w → (Instr.loadAt ty (a.eval x)).run P w = .ok v w) (hS : S w)
    (h : S w → wpG P md ops Q S kp fuel (listed.setIfInBounds i true) (a.put oi.dst v) w) : wpG P md ops Q S kp (fuel + 1) listed a w :=
  wpG_take i hi hb hQ hwt (fun w hw => by
    unfold execOp
    simp only [ho, Sem.run_bind, hy w hw, Sem.run_pure, Result.andThen_ok]) hS h
theorem wpG_index (i : Nat) {oi : Oper} {rest : List Oper} {t e : TypeId} {x y : Operand} {m n c b o j : Nat} {fuel : Nat} {listed : Array Bool} {a : Act} {w : World} (hi : ops.toList.drop i = oi :: rest) (hb : takeB md ops kp listed i = true)
    (hQ : ∀ c a w, Q (.panic c) (a.put oi.dst (.pointer (some ⟨b, o + j * m, none⟩))) w → Q (.panic c) a w) (hwt : Region.wanted oi (yielded ops a.tmps) = true) (ho : oi.op = .indexAddr t x y)
    (hx : a.eval x = .slice (some ⟨b, o, none⟩) n c) (hyy : a.eval y = .int .i64 (j : Int)) (hu : P.underlying t = some (.slice e)) (hsz : (P.info? e).map (·.size) = some m) (hj : j < n) (hS : S w)
    (h : S w → wpG P md ops Q S kp fuel (listed.setIfInBounds i true) (a.put oi.dst (.pointer (some ⟨b, o + j * m, none⟩))) w) : wpG P md ops Q S kp (fuel + 1) listed a w :=
  wpG_take i hi hb hQ hwt (fun w _ => by
    have he : P.elem t = e := by simp [Program.elem, hu]
    have hs : (sizeOf e).run P w = .ok m w := by
      cases hq : P.info? e with
      | none => simp [hq] at hsz
      | some i => simp [hq] at hsz; simp [sizeOf, typeInfo, hq, hsz]
    have hrun : (Instr.indexAt t (.slice (some ⟨b, o, none⟩) n c) (.int .i64 (j : Int))).run P w = .ok (.pointer (some ⟨b, o + j * m, none⟩)) w := by
      rw [run_indexAt_slice (h := by rw [he]; exact hu), if_pos (by omega), he, hs]
      simp [Result.andThen, Addr.add_mid]
    unfold execOp
    simp only [ho, hx, hyy, Sem.run_bind, Sem.run_pure, hrun, Result.andThen_ok]) hS h
theorem wpG_indexW (i : Nat) {oi : Oper} {rest : List Oper} {t e : TypeId} {x y : Operand} {m n c b o j : Nat} {fuel : Nat} {listed : Array Bool} {a : Act} {w : World} (hi : ops.toList.drop i = oi :: rest) (hb : takeWB md ops kp listed i = true)
    (hQ : ∀ c a w, Q (.panic c) (a.put oi.dst (.pointer (some ⟨b, o + j * m, none⟩))) w → Q (.panic c) a w) (hwt : Region.wanted oi (yielded ops a.tmps) = true) (ho : oi.op = .indexAddr t x y)
    (hx : a.eval x = .slice (some ⟨b, o, none⟩) n c) (hyy : a.eval y = .int .i64 (j : Int)) (hu : P.underlying t = some (.slice e)) (hsz : (P.info? e).map (·.size) = some m) (hj : j < n)
    (h : wpG P md ops Q S kp fuel (listed.setIfInBounds i true) (a.put oi.dst (.pointer (some ⟨b, o + j * m, none⟩))) w) : wpG P md ops Q S kp (fuel + 1) listed a w :=
  wpG_takeW i hi hb hQ hwt (fun w => by
    have he : P.elem t = e := by simp [Program.elem, hu]
    have hs : (sizeOf e).run P w = .ok m w := by
      cases hq : P.info? e with
      | none => simp [hq] at hsz
      | some i => simp [hq] at hsz; simp [sizeOf, typeInfo, hq, hsz]
    have hrun : (Instr.indexAt t (.slice (some ⟨b, o, none⟩) n c) (.int .i64 (j : Int))).run P w = .ok (.pointer (some ⟨b, o + j * m, none⟩)) w := by
      rw [run_indexAt_slice (h := by rw [he]; exact hu), if_pos (by omega), he, hs]
      simp [Result.andThen, Addr.add_mid]
    unfold execOp
    simp only [ho, hx, hyy, Sem.run_bind, Sem.run_pure, hrun, Result.andThen_ok]) h
end
/-- a builtin append, its run known -/
theorem wp_append_run {P : Program} {op : Oper} {a : Act} {w w' : World} {K : Act → World → Prop} {Q : Exit → Act → World → Prop} {s x : Operand} {t : TypeId} {v u r : Value} (ho : op.op = .call { callee := .builtin .append, args := #[s, x], argTypes := #[t, t] })
    (hs : a.eval s = v) (hx : a.eval x = u) (hrun : (Builtin.append_ #[t, t] op.type #[v, u]).run P w = .ok r w') (h : K (a.put op.dst r) w') : op.wp P a w K Q := by
  unfold Oper.wp execOp
  simp only [ho, resolve, invoke, builtin, Sem.run_bind, Sem.run_pure, Result.andThen_ok, List.map_toArray, List.map_cons, List.map_nil, hs, hx]
  rw [hrun]
  exact h
/-- an operation whose run is known -/
theorem wp_run {P : Program} {op : Oper} {a : Act} {w w' : World} {K : Act → World → Prop} {Q : Exit → Act → World → Prop} {v : Value} (h : (execOp a.eval op).run P w = .ok (.value v) w') (hK : K (a.put op.dst v) w') : op.wp P a w K Q := by
  unfold Oper.wp
  rw [h]
  exact hK
theorem wp_run_skip {P : Program} {op : Oper} {a : Act} {w w' : World} {K : Act → World → Prop} {Q : Exit → Act → World → Prop} (h : (execOp a.eval op).run P w = .ok .skip w') (hK : K (a.put op.dst undef) w') : op.wp P a w K Q := by
  unfold Oper.wp
  rw [h]
  exact hK
/-- a look-up in a map, taken first -/
theorem wpG_lookup {P : Program} {ops : Array Oper} {Q : Exit → Act → World → Prop} {md : Region.Mode} {S : World → Prop} {kp : Nat → Bool} (i : Nat) {oi : Oper} {rest : List Oper} {ty : TypeId} {x y : Operand} {ok : Bool} {v : Value} {fuel : Nat} {listed : Array Bool} {a : Act} {w : World} (hi : ops.toList.drop i = oi :: rest) (hb : takeB md ops kp listed i = true)
    (hQ : ∀ c a w, Q (.panic c) (a.put oi.dst v) w → Q (.panic c) a w) (hwt : Region.wanted oi (yielded ops a.tmps) = true) (ho : oi.op = .lookup ty x y ok) (hy : ∀ w, S w → (Instr.lookup ty (a.eval x) (a.eval y) ok).run P w = .ok v w) (hS : S w)
    (h : S w → wpG P md ops Q S kp fuel (listed.setIfInBounds i true) (a.put oi.dst v) w) : wpG P md ops Q S kp (fuel + 1) listed a w :=
  wpG_take i hi hb hQ hwt (fun w hw => by
    unfold execOp
    simp only [ho, Sem.run_bind, hy w hw, Sem.run_pure, Result.andThen_ok]) hS h
end Go.Proofs.Ytlpmnnkijdbopaa
