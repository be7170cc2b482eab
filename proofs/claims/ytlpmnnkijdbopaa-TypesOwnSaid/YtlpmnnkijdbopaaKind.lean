/-
  The walks of Kind, is, Composite.
-/
import Derived.Test.YtlpmnnkijdbopaaSlices
namespace Go.Proofs.Ytlpmnnkijdbopaa
open Go.RowKit Go.Maps

theorem run_field0 (a0 a1 a2 a3 a4 a5 a6 : Value) (w : World) : (Instr.field 35 (.agg #[a0, a1, a2, a3, a4, a5, a6]) 0).run Try.prog w = .ok a0 w := by kernel_rfl
theorem run_field2 (a0 a1 a2 a3 a4 a5 a6 : Value) (w : World) : (Instr.field 35 (.agg #[a0, a1, a2, a3, a4, a5, a6]) 2).run Try.prog w = .ok a2 w := by kernel_rfl
theorem run_field4 (a0 a1 a2 a3 a4 a5 a6 : Value) (w : World) : (Instr.field 35 (.agg #[a0, a1, a2, a3, a4, a5, a6]) 4).run Try.prog w = .ok a4 w := by kernel_rfl
def noTd : Td := { kind := 0, name := [], impls := [], fields := [], members := [], inputs := [], pos := 0 }
/-- a name's type; nothing: a type of no kind -/
def look (T : Ts) (k : Bs) : Td := (find T k).getD noTd
theorem kind_look (T : Ts) (k : Bs) : kind T k = (look T k).kind := by unfold kind look; cases find T k <;> rfl
theorem TysX.cells {n lo hi p : Nat} {w : World} {T : Ts} {X : TL} (h : TysX n w lo hi p T X) (k : Bs) : ∃ A1 c1 A2 c2 A3 c3 A4 c4, (dget X.D k).getD (.agg zeroT.toArray) = .agg #[.int .i64 (look T k).kind, tx (look T k).name, .slice A1 (look T k).impls.length c1, .slice A2 (look T k).fields.length c2, .slice A3 (look T k).members.length c3, .slice A4 (look T k).inputs.length c4, .int .i64 (look T k).pos] ∧
    RT w (In' lo hi) n (look T k) [.int .i64 (look T k).kind, tx (look T k).name, .slice A1 (look T k).impls.length c1, .slice A2 (look T k).fields.length c2, .slice A3 (look T k).members.length c3, .slice A4 (look T k).inputs.length c4, .int .i64 (look T k).pos] := by
  unfold look
  cases hf : find T k with
  | none =>
    rw [h.non k hf]
    exact ⟨none, 0, none, 0, none, 0, none, 0, rfl, none, 0, none, 0, none, 0, none, 0, rfl, Sl.nil' _ _ _ _ _, Sl.nil' _ _ _ _ _, Sl.nil' _ _ _ _ _, Sl.nil' _ _ _ _ _⟩
  | some d =>
    obtain ⟨cs, h1, h2⟩ := h.get k d hf
    rw [h1]
    have h3 := h2
    obtain ⟨A1, c1, A2, c2, A3, c3, A4, c4, e, _⟩ := h2
    subst e
    exact ⟨A1, c1, A2, c2, A3, c3, A4, c4, rfl, h3⟩
theorem TysX.p0 {n lo hi p : Nat} {w : World} {T : Ts} {X : TL} (h : TysX n w lo hi p T X) : w.cell? ⟨p, 0, none⟩ = some (.map (some X.m)) := by rw [cell_of_row _ _ _ _ _ _ h.blk]; rfl
theorem TysX.p1 {n lo hi p : Nat} {w : World} {T : Ts} {X : TL} (h : TysX n w lo hi p T X) : w.cell? ⟨p, 1, none⟩ = some (.slice X.A T.length X.c) := by rw [cell_of_row _ _ _ _ _ _ h.blk]; rfl
theorem TysX.names {n lo hi p : Nat} {w : World} {T : Ts} {X : TL} (h : TysX n w lo hi p T X) (k : Bs) : FewT n (look T k) ∨ (look T k).impls = [] ∧ (look T k).members = [] ∧ (look T k).fields = [] ∧ (look T k).inputs = [] := by
  unfold look
  cases hf : find T k with
  | none => exact .inr ⟨rfl, rfl, rfl, rfl⟩
  | some d =>
    unfold find at hf
    split at hf
    · injection hf with hf
      subst hf
      exact .inr ⟨rfl, rfl, rfl, rfl⟩
    · exact .inl (h.few _ (List.mem_of_find?_eq_some hf))
set_option maxRecDepth 20000 in
theorem kind_any {n lo hi p : Nat} {w : World} {T : Ts} {X : TL} {k : Bs} (h : TysX n w lo hi p T X) (hk : k.length ≤ maxLen) : Calls Try.prog 15 #[.pointer (some ⟨p, 0, none⟩), tx k] w fun e w' => e = .returned (.int .i64 (kind T k)) ∧ w = w' := by
  obtain ⟨A1, c1, A2, c2, A3, c3, A4, c4, e1, _⟩ := h.cells k
  have p0 := h.p0
  have q0 := run_field0
  have H := hide (And.intro h (And.intro hk e1))
  rw [kind_look]
  clear h hk e1
  go_enter Try.func15, Try.ntmps15
  go_wp2_with (at_lookup; refine wpList_tget rfl H.out.1.map rfl H.out.2.1 H.out.2.2 rfl ?_)
  go_ret
  exact ⟨rfl, rfl⟩
def isK (T : Ts) (k : Bs) (ks : List Int) : Bool := decide (kind T k ≠ 0) && decide (kind T k ∈ ks)
set_option maxHeartbeats 400000 in
theorem is_any {n lo hi p : Nat} {S : Nat → Prop} {w : World} {T : Ts} {X : TL} {k : Bs} {A : Option Addr} {ks : List Int} (c : Nat) (h : TysX n w lo hi p T X) (hk : k.length ≤ maxLen) (hs : Sl w S 1 A RN ks) (hl : ks.length ≤ 1000000) :
    Calls Try.prog 29 #[.pointer (some ⟨p, 0, none⟩), tx k, .slice A ks.length c] w fun e w' => e = .returned (.bool (isK T k ks)) ∧ w = w' := by
  have H := hide (And.intro h (And.intro hk (And.intro hs hl)))
  clear h hk hs hl
  go_enter Try.func29, Try.ntmps29
  go_wp2_with fail
  refine (kind_any H.out.1 H.out.2.1).mono ?_
  rintro e w1 ⟨rfl, rfl⟩
  obtain ⟨x, hx⟩ : ∃ x, x = kind T k := ⟨_, rfl⟩
  have HX := hide hx
  rw [← hx]
  clear hx
  by_cases h0 : x = 0
  · have hb : (x != 0) = false := by simp [h0]
    have H0 := hide h0
    clear h0
    go_wp2
    go_ret
    exact ⟨by simp [isK, ← HX.out, H0.out], rfl⟩
  · have hb : (x != 0) = true := by simpa using h0
    go_wp2_with (go_at_call 50; refine (containsI_any c H.out.2.2.1 H.out.2.2.2).mono ?_; rintro e w1 ⟨rfl, rfl⟩)
    go_ret
    exact ⟨by simp [isK, ← HX.out, h0], rfl⟩
/-- ints that are written out, in new memory -/
theorem rn_new (w : World) (ks : List Int) (t : TypeId) : Sl (w.alloc (.cells (ks.map (Value.int .i64)).toArray t)) (fun b => b = w.heap.size) 1 (some ⟨w.heap.size, 0, none⟩) RN ks := by
  intro j x hx
  refine ⟨w.heap.size, 0, [.int .i64 x], rfl, rfl, rfl, fun i u hu => ?_, rfl⟩
  match i with
  | 0 =>
    rw [cell_of_row _ _ _ _ _ _ (heap_alloc_new w _)]
    simp at hu
    subst hu
    simp [hx]
  | i + 1 => simp at hu
theorem rn_new' (w : World) (ks : List Int) (t : TypeId) {g : Nat} (hg : w.heap.size = g) : Sl (w.alloc (.cells (ks.map (Value.int .i64)).toArray t)) (fun b => b = g) 1 (some ⟨g, 0, none⟩) RN ks := by
  subst hg
  exact rn_new w ks t
theorem tys_alloc {n lo hi p : Nat} {w : World} {T : Ts} {X : TL} (h : TysX n w lo hi p T X) (o : Obj) : TysX n (w.alloc o) lo hi p T X := h.below ((Below.refl _ _).alloc (Nat.le_refl _) _)
def comp (T : Ts) (k : Bs) : Bool := isK T k [2, 3, 4]
set_option maxHeartbeats 400000 in
theorem composite_any {n lo hi p : Nat} {w : World} {T : Ts} {X : TL} {k : Bs} (h : TysX n w lo hi p T X) (hk : k.length ≤ maxLen) :
    Calls Try.prog 18 #[.pointer (some ⟨p, 0, none⟩), tx k] w fun e w' => e = .returned (.bool (comp T k)) ∧ Below w.heap.size w w' := by
  have H := hide (And.intro h hk)
  clear h hk
  go_enter Try.func18, Try.ntmps18
  go_wp2_with fail
  refine (is_any (ks := [2, 3, 4]) 3 (tys_alloc H.out.1 _) H.out.2 (rn_new w [2, 3, 4] 3) (by decide)).mono ?_
  rintro e w1 ⟨rfl, rfl⟩
  go_wp2
  go_ret
  exact ⟨rfl, (Below.refl _ _).alloc (Nat.le_refl _) _⟩
theorem rs_sub {n : Nat} {w : World} {lo hi p : Nat} {T : Ts} {X : TL} (h : TysX n w lo hi p T X) (k : Bs) : (look T k).impls.length ≤ 60 ∧ (look T k).members.length ≤ 60 := by
  rcases h.names k with h1 | ⟨h1, h2, _⟩
  · exact ⟨h1.impls.1, h1.members.1⟩
  · rw [h1, h2]; simp
theorem ret_b {x y : Bool} (h : x = y) : Ending.returned (.bool x) = .returned (.bool y) := by rw [h]
end Go.Proofs.Ytlpmnnkijdbopaa
