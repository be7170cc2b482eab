/-
  The walk of a text's digest.
-/
import Derived.Test.YtmeilpehlkpofaaParsePlain
import Derived.Laws.ResultCell
namespace Go.Proofs.Ytmeilpehlkpofaa
open Go.RowKit
open sha

abbrev C16 : Array Value := #[.int .u8 48, .int .u8 49, .int .u8 50, .int .u8 51, .int .u8 52, .int .u8 53, .int .u8 54, .int .u8 55, .int .u8 56, .int .u8 57, .int .u8 97, .int .u8 98, .int .u8 99, .int .u8 100, .int .u8 101, .int .u8 102]
abbrev U16 : Obj := .cells C16 5 (0, 0)
abbrev M16 : Obj := .cells C16 5 (16, 17)
/-- []byte of a constant: the row is marked. -/
theorem run_mark (w : World) (g : Nat) (n c : Nat) (hg : w.heap[g]? = some U16) :
    (convert 22 22 (.slice (some ⟨g, 0, none⟩) n c)).run Try.prog w = .ok (.slice (some ⟨g, 0, none⟩) n c) { w with heap := w.heap.modify g fun _ => M16 } := by
  have hsh : w.shape? g = some (5, 16) := by
    unfold World.shape?; rw [hg]; rfl
  have hfr : w.freeze ⟨g, 16, none⟩ 1 = { w with heap := w.heap.modify g fun _ => M16 } := by
    unfold World.freeze
    rw [if_neg (by decide)]
    congr 1
    apply Array.ext
    · simp
    · intro i h1 h2
      simp only [Array.getElem_modify]
      split
      · rename_i e
        subst e
        have : w.heap[g]'(by simpa using h1) = U16 := by
          have hlt : g < w.heap.size := by simpa using h1
          rw [Array.getElem?_eq_getElem hlt] at hg
          injection hg
        rw [this]
        rfl
      · rfl
  simp [convert, run_underlying Try.underlying22, run_underlying Try.underlying5, markStringish, hsh]
  exact hfr
theorem modify_last (w : World) (o o' : Obj) : ({ w.alloc o with heap := (w.alloc o).heap.modify w.heap.size fun _ => o' } : World) = w.alloc o' := by
  unfold World.alloc
  simp only [World.mk.injEq, and_true]
  apply Array.ext
  · simp
  · intro i h1 h2
    simp only [Array.getElem_modify, Array.getElem_push]
    by_cases h : w.heap.size = i
    · subst h; simp
    · have : i < w.heap.size := by simp at h1; omega
      simp [h, this]
theorem modify_next (w : World) (o p o' : Obj) : ({ (w.alloc o).alloc p with heap := ((w.alloc o).alloc p).heap.modify w.heap.size fun _ => o' } : World) = (w.alloc o').alloc p := by
  unfold World.alloc
  simp only [World.mk.injEq, and_true]
  apply Array.ext
  · simp
  · intro i h1 h2
    simp only [Array.getElem_modify, Array.getElem_push, Array.size_push]
    by_cases h : w.heap.size = i
    · subst h; simp
    · by_cases h3 : i < w.heap.size
      · simp [h, h3, show i < w.heap.size + 1 from by omega]
      · have : i = w.heap.size + 1 := by simp at h1; omega
        subst this
        simp
theorem mark1 (w : World) (n c : Nat) : (convert 22 22 (.slice (some ⟨w.heap.size, 0, none⟩) n c)).run Try.prog (w.alloc U16).drew = .ok (.slice (some ⟨w.heap.size, 0, none⟩) n c) (w.alloc M16).drew := by
  rw [run_mark (w.alloc U16).drew _ n c (heap_alloc_new w U16)]
  exact congrArg (fun W : World => Result.ok (Value.slice (some ⟨w.heap.size, 0, none⟩) n c) W.drew) (modify_last w U16 M16)
theorem mark2 (w : World) (o : Obj) (n c : Nat) : (convert 22 22 (.slice (some ⟨w.heap.size + 1, 0, none⟩) n c)).run Try.prog ((w.alloc o).alloc U16).drew = .ok (.slice (some ⟨w.heap.size + 1, 0, none⟩) n c) ((w.alloc o).alloc M16).drew := by
  have := mark1 (w.alloc o) n c
  rw [World.size_alloc] at this
  exact this
theorem mark3 (w : World) (o : Obj) (n c : Nat) : (convert 22 22 (.slice (some ⟨w.heap.size, 0, none⟩) n c)).run Try.prog ((w.alloc U16).alloc o).drew = .ok (.slice (some ⟨w.heap.size, 0, none⟩) n c) ((w.alloc M16).alloc o).drew := by
  have h : ((w.alloc U16).alloc o).drew.heap[w.heap.size]? = some U16 := by
    show ((w.alloc U16).alloc o).heap[w.heap.size]? = _
    rw [Below.heap_alloc _ _ _ (by simp)]; exact heap_alloc_new w U16
  rw [run_mark _ _ n c h]
  exact congrArg (fun W : World => Result.ok (Value.slice (some ⟨w.heap.size, 0, none⟩) n c) W.drew) (modify_next w U16 o M16)
theorem rb16 (w : World) (o : Obj) (h : o = U16 ∨ o = M16) : Rb (w.alloc o) (w.heap.size + 1) (some ⟨w.heap.size, 0, none⟩) 16 hexs.data.toList := by
  rcases h with rfl | rfl
  · exact Rb.lit w hexs.data.toList 5 (0, 0)
  · exact Rb.lit w hexs.data.toList 5 (16, 17)
theorem rb16a (w : World) (o p : Obj) (h : o = U16 ∨ o = M16) : Rb ((w.alloc o).alloc p).drew (w.heap.size + 2) (some ⟨w.heap.size, 0, none⟩) 16 hexs.data.toList :=
  (((rb16 w o h).alloc (by simp) p).drew).more (by omega)
theorem rb16b (w : World) (o p : Obj) (h : p = U16 ∨ p = M16) : Rb ((w.alloc o).alloc p).drew (w.heap.size + 2) (some ⟨w.heap.size + 1, 0, none⟩) 16 hexs.data.toList := by
  have := (rb16 (w.alloc o) p h).drew
  rw [World.size_alloc] at this
  exact this
/-- A region in which two chains of operations may come up in any order: an invariant over how far each has come. -/
theorem wpAny_two {P : Program} {md : Region.Mode} {ops : Array Oper} {Q : Exit → Act → World → Prop} (L : Nat → Nat → Array Bool) (I : Nat → Nat → Act → World → Prop) (is js : Nat → Nat) (m n fuel : Nat)
    (hchk : ((List.range (m + 1)).all fun c => (List.range (n + 1)).all fun d => (c == m && d == n) ||
      (!(Region.ready md ops (L c d)).isEmpty && (Region.ready md ops (L c d)).all fun i => (decide (c < m) && i == is c && (L c d).setIfInBounds i true == L (c + 1) d) || (decide (d < n) && i == js d && (L c d).setIfInBounds i true == L c (d + 1)))) = true)
    (h1 : ∀ c d a w, c < m → d ≤ n → I c d a w → wpOp P ops Q (is c) (I (c + 1) d) a w) (h2 : ∀ c d a w, c ≤ m → d < n → I c d a w → wpOp P ops Q (js d) (I c (d + 1)) a w)
    (hend : ∀ a w, I m n a w → wpAny P md ops Q fuel (L m n) a w) :
    ∀ k c d, (m - c) + (n - d) = k → c ≤ m → d ≤ n → ∀ a w, I c d a w → wpAny P md ops Q (k + fuel) (L c d) a w := by
  intro k
  induction k with
  | zero =>
    intro c d hk hc hd a w hI
    obtain rfl : c = m := by omega
    obtain rfl : d = n := by omega
    rw [Nat.zero_add]
    exact hend a w hI
  | succ k ih =>
    intro c d hk hc hd a w hI
    have hc1 := List.all_eq_true.1 (List.all_eq_true.1 hchk c (List.mem_range.2 (by omega))) d (List.mem_range.2 (by omega))
    rw [Bool.or_eq_true, Bool.and_eq_true, Bool.and_eq_true] at hc1
    rcases hc1 with ⟨e1, e2⟩ | ⟨hne, hall⟩
    · have := beq_iff_eq.1 e1
      have := beq_iff_eq.1 e2
      omega
    · rw [show k + 1 + fuel = (k + fuel) + 1 from by omega]
      refine ⟨fun h0 => ?_, fun i hi => ?_⟩
      · rw [h0] at hne; simp at hne
      · have := List.all_eq_true.1 hall i hi
        rw [Bool.or_eq_true, Bool.and_eq_true, Bool.and_eq_true, Bool.and_eq_true, Bool.and_eq_true] at this
        rcases this with ⟨⟨hcm, hii⟩, hL⟩ | ⟨⟨hdn, hii⟩, hL⟩
        · have hcm := of_decide_eq_true hcm
          obtain rfl := beq_iff_eq.1 hii
          rw [beq_iff_eq.1 hL]
          exact wpOp_mono (fun a' w' h' => ih (c + 1) d (by omega) (by omega) hd a' w' h') (h1 c d a w hcm hd hI)
        · have hdn := of_decide_eq_true hdn
          obtain rfl := beq_iff_eq.1 hii
          rw [beq_iff_eq.1 hL]
          exact wpOp_mono (fun a' w' h' => ih c (d + 1) (by omega) hc (by omega) a' w' h') (h2 c d a w hc hdn hI)
theorem wpAny_to {P : Program} {md : Region.Mode} {ops : Array Oper} {Q : Exit → Act → World → Prop} {f fuel : Nat} {L listed : Array Bool} {a : Act} {w : World} (hf : fuel = f) (hL : listed = L) (h : wpAny P md ops Q f L a w) : wpAny P md ops Q fuel listed a w := by rw [hf, hL]; exact h
def sl16 (g : Nat) : Value := .slice (some ⟨g, 0, none⟩) 16 16
abbrev B16 : Array (Nat × Operand) := #[(0, .const (.int .u8 48)), (1, .const (.int .u8 49)), (2, .const (.int .u8 50)), (3, .const (.int .u8 51)), (4, .const (.int .u8 52)), (5, .const (.int .u8 53)), (6, .const (.int .u8 54)), (7, .const (.int .u8 55)), (8, .const (.int .u8 56)), (9, .const (.int .u8 57)), (10, .const (.int .u8 97)), (11, .const (.int .u8 98)), (12, .const (.int .u8 99)), (13, .const (.int .u8 100)), (14, .const (.int .u8 101)), (15, .const (.int .u8 102))]
section
variable {ops : Array Oper} {Q : Exit → Act → World → Prop} {i t u v g : Nat} {Kt : Act → World → Prop} {a : Act} {w : World} {ty : TypeId} {pos : String} {af : Array Edge}
theorem wpOp_of_wp {o : Oper} (ho : ops[i]? = some o) (hg : o.guard = none) (h : o.wp Try.prog a w Kt Q) : wpOp Try.prog ops Q i Kt a w := by
  unfold wpOp
  rw [ho]
  simp only [Region.wanted, hg, if_true]
  exact .inl h
theorem wpOp_build (ho : ops[i]? = some { dst := some t, op := .buildSlice 22 16 B16, type := ty, pos := pos, after := af, guard := none })
    (h : Kt (a.put (some t) (sl16 w.heap.size)) (w.alloc U16)) : wpOp Try.prog ops Q i Kt a w := by
  refine wpOp_of_wp ho rfl ?_
  go_simp
  exact h
theorem wpOp_mark (ho : ops[i]? = some { dst := some t, op := .convert 22 22 (.tmp u), type := ty, pos := pos, after := af, guard := none }) (hu : a.eval (.tmp u) = sl16 g) (hg : w.heap[g]? = some U16)
    (h : Kt (a.put (some t) (sl16 g)) { w with heap := w.heap.modify g fun _ => M16 }) : wpOp Try.prog ops Q i Kt a w := by
  refine wpOp_of_wp ho rfl ?_
  unfold Oper.wp execOp
  simp only [hu, sl16, Sem.run_bind, run_mark w g 16 16 hg, Result.andThen_ok, Sem.run_pure]
  exact h
theorem wpOp_find {B : Nat} {x : UInt8} (ho : ops[i]? = some { dst := some t, op := .call { callee := .value (.func 23), args := #[.tmp u, .tmp v], argTypes := #[22, 5] }, type := ty, pos := pos, after := af, guard := none })
    (hu : a.eval (.tmp u) = sl16 g) (hv' : a.eval (.tmp v) = .int .u8 (x.toNat : Int)) (hr : Rb w B (some ⟨g, 0, none⟩) 16 hexs.data.toList)
    (h : Kt (a.put (some t) (.int .i64 (hv x))) w) : wpOp Try.prog ops Q i Kt a w := by
  refine wpOp_of_wp ho rfl ?_
  go_simp
  rw [show a.tmps[u]?.getD undef = sl16 g from by simpa [Act.eval] using hu, show a.tmps[v]?.getD undef = .int .u8 (x.toNat : Int) from by simpa [Act.eval] using hv']
  refine (indexbyte_any 16 x hr).mono ?_
  rintro e w' ⟨rfl, rfl⟩
  exact h
end
theorem sl16_eq (g : Nat) : sl16 g = .slice (some ⟨g, 0, none⟩) 16 16 := rfl
def L16 (c d : Nat) : Array Bool := #[decide (1 ≤ c), decide (2 ≤ c), true, true, true, true, decide (3 ≤ c), decide (1 ≤ d), decide (2 ≤ d), true, true, true, true, true, decide (3 ≤ d), false, false]
def put1 (g : Nat) (va : Int) : Nat → Act → Act
  | 0, a => a
  | 1, a => a.put (some 15) (sl16 g)
  | 2, a => (a.put (some 15) (sl16 g)).put (some 16) (sl16 g)
  | _, a => ((a.put (some 15) (sl16 g)).put (some 16) (sl16 g)).put (some 21) (.int .i64 va)
def put2 (g : Nat) (vb : Int) : Nat → Act → Act
  | 0, a => a
  | 1, a => a.put (some 22) (sl16 g)
  | 2, a => (a.put (some 22) (sl16 g)).put (some 23) (sl16 g)
  | _, a => ((a.put (some 22) (sl16 g)).put (some 23) (sl16 g)).put (some 29) (.int .i64 vb)
theorem put_swap (a : Act) {x y : Nat} (v u : Value) (h : x ≠ y) : (a.put (some x) v).put (some y) u = (a.put (some y) u).put (some x) v :=
  Act.put_comm a v u (fun d hd e => h (by injection hd with hd; injection e with e; omega))
theorem put2_swap (g : Nat) (vb : Int) (d : Nat) (a : Act) {t : Nat} (v : Value) (h : t ≠ 22 ∧ t ≠ 23 ∧ t ≠ 29) : (put2 g vb d a).put (some t) v = put2 g vb d (a.put (some t) v) := by
  obtain ⟨h1, h2, h3⟩ := h
  match d with
  | 0 => rfl
  | 1 => exact put_swap _ _ _ (Ne.symm h1)
  | 2 => simp only [put2]; rw [put_swap _ _ _ (Ne.symm h2), put_swap a _ _ (Ne.symm h1)]
  | d + 3 => simp only [put2]; rw [put_swap _ _ _ (Ne.symm h3), put_swap _ _ _ (Ne.symm h2), put_swap a _ _ (Ne.symm h1)]
theorem put_size (a : Act) (t : Option Tmp) (v : Value) : (a.put t v).tmps.size = a.tmps.size := by cases t <;> simp [Act.put]
theorem put1_size (g : Nat) (va : Int) (c : Nat) (a : Act) : (put1 g va c a).tmps.size = a.tmps.size := by
  match c with
  | 0 => rfl
  | 1 => exact put_size _ _ _
  | 2 => simp only [put1, put_size]
  | c + 3 => simp only [put1, put_size]
theorem eval_same (a : Act) {t : Nat} (v : Value) (h : t < a.tmps.size) : (a.put (some t) v).eval (.tmp t) = v := by simp [Act.put, Act.eval, h]
theorem eval_ne (a : Act) {t u : Nat} (v : Value) (h : t ≠ u) : (a.put (some t) v).eval (.tmp u) = a.eval (.tmp u) := by
  simp [Act.put, Act.eval, h]
theorem eval_put2 (g : Nat) (vb : Int) (d : Nat) (a : Act) {t : Nat} (h : t ≠ 22 ∧ t ≠ 23 ∧ t ≠ 29) : (put2 g vb d a).eval (.tmp t) = a.eval (.tmp t) := by
  obtain ⟨h1, h2, h3⟩ := h
  match d with
  | 0 => rfl
  | 1 => exact eval_ne _ _ (Ne.symm h1)
  | 2 => simp only [put2]; rw [eval_ne _ _ (Ne.symm h2), eval_ne _ _ (Ne.symm h1)]
  | d + 3 => simp only [put2]; rw [eval_ne _ _ (Ne.symm h3), eval_ne _ _ (Ne.symm h2), eval_ne _ _ (Ne.symm h1)]
theorem eval_put1 (g : Nat) (va : Int) (c : Nat) (a : Act) {t : Nat} (h : t ≠ 15 ∧ t ≠ 16 ∧ t ≠ 21) : (put1 g va c a).eval (.tmp t) = a.eval (.tmp t) := by
  obtain ⟨h1, h2, h3⟩ := h
  match c with
  | 0 => rfl
  | 1 => exact eval_ne _ _ (Ne.symm h1)
  | 2 => simp only [put1]; rw [eval_ne _ _ (Ne.symm h2), eval_ne _ _ (Ne.symm h1)]
  | c + 3 => simp only [put1]; rw [eval_ne _ _ (Ne.symm h3), eval_ne _ _ (Ne.symm h2), eval_ne _ _ (Ne.symm h1)]
def is16 (c : Nat) : Nat := if c = 0 then 0 else if c = 1 then 1 else 6
def js16 (d : Nat) : Nat := if d = 0 then 7 else if d = 1 then 8 else 14
/-- The region's operations that make memory or search. -/
structure Ops16 (ops : Array Oper) : Prop where
  o0 : ∃ ty pos af, ops[0]? = some { dst := some 15, op := .buildSlice 22 16 B16, type := ty, pos := pos, after := af, guard := none }
  o1 : ∃ ty pos af, ops[1]? = some { dst := some 16, op := .convert 22 22 (.tmp 15), type := ty, pos := pos, after := af, guard := none }
  o6 : ∃ ty pos af, ops[6]? = some { dst := some 21, op := .call { callee := .value (.func 23), args := #[.tmp 16, .tmp 20], argTypes := #[22, 5] }, type := ty, pos := pos, after := af, guard := none }
  o7 : ∃ ty pos af, ops[7]? = some { dst := some 22, op := .buildSlice 22 16 B16, type := ty, pos := pos, after := af, guard := none }
  o8 : ∃ ty pos af, ops[8]? = some { dst := some 23, op := .convert 22 22 (.tmp 22), type := ty, pos := pos, after := af, guard := none }
  o14 : ∃ ty pos af, ops[14]? = some { dst := some 29, op := .call { callee := .value (.func 23), args := #[.tmp 23, .tmp 28], argTypes := #[22, 5] }, type := ty, pos := pos, after := af, guard := none }
/-- How far the row g has come: not there, made, marked. -/
def At16 (w : World) (B c g : Nat) : Prop := (c = 1 → w.heap[g]? = some U16) ∧ (2 ≤ c → w.heap[g]? = some M16) ∧ (1 ≤ c → B ≤ g)
structure In16 (wr : World) (a0 : Act) (va vb : Int) (c d : Nat) (a : Act) (w : World) : Prop where
  ex : ∃ g1 g2, a = put2 g2 vb d (put1 g1 va c a0) ∧ At16 w wr.heap.size c g1 ∧ At16 w wr.heap.size d g2 ∧ (1 ≤ c → 1 ≤ d → g1 ≠ g2)
  below : Below wr.heap.size wr w
theorem at16_lt {w : World} {B c g : Nat} (h : At16 w B c g) (hc : 1 ≤ c) : g < w.heap.size := by
  rcases Nat.lt_or_ge 1 c with h1 | h1
  · exact lt_of_block (h.2.1 (by omega))
  · exact lt_of_block (h.1 (by omega))
theorem at16_alloc {w : World} {B c g : Nat} (h : At16 w B c g) (o : Obj) : At16 (w.alloc o) B c g := by
  refine ⟨fun h1 => ?_, fun h1 => ?_, h.2.2⟩
  · rw [Below.heap_alloc _ _ _ (lt_of_block (h.1 h1))]; exact h.1 h1
  · rw [Below.heap_alloc _ _ _ (lt_of_block (h.2.1 h1))]; exact h.2.1 h1
theorem at16_mark {w : World} {B c g k : Nat} (h : At16 w B c g) (hne : 1 ≤ c → g ≠ k) : At16 { w with heap := w.heap.modify k fun _ => M16 } B c g := by
  refine ⟨fun h1 => ?_, fun h1 => ?_, h.2.2⟩
  · show (w.heap.modify k _)[g]? = _
    rw [Array.getElem?_modify, if_neg (Ne.symm (hne (by omega)))]; exact h.1 h1
  · show (w.heap.modify k _)[g]? = _
    rw [Array.getElem?_modify, if_neg (Ne.symm (hne (by omega)))]; exact h.2.1 h1
theorem below_mark {B k : Nat} {w0 w : World} (hb : Below B w0 w) (hk : B ≤ k) : Below B w0 { w with heap := w.heap.modify k fun _ => M16 } :=
  hb.trans ⟨rfl, rfl, rfl, by simp, fun i hi => by show (w.heap.modify k _)[i]? = _; rw [Array.getElem?_modify, if_neg (by omega)]⟩
theorem heap_mark {w : World} {g : Nat} (h : w.heap[g]? = some U16) : ({ w with heap := w.heap.modify g fun _ => M16 } : World).heap[g]? = some M16 := by
  show (w.heap.modify g _)[g]? = _
  rw [Array.getElem?_modify, if_pos rfl, h]; rfl
theorem rb_mark {w : World} {g : Nat} (h : w.heap[g]? = some M16) : Rb w w.heap.size (some ⟨g, 0, none⟩) 16 hexs.data.toList := by
  refine ⟨rfl, fun j u hu => ⟨g, 0, rfl, lt_of_block h, ?_⟩⟩
  have e : C16 = (u8s hexs.data.toList).toArray := rfl
  rw [cell_of_row _ _ _ _ _ _ h, Nat.zero_add, e, List.getElem?_toArray]
  exact hu
theorem step1 {ops : Array Oper} {Q : Exit → Act → World → Prop} {wr : World} {a0 : Act} {x y : UInt8} (ho : Ops16 ops) (hsz : a0.tmps.size = 46) (hx : a0.eval (.tmp 20) = .int .u8 (x.toNat : Int)) :
    ∀ c d a w, c < 3 → d ≤ 3 → In16 wr a0 (hv x) (hv y) c d a w → wpOp Try.prog ops Q (is16 c) (In16 wr a0 (hv x) (hv y) (c + 1) d) a w := by
  intro c d a w hc hd hI
  obtain ⟨⟨g1, g2, rfl, h1, h2, hne⟩, hb⟩ := hI
  match c, hc with
  | 0, _ =>
    obtain ⟨_, _, _, ho'⟩ := ho.o0
    refine wpOp_build ho' ⟨⟨w.heap.size, g2, ?_, ⟨fun _ => heap_alloc_new w _, fun h => by omega, fun _ => hb.size⟩, at16_alloc h2 _, fun _ hd1 => ?_⟩, hb.alloc hb.size _⟩
    · rw [put2_swap _ _ _ _ _ ⟨by decide, by decide, by decide⟩]; rfl
    · have := at16_lt h2 hd1; omega
  | 1, _ =>
    obtain ⟨_, _, _, ho'⟩ := ho.o1
    refine wpOp_mark ho' (g := g1) ?_ (h1.1 rfl) ⟨⟨g1, g2, ?_, ⟨fun h => by omega, fun _ => heap_mark (h1.1 rfl), fun _ => h1.2.2 (by omega)⟩, at16_mark h2 (fun hd1 => Ne.symm (hne (by omega) hd1)), fun _ => hne (by omega)⟩, below_mark hb (h1.2.2 (by omega))⟩
    · rw [eval_put2 _ _ _ _ ⟨by decide, by decide, by decide⟩]; exact eval_same _ _ (by rw [hsz]; decide)
    · rw [put2_swap _ _ _ _ _ ⟨by decide, by decide, by decide⟩]; rfl
  | 2, _ =>
    obtain ⟨_, _, _, ho'⟩ := ho.o6
    refine wpOp_find (x := x) ho' (g := g1) ?_ ?_ (rb_mark (h1.2.1 (by omega))) ⟨⟨g1, g2, ?_, ⟨fun h => by omega, fun _ => h1.2.1 (by omega), fun _ => h1.2.2 (by omega)⟩, h2, fun _ => hne (by omega)⟩, hb⟩
    · rw [eval_put2 _ _ _ _ ⟨by decide, by decide, by decide⟩]; exact eval_same _ _ (by rw [put_size, hsz]; decide)
    · rw [eval_put2 _ _ _ _ ⟨by decide, by decide, by decide⟩, eval_put1 _ _ _ _ ⟨by decide, by decide, by decide⟩]; exact hx
    · rw [put2_swap _ _ _ _ _ ⟨by decide, by decide, by decide⟩]; rfl
theorem step2 {ops : Array Oper} {Q : Exit → Act → World → Prop} {wr : World} {a0 : Act} {x y : UInt8} (ho : Ops16 ops) (hsz : a0.tmps.size = 46) (hy : a0.eval (.tmp 28) = .int .u8 (y.toNat : Int)) :
    ∀ c d a w, c ≤ 3 → d < 3 → In16 wr a0 (hv x) (hv y) c d a w → wpOp Try.prog ops Q (js16 d) (In16 wr a0 (hv x) (hv y) c (d + 1)) a w := by
  intro c d a w hc hd hI
  obtain ⟨⟨g1, g2, rfl, h1, h2, hne⟩, hb⟩ := hI
  match d, hd with
  | 0, _ =>
    obtain ⟨_, _, _, ho'⟩ := ho.o7
    refine wpOp_build ho' ⟨⟨g1, w.heap.size, rfl, at16_alloc h1 _, ⟨fun _ => heap_alloc_new w _, fun h => by omega, fun _ => hb.size⟩, fun hc1 _ => ?_⟩, hb.alloc hb.size _⟩
    have := at16_lt h1 hc1; omega
  | 1, _ =>
    obtain ⟨_, _, _, ho'⟩ := ho.o8
    refine wpOp_mark ho' (g := g2) ?_ (h2.1 rfl) ⟨⟨g1, g2, rfl, at16_mark h1 (fun hc1 => hne hc1 (by omega)), ⟨fun h => by omega, fun _ => heap_mark (h2.1 rfl), fun _ => h2.2.2 (by omega)⟩, fun hc1 _ => hne hc1 (by omega)⟩, below_mark hb (h2.2.2 (by omega))⟩
    exact eval_same _ _ (by rw [put1_size, hsz]; decide)
  | 2, _ =>
    obtain ⟨_, _, _, ho'⟩ := ho.o14
    refine wpOp_find (x := y) ho' (g := g2) ?_ ?_ (rb_mark (h2.2.1 (by omega))) ⟨⟨g1, g2, rfl, h1, ⟨fun h => by omega, fun _ => h2.2.1 (by omega), fun _ => h2.2.2 (by omega)⟩, fun hc1 _ => hne hc1 (by omega)⟩, hb⟩
    · exact eval_same _ _ (by rw [put_size, put1_size, hsz]; decide)
    · rw [eval_put2 _ _ _ _ ⟨by decide, by decide, by decide⟩, eval_put1 _ _ _ _ ⟨by decide, by decide, by decide⟩]; exact hy
/-- What a parse hands back. -/
def Told (o : Option (List UInt8)) : Value := .tuple #[.agg (u8s (o.getD (List.replicate 32 0))).toArray, .int .i64 (if o.isSome then 0 else 2)]
theorem told_none : Told none = .tuple #[.agg z32, .int .i64 2] := rfl
theorem told_some (k : List UInt8) : Told (some k) = .tuple #[.agg (u8s k).toArray, .int .i64 0] := rfl
theorem results_row_tmp {P : Program} {fn : Func} {p u : Tmp} {ty : TypeId} (h : fn.results = #[.cell p ty, .tmp u]) (tmps : Array Value) (w : World) (g : Nat) (t : TypeId) (cs : Array Value) (fr : Nat × Nat) (d : TypeDesc) (x : Value)
    (hp : tmps.getD p undef = .pointer (some ⟨g, 0, none⟩)) (hx : tmps.getD u undef = x) (hg : w.heap[g]? = some (.cells cs t fr))
    (hu : P.underlying ty = some d) (hd : (match d with | .struct _ | .array _ _ => true | _ => false) = true) (hi : (P.info? ty).map (·.size) = some cs.size) :
    (results fn tmps).run P w = .ok (.tuple #[.agg cs, x]) w := by
  rw [results_cell_tmp h, hp, hx]
  have h1 := run_loadVar_row (P := P) w g t ty cs fr d hg hu hd hi
  simp only [asAddr, Sem.run_pure, Result.andThen_ok, h1]
theorem z32_one : z32.all (·.oneCell') = true := by
  rw [Array.all_eq_true_iff_forall_mem]
  intro u hu
  exact u8s_one _ u (by simpa [z32] using hu)
def kfill (k : List UInt8) (j : Nat) : List UInt8 := k ++ List.replicate (32 - j) 0
theorem kfill_set {k : List UInt8} {j : Nat} (x : UInt8) (hk : k.length = j) (hj : j < 32) : (kfill k j).set j x = kfill (k ++ [x]) (j + 1) := by
  subst hk
  unfold kfill
  rw [List.set_append_right _ _ (Nat.le_refl _), Nat.sub_self, show 32 - k.length = (32 - (k.length + 1)) + 1 from by omega, List.replicate_succ, List.set_cons_zero, List.append_assoc]
  rfl
theorem run_index_at (w : World) (l : List UInt8) (n : Nat) (hn : n < l.length) (i : Int) (hi : i = (n : Int)) : (Instr.index 9 (.string ⟨l.toArray⟩) (.int .i64 i)).run Try.prog w = .ok (.int .u8 ((l.getD n 0).toNat : Int)) w := by
  subst hi
  rw [run_index_string w _ _ _ _ Try.underlying9]
  have hsz : (⟨l.toArray⟩ : ByteArray).size = l.length := rfl
  rw [dif_pos ⟨by omega, by rw [hsz]; omega⟩]
  congr 3
  rw [List.getD_eq_getElem?_getD, List.getElem?_eq_getElem hn]
  rfl
set_option maxRecDepth 100000 in
set_option maxHeartbeats 1600000 in
theorem parse_any (w : World) (s : ByteArray) (l : List UInt8) (hs : s = ⟨l.toArray⟩) (hl : l.length ≤ 1000000) :
    Calls Try.prog 15 #[.string s] w fun e w' => e = .returned (Told (parse l)) ∧ Below w.heap.size w w' := by
  have hz : ∀ w : World, (zeroValue 25).run Try.prog w = .ok (.agg z32) w := fun w => by kernel_rfl
  have hss : s.size = l.length := by rw [hs]; rfl
  by_cases h64 : l.length = 64
  · have t1 : ((s.size : Int) != 64) = false := by rw [hss]; simp [h64]
    go_enter Try.func15, Try.ntmps15
    have h0 : ((w.alloc (.cells z32 25)).alloc (.cells z32 25)).heap[w.heap.size]? = some (.cells z32 25 (0, 0)) := by rw [Below.heap_alloc _ _ _ (by simp)]; exact heap_alloc_new w _
    have h1 : ((w.alloc (.cells z32 25)).alloc (.cells z32 25)).heap[w.heap.size + 1]? = some (.cells z32 25 (0, 0)) := by
      have := heap_alloc_new (w.alloc (.cells z32 25)) (.cells z32 25)
      simpa using this
    have hb0 : Below w.heap.size w ((w.alloc (.cells z32 25)).alloc (.cells z32 25)) := ((Below.refl _ _).alloc (Nat.le_refl _) _).alloc (by simp) _
    have H0 := hide (And.intro h0 (And.intro h1 (And.intro hb0 (And.intro hs (And.intro hl (And.intro hss h64))))))
    clear h0 h1 hb0 hs hl hss h64
    go_wp2_with fail
    go_loopw [12] (fun i wr => ∃ (j : Nat) (k : List UInt8), j ≤ 32 ∧ i = .int .i64 j ∧ pj l j = some k ∧ wr.heap[w.heap.size]? = some (.cells z32 25 (0, 0)) ∧ wr.heap[w.heap.size + 1]? = some (.cells (u8s (kfill k j)).toArray 25 (0, 0)) ∧ Below w.heap.size w wr) (fun i _ => 32 - (intOf i).toNat)
    case atStart => exact ⟨0, [], by omega, rfl, rfl, H0.out.1, H0.out.2.1, H0.out.2.2.1⟩
    case round =>
      obtain ⟨j, k, hj, rfl, hp, hr, hk, hb⟩ := hrel
      by_cases hlt : (j : Int) < 32
      · obtain ⟨x, hx⟩ : ∃ x, x = l.getD (2 * j) 0 := ⟨_, rfl⟩
        obtain ⟨y, hy⟩ : ∃ y, y = l.getD (2 * j + 1) 0 := ⟨_, rfl⟩
        have r1 : ∀ w, (Instr.index 9 (.string s) (.int .i64 (2 * (j : Int)))).run Try.prog w = .ok (.int .u8 (x.toNat : Int)) w := fun w => by
          rw [H0.out.2.2.2.1, hx]; exact run_index_at w l (2 * j) (by have := H0.out.2.2.2.2.2.2; omega) _ (by omega)
        have r2 : ∀ w, (Instr.index 9 (.string s) (.int .i64 (2 * (j : Int) + 1))).run Try.prog w = .ok (.int .u8 (y.toNat : Int)) w := fun w => by
          rw [H0.out.2.2.2.1, hy]; exact run_index_at w l (2 * j + 1) (by have := H0.out.2.2.2.2.2.2; omega) _ (by omega)
        have i1 : IntKind.i64.wrap (2 * (j : Int)) = 2 * (j : Int) := IntWalk.i64_in _ (by omega)
        have i2 : IntKind.i64.wrap (2 * (j : Int) + 1) = 2 * (j : Int) + 1 := IntWalk.i64_in _ (by omega)
        have i3 : (0 : Int) ≤ 2 * (j : Int) := by omega
        have i4 : (0 : Int) ≤ 2 * (j : Int) + 1 := by omega
        have HX := hide (And.intro hp (And.intro hr (And.intro hk (And.intro hb (And.intro hj (And.intro hx hy))))))
        clear hp hr hk hb hj hx hy
        go_wp2_with fail
        refine wp_region_any (by kernel_rfl) ?_
        change wpAny _ _ _ _ _ _ _ (World.drew _)
        refine wpAny_take (i := 2) (v := .string s) rfl (by kernel_rfl) (by kernel_rfl) (by kernel_rfl) (fun _ _ _ h => h) (Or.inl ⟨by rfl, ?_⟩) ?_
        · intro w; go_simp
        refine wpAny_take (i := 3) (v := .int .i64 (j : Int)) rfl (by kernel_rfl) (by kernel_rfl) (by kernel_rfl) (fun _ _ _ h => h) (Or.inl ⟨by rfl, ?_⟩) ?_
        · intro w; go_simp
        refine wpAny_take (i := 4) (v := .int .i64 (2 * (j : Int))) rfl (by kernel_rfl) (by kernel_rfl) (by kernel_rfl) (fun _ _ _ h => h) (Or.inl ⟨by rfl, ?_⟩) ?_
        · intro w; go_simp
        refine wpAny_take (i := 5) (v := .int .u8 (x.toNat : Int)) rfl (by kernel_rfl) (by kernel_rfl) (by kernel_rfl) (fun _ _ _ h => h) (Or.inl ⟨by rfl, ?_⟩) ?_
        · intro w; go_simp
        refine wpAny_take (i := 9) (v := .string s) rfl (by kernel_rfl) (by kernel_rfl) (by kernel_rfl) (fun _ _ _ h => h) (Or.inl ⟨by rfl, ?_⟩) ?_
        · intro w; go_simp
        refine wpAny_take (i := 10) (v := .int .i64 (j : Int)) rfl (by kernel_rfl) (by kernel_rfl) (by kernel_rfl) (fun _ _ _ h => h) (Or.inl ⟨by rfl, ?_⟩) ?_
        · intro w; go_simp
        refine wpAny_take (i := 11) (v := .int .i64 (2 * (j : Int))) rfl (by kernel_rfl) (by kernel_rfl) (by kernel_rfl) (fun _ _ _ h => h) (Or.inl ⟨by rfl, ?_⟩) ?_
        · intro w; go_simp
        refine wpAny_take (i := 12) (v := .int .i64 (2 * (j : Int) + 1)) rfl (by kernel_rfl) (by kernel_rfl) (by kernel_rfl) (fun _ _ _ h => h) (Or.inl ⟨by rfl, ?_⟩) ?_
        · intro w; go_simp
        refine wpAny_take (i := 13) (v := .int .u8 (y.toNat : Int)) rfl (by kernel_rfl) (by kernel_rfl) (by kernel_rfl) (fun _ _ _ h => h) (Or.inl ⟨by rfl, ?_⟩) ?_
        · intro w; go_simp
        refine wpAny_to (L := L16 0 0) (f := 6 + 2) (by kernel_rfl) (by kernel_rfl) ?_
        refine wpAny_two L16 (In16 wr.drew _ (hv x) (hv y)) is16 js16 3 3 2 ?chk ?s1 ?s2 ?e 6 0 0 rfl (by omega) (by omega) _ _ ⟨⟨0, 0, rfl, ⟨fun h => by omega, fun h => by omega, fun h => by omega⟩, ⟨fun h => by omega, fun h => by omega, fun h => by omega⟩, fun h => by omega⟩, Below.refl _ _⟩
        case chk => kernel_rfl
        case s1 => exact step1 ⟨⟨_, _, _, rfl⟩, ⟨_, _, _, rfl⟩, ⟨_, _, _, rfl⟩, ⟨_, _, _, rfl⟩, ⟨_, _, _, rfl⟩, ⟨_, _, _, rfl⟩⟩ (by kernel_rfl) (by kernel_rfl)
        case s2 => exact step2 ⟨⟨_, _, _, rfl⟩, ⟨_, _, _, rfl⟩, ⟨_, _, _, rfl⟩, ⟨_, _, _, rfl⟩, ⟨_, _, _, rfl⟩, ⟨_, _, _, rfl⟩⟩ (by kernel_rfl) (by kernel_rfl)
        rintro a w4 ⟨⟨g1, g2, rfl, h1, h2, hne⟩, hb4⟩
        have HB4 := hide hb4
        clear h1 h2 hne hb4
        obtain ⟨va, hva⟩ : ∃ va, va = hv x := ⟨_, rfl⟩
        obtain ⟨vb, hvb⟩ : ∃ vb, vb = hv y := ⟨_, rfl⟩
        rw [← hva, ← hvb]
        have HV := hide (And.intro hva hvb)
        clear hva hvb
        refine wpAny_take (i := 15) (v := .int .i64 va) rfl (by kernel_rfl) (by kernel_rfl) (by kernel_rfl) (fun _ _ _ h => h) (Or.inl ⟨by rfl, ?_⟩) ?_
        · intro w; go_simp; rfl
        refine wpAny_take (i := 16) (v := .int .i64 vb) rfl (by kernel_rfl) (by kernel_rfl) (by kernel_rfl) (fun _ _ _ h => h) (Or.inl ⟨by rfl, ?_⟩) ?_
        · intro w; go_simp; rfl
        refine wpAny_done (by kernel_rfl) ?_ _
        have hw4 : w4.heap[w.heap.size]? = some (.cells z32 25 (0, 0)) ∧ w4.heap[w.heap.size + 1]? = some (.cells (u8s (kfill k j)).toArray 25 (0, 0)) ∧ Below w.heap.size w w4 :=
          ⟨by rw [HB4.out.block _ (lt_of_block HX.out.2.1)]; exact HX.out.2.1, by rw [HB4.out.block _ (lt_of_block HX.out.2.2.1)]; exact HX.out.2.2.1, (HX.out.2.2.2.1.drew).trans (HB4.out.mono (HX.out.2.2.2.1.size))⟩
        have HW := hide hw4
        clear hw4
        simp only [put1, put2]
        rcases hv_cases x with ⟨ex, -⟩ | ⟨m, hm, ex, -⟩
        · have n1 : va < 0 := by rw [HV.out.1, ex]; decide
          have hpn : parse l = none := by
            unfold parse
            rw [if_pos H0.out.2.2.2.2.2.2]
            refine pj_none (j := j + 1) ?_ (by omega)
            rw [pj, ← HX.out.2.2.2.2.2.1, if_neg (by rw [ex]; omega)]
          have HPN := hide hpn
          clear hpn ex
          go_wp2_with (first
            | ((with_reducible show wpList _ _ _ ({ dst := _, op := .build 25 _, type := _, pos := _, after := _, guard := _ } :: _) _ _); refine wpList_buildTo rfl 25 _ rfl (some 36) rfl z32 (by kernel_rfl) ?_)
            | ((with_reducible show wpList _ _ _ ({ dst := _, op := .store 25 _ _, type := _, pos := _, after := _, guard := _ } :: _) _ _); refine wpList_store_row rfl 25 _ _ rfl w.heap.size z32 rfl rfl _ _ HW.out.1 (by kernel_rfl) rfl z32_one ?_))
          exact bodyPost_ret (v := .tuple #[.agg z32, .int .i64 2]) (results_row_tmp Try.results15 _ _ w.heap.size 25 z32 (0, 0) (.array 32 5) _ rfl rfl (setRow_heap _ _ _ _ _ _ HW.out.1) Try.underlying25 rfl (by kernel_rfl)) rfl ⟨by rw [HPN.out, told_none], below_setRow HW.out.2.2 (Nat.le_refl _) _⟩
        · have n1 : ¬ va < 0 := by rw [HV.out.1, ex]; omega
          rcases hv_cases y with ⟨ey, -⟩ | ⟨n, hn, ey, -⟩
          · have n2 : vb < 0 := by rw [HV.out.2, ey]; decide
            have hpn : parse l = none := by
              unfold parse
              rw [if_pos H0.out.2.2.2.2.2.2]
              refine pj_none (j := j + 1) ?_ (by omega)
              rw [pj, ← HX.out.2.2.2.2.2.2, if_neg (by rw [ey]; omega)]
            have HPN := hide hpn
            clear hpn ex ey
            go_wp2_with (first
              | ((with_reducible show wpList _ _ _ ({ dst := _, op := .build 25 _, type := _, pos := _, after := _, guard := _ } :: _) _ _); refine wpList_buildTo rfl 25 _ rfl (some 36) rfl z32 (by kernel_rfl) ?_)
              | ((with_reducible show wpList _ _ _ ({ dst := _, op := .store 25 _ _, type := _, pos := _, after := _, guard := _ } :: _) _ _); refine wpList_store_row rfl 25 _ _ rfl w.heap.size z32 rfl rfl _ _ HW.out.1 (by kernel_rfl) rfl z32_one ?_))
            exact bodyPost_ret (v := .tuple #[.agg z32, .int .i64 2]) (results_row_tmp Try.results15 _ _ w.heap.size 25 z32 (0, 0) (.array 32 5) _ rfl rfl (setRow_heap _ _ _ _ _ _ HW.out.1) Try.underlying25 rfl (by kernel_rfl)) rfl ⟨by rw [HPN.out, told_none], below_setRow HW.out.2.2 (Nat.le_refl _) _⟩
          · obtain rfl : va = (m : Int) := by rw [HV.out.1, ex]
            obtain rfl : vb = (n : Int) := by rw [HV.out.2, ey]
            have n2 : ¬ ((n : Int) < 0) := by omega
            have n3 : ¬ ((m : Int) < 0) := by omega
            have hpj : pj l (j + 1) = some (k ++ [UInt8.ofNat (16 * m + n)]) := by
              rw [pj, ← HX.out.2.2.2.2.2.1, ← HX.out.2.2.2.2.2.2, ex, ey, if_pos ⟨by omega, by omega⟩, HX.out.1]; rfl
            have tab : ∀ a b : Fin 16, bits .or .i64 ((a.1 : Int) * 16) (b.1 : Int) = ((16 * a.1 + b.1 : Nat) : Int) := by decide +kernel
            have q0 := tab ⟨m, hm⟩ ⟨n, hn⟩
            have q2 : IntKind.i64.wrap ((m : Int) * 16) = (m : Int) * 16 := IntWalk.i64_in _ (by omega)
            obtain ⟨z, hz'⟩ : ∃ z, z = 16 * m + n := ⟨_, rfl⟩
            obtain ⟨zb, hzb⟩ : ∃ zb, zb = UInt8.ofNat z := ⟨_, rfl⟩
            have q3 : IntKind.u8.wrap (z : Int) = (zb.toNat : Int) := by rw [hzb, IntKind.wrap_u8, UInt8.toNat_ofNat']; omega
            have q4 : (z : Int) % 256 = (zb.toNat : Int) := by rw [hzb, UInt8.toNat_ofNat']; omega
            have q1 : bits .or .i64 ((m : Int) * 16) (n : Int) = (z : Int) := by rw [hz']; exact q0
            rw [← hz', ← hzb] at hpj
            have ck : w4.cell? ⟨w.heap.size + 1, j, none⟩ = some (.int .u8 (((kfill k j).getD j 0).toNat : Int)) := by
              rw [cell_of_row _ _ _ _ _ _ HW.out.2.1, List.getElem?_toArray]
              have hlk : j < (kfill k j).length := by unfold kfill; rw [List.length_append, pj_length HX.out.1, List.length_replicate]; omega
              rw [List.getD_eq_getElem?_getD, List.getElem?_eq_getElem hlk]
              unfold u8s
              rw [List.getElem?_map, List.getElem?_eq_getElem hlk]; rfl
            have fk : w4.frozen? ⟨w.heap.size + 1, j, none⟩ = false := frozen_of_row _ _ _ _ _ HW.out.2.1
            have HPJ := hide hpj
            clear q0
            clear hpj ex ey hz' tab hm hn hzb
            go_wp2_with fail
            go_roundw
            case rel =>
              refine ⟨j + 1, k ++ [zb], by omega, by go_num, HPJ.out, ?_, ?_, HW.out.2.2.setCell (by show w.heap.size ≤ w.heap.size + 1; omega) _⟩
              · rw [heap_setCell_other _ _ _ _ (by show w.heap.size ≠ w.heap.size + 1; omega)]; exact HW.out.1
              · rw [heap_setCell_same _ _ _ _ _ _ HW.out.2.1, List.setIfInBounds_toArray]
                congr 3
                rw [← kfill_set _ (pj_length HX.out.1) (by omega)]
                unfold u8s
                rw [List.map_set]
            case measure => simp [intOf]; omega
      · have ej : j = 32 := by omega
        subst ej
        have hlk := pj_length hp
        have hpn : parse l = some k := by
          unfold parse
          rw [if_pos H0.out.2.2.2.2.2.2]; exact hp
        have hkf : kfill k 32 = k := by unfold kfill; simp
        rw [hkf] at hk
        obtain ⟨cs, hcs⟩ : ∃ cs, cs = (u8s k).toArray := ⟨_, rfl⟩
        have hcc := key_cells hlk
        rw [← hcs] at hk hcc
        have HW := hide (And.intro hk (And.intro hr (And.intro hb (And.intro hcc (And.intro hpn hcs)))))
        clear hk hr hb hcc hpn hcs hp hkf hlk hj
        go_wp2_with (first
          | ((with_reducible show wpList _ _ _ ({ dst := _, op := .load 25 _, type := _, pos := _, after := _, guard := _ } :: _) _ _); refine wpList_load_row rfl 25 _ rfl _ rfl _ cs (0, 0) (.array 32 5) HW.out.1 Try.underlying25 rfl (by rw [HW.out.2.2.2.1.1]; kernel_rfl) ?_)
          | ((with_reducible show wpList _ _ _ ({ dst := _, op := .store 25 _ _, type := _, pos := _, after := _, guard := _ } :: _) _ _); refine wpList_store_row rfl 25 _ _ rfl w.heap.size cs rfl rfl _ _ HW.out.2.1 (by rw [HW.out.2.2.2.1.1]; kernel_rfl) (by rw [HW.out.2.2.2.1.1]; rfl) HW.out.2.2.2.1.2 ?_))
        exact bodyPost_ret (v := .tuple #[.agg cs, .int .i64 0]) (results_row_tmp Try.results15 _ _ w.heap.size 25 cs (0, 0) (.array 32 5) _ rfl rfl (setRow_heap _ _ _ _ _ _ HW.out.2.1) Try.underlying25 rfl (by rw [HW.out.2.2.2.1.1]; kernel_rfl)) rfl ⟨by rw [HW.out.2.2.2.2.1, told_some, HW.out.2.2.2.2.2], below_setRow HW.out.2.2.1 (Nat.le_refl _) _⟩
  · have t1 : ((s.size : Int) != 64) = true := by rw [hss]; simp; omega
    have hpn : parse l = none := by unfold parse; rw [if_neg h64]
    have h0 : ((w.alloc (.cells z32 25)).alloc (.cells z32 25)).heap[w.heap.size]? = some (.cells z32 25 (0, 0)) := by rw [Below.heap_alloc _ _ _ (by simp)]; exact heap_alloc_new w _
    have h1 : ((w.alloc (.cells z32 25)).alloc (.cells z32 25)).heap[w.heap.size + 1]? = some (.cells z32 25 (0, 0)) := by
      have := heap_alloc_new (w.alloc (.cells z32 25)) (.cells z32 25)
      simpa using this
    have hb0 : Below w.heap.size w ((w.alloc (.cells z32 25)).alloc (.cells z32 25)) := ((Below.refl _ _).alloc (Nat.le_refl _) _).alloc (by simp) _
    have HW := hide (And.intro h0 (And.intro h1 (And.intro hb0 hpn)))
    clear h0 h1 hb0 hs hl hss h64 hpn
    go_enter Try.func15, Try.ntmps15
    go_wp2_with (first
      | ((with_reducible show wpList _ _ _ ({ dst := _, op := .load 25 _, type := _, pos := _, after := _, guard := _ } :: _) _ _); refine wpList_load_row rfl 25 _ rfl _ rfl _ z32 (0, 0) (.array 32 5) HW.out.2.1 Try.underlying25 rfl (by kernel_rfl) ?_)
      | ((with_reducible show wpList _ _ _ ({ dst := _, op := .store 25 _ _, type := _, pos := _, after := _, guard := _ } :: _) _ _); refine wpList_store_row rfl 25 _ _ rfl w.heap.size z32 rfl rfl _ _ HW.out.1 (by kernel_rfl) rfl z32_one ?_))
    exact bodyPost_ret (v := .tuple #[.agg z32, .int .i64 2]) (results_row_tmp Try.results15 _ _ w.heap.size 25 z32 (0, 0) (.array 32 5) _ rfl rfl (setRow_heap _ _ _ _ _ _ HW.out.1) Try.underlying25 rfl (by kernel_rfl)) rfl ⟨by rw [HW.out.2.2.2, told_none], below_setRow HW.out.2.2.1 (Nat.le_refl _) _⟩
end Go.Proofs.Ytmeilpehlkpofaa
