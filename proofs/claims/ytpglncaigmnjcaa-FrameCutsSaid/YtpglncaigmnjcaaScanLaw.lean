/-
  The plain law of the front of bytes; frames in memory.
-/
import Derived.Test.YtpglncaigmnjcaaWriteWalk
namespace Go.Proofs.Ytpglncaigmnjcaa
open Go.RowKit

/-- the next frame of the front -/
def step (l : List UInt8) (a : Nat) : Option (Nat × Nat × List UInt8) :=
  if l.length < a + 9 then none
  else if 8192 < num (l.drop a) ∨ l.length < a + 9 + num (l.drop a) then none
  else if (dec ((l.drop a).take (9 + num (l.drop a)))).1 ≠ 0 then none
  else some (num (l.drop a), (dec ((l.drop a).take (9 + num (l.drop a)))).2.1, (dec ((l.drop a).take (9 + num (l.drop a)))).2.2)
theorem step_some {l : List UInt8} {a n k : Nat} {p : List UInt8} (h : step l a = some (n, k, p)) :
    n = num (l.drop a) ∧ n ≤ 8192 ∧ a + 9 + n ≤ l.length ∧ dec ((l.drop a).take (9 + n)) = (0, k, p) := by
  unfold step at h
  split at h
  · cases h
  · split at h
    · cases h
    · split at h
      · cases h
      · rename_i h1 h2 h3
        injection h with h
        injection h with hn h
        injection h with hk hp
        subst hn
        refine ⟨rfl, by omega, by omega, ?_⟩
        rw [← hk, ← hp, ← Classical.not_not.1 h3]
def scan (l : List UInt8) (a : Nat) : List (Nat × List UInt8) × Nat :=
  match _h : step l a with
  | none => ([], a)
  | some (n, k, p) => ((k, p) :: (scan l (a + 9 + n)).1, (scan l (a + 9 + n)).2)
termination_by l.length + 1 - a
decreasing_by
  have := step_some _h
  omega
theorem scan_none {l : List UInt8} {a : Nat} (h : step l a = none) : scan l a = ([], a) := by
  rw [scan]
  split
  · rfl
  · rename_i h2; rw [h] at h2; cases h2
theorem scan_some {l : List UInt8} {a n k : Nat} {p : List UInt8} (h : step l a = some (n, k, p)) : scan l a = ((k, p) :: (scan l (a + 9 + n)).1, (scan l (a + 9 + n)).2) := by
  rw [scan]
  split
  · rename_i h2; rw [h] at h2; cases h2
  · rename_i h2
    rw [h] at h2
    injection h2 with h2
    injection h2 with h3 h2
    injection h2 with h4 h5
    subst h3; subst h4; subst h5
    rfl
/-- gathered so far: the rest is the front from here on -/
def Front (l : List UInt8) (a : Nat) (fs : List (Nat × List UInt8)) : Prop := scan l 0 = (fs ++ (scan l a).1, (scan l a).2) ∧ fs.length ≤ a
theorem Front.start (l : List UInt8) : Front l 0 [] := ⟨rfl, Nat.le_refl _⟩
theorem Front.next {l : List UInt8} {a n k : Nat} {p : List UInt8} {fs : List (Nat × List UInt8)} (h : Front l a fs) (hs : step l a = some (n, k, p)) : Front l (a + 9 + n) (fs ++ [(k, p)]) := by
  refine ⟨?_, by rw [List.length_append]; have := h.2; simp; omega⟩
  rw [h.1, scan_some hs]
  simp
theorem Front.stop {l : List UInt8} {a : Nat} {fs : List (Nat × List UInt8)} (h : Front l a fs) (hs : step l a = none) : scan l 0 = (fs, a) := by
  rw [h.1, scan_none hs]
  simp

/-- a frame's two cells -/
def FrCell (w : World) (B : Nat) (u0 u1 : Value) (f : Nat × List UInt8) : Prop :=
  u0 = .int .i64 (f.1 : Int) ∧ ∃ A c, u1 = .slice A f.2.length c ∧ w.ownsRow B 5 1 (.slice A f.2.length c) f.2.length (u8s f.2)
def FrCells (w : World) (B : Nat) : List Value → List (Nat × List UInt8) → Prop
  | [], [] => True
  | u0 :: u1 :: us, f :: fs => FrCell w B u0 u1 f ∧ FrCells w B us fs
  | _, _ => False
theorem FrCells.snoc {w : World} {B : Nat} {u0 u1 : Value} {f : Nat × List UInt8} (hc : FrCell w B u0 u1 f) : ∀ {us : List Value} {fs : List (Nat × List UInt8)}, FrCells w B us fs → FrCells w B (us ++ [u0, u1]) (fs ++ [f])
  | [], [], _ => ⟨hc, trivial⟩
  | _ :: _ :: _, _ :: _, h => ⟨h.1, FrCells.snoc hc h.2⟩
  | [], _ :: _, h => h.elim
  | [_], [], h => h.elim
  | [_], _ :: _, h => h.elim
  | _ :: _ :: _, [], h => h.elim
theorem FrCells.get {w : World} {B : Nat} {f : Nat × List UInt8} : ∀ {us : List Value} {fs : List (Nat × List UInt8)} {j : Nat}, FrCells w B us fs → fs[j]? = some f → ∃ u0 u1, us[2 * j]? = some u0 ∧ us[2 * j + 1]? = some u1 ∧ FrCell w B u0 u1 f
  | [], [], _, _, h => by simp at h
  | u0 :: u1 :: us, f' :: fs, 0, h, hj => by
    simp at hj
    subst hj
    exact ⟨u0, u1, rfl, rfl, h.1⟩
  | u0 :: u1 :: us, f' :: fs, j + 1, h, hj => by
    obtain ⟨v0, v1, h0, h1, hc⟩ := FrCells.get (j := j) h.2 (by simpa using hj)
    refine ⟨v0, v1, ?_, ?_, hc⟩
    · rw [show 2 * (j + 1) = 2 * j + 1 + 1 from by omega]; simpa using h0
    · rw [show 2 * (j + 1) + 1 = 2 * j + 1 + 1 + 1 from by omega]; simpa using h1
  | [], _ :: _, _, h, _ => h.elim
  | [_], [], _, h, _ => h.elim
  | [_], _ :: _, _, h, _ => h.elim
  | _ :: _ :: _, [], _, h, _ => h.elim
theorem FrCells.imp {w w' : World} {B : Nat} (hi : ∀ v n xs, w.ownsRow B 5 1 v n xs → w'.ownsRow B 5 1 v n xs) : ∀ {us : List Value} {fs : List (Nat × List UInt8)}, FrCells w B us fs → FrCells w' B us fs
  | [], [], _ => trivial
  | _ :: _ :: _, _ :: _, h => by
    obtain ⟨⟨h0, A, c, h1, h2⟩, hr⟩ := h
    exact ⟨⟨h0, A, c, h1, hi _ _ _ h2⟩, FrCells.imp hi hr⟩
  | [], _ :: _, h => h.elim
  | [_], [], h => h.elim
  | [_], _ :: _, h => h.elim
  | _ :: _ :: _, [], h => h.elim
theorem FrCells.len {w : World} {B : Nat} : ∀ {us : List Value} {fs : List (Nat × List UInt8)}, FrCells w B us fs → us.length = fs.length * 2
  | [], [], _ => rfl
  | _ :: _ :: _, _ :: _, h => by
    have := FrCells.len h.2
    simp only [List.length_cons]
    omega
  | [], _ :: _, h => h.elim
  | [_], [], h => h.elim
  | [_], _ :: _, h => h.elim
  | _ :: _ :: _, [], h => h.elim

/-- rows of other elements stay where a row is appended to -/
theorem owns_other {w w' : World} {base base' k k' n n' : Nat} {e e' : TypeId} {v v' : Value} {xs xs' : List Value} (h : w.ownsRow base e k v n xs) (h' : w.ownsRow base' e' k' v' n' xs') (hne : e ≠ e') (hg : w.grownBy w' v'.ownBlock) : w'.ownsRow base e k v n xs := by
  refine h.kept hg ?_
  rcases h.2 with ⟨rfl, _⟩ | ⟨g, cap, cur, rfl, _, hb, _⟩
  · exact .inl rfl
  · rcases h'.2 with ⟨rfl, _⟩ | ⟨g', cap', cur', rfl, _, hb', _⟩
    · exact .inr (by simp [Value.ownBlock])
    · refine .inr ?_
      intro e2
      have : g = g' := by simpa [Value.ownBlock] using e2
      subst this
      rw [hb] at hb'
      injection hb' with hb'
      injection hb' with _ ht
      exact hne ht

/-! append of one element of two cells -/
theorem wpList_append_g {P : Program} {ops : Array Oper} {rest : List Oper} {a : Act} {Q : Exit → Act → World → Prop} {w : World} {dst : Option Tmp} {ty : TypeId} {pos : String} {af : Array Edge} {s x : Operand} {base : Nat}
    {t e : TypeId} {i : TypeInfo} {z : Value} {k bytes : Nat} (ht : P.underlying t = some (.slice e)) (hi : P.info? e = some i) (hz : i.zero = some z)
    (hsize : i.size = k) (hby : i.bytes = bytes) (hzs : z.cells.size = k) (hk : 0 < k)
    {A C : Option Addr} {n c m d B : Nat} {xs news : List Value} (hs : a.eval s = .slice A n c) (hx : a.eval x = .slice C m d)
    (hown : w.ownsRow base e k (.slice A n c) n xs) (hr : Rd w B k C m news) (h1 : ∀ u ∈ news, u.oneCell' = true)
    (h63 : n + m ≤ maxLen) (hbytes : (n + m) * bytes ≤ 140737488355328) (hbase : base ≤ w.heap.size)
    (h : ∀ A' c' w', w'.ownsRow base e k (.slice A' (n + m) c') (n + m) (xs ++ news) → w.grownBy w' (Value.slice A n c).ownBlock → wpList P ops Q rest (a.put dst (.slice A' (n + m) c')) w') :
    wpList P ops Q ({ dst := dst, op := .call { callee := .builtin .append, args := #[s, x], argTypes := #[t, t] }, type := ty, pos := pos, after := af, guard := none } :: rest) a w :=
  wpList_plain rfl fun _ hK => by
    obtain ⟨A', c', w', hrun, h2, h3⟩ := run_append_rdg (P := P) (rt := ty) (d := d) ht hi hz hsize hby hzs hk hown hr h1 h63 hbytes hbase
    unfold Oper.wp execOp
    simp only [resolve, invoke, builtin, Sem.run_bind, Sem.run_pure, Result.andThen_ok, List.map_toArray, List.map_cons, List.map_nil, hs, hx]
    rw [hrun]
    exact hK _ _ (h A' c' w' h2 h3)
theorem Rd.two (w : World) (u0 u1 : Value) (T : TypeId) : Rd (w.alloc (.cells #[u0, u1] T)) (w.heap.size + 1) 2 (some ⟨w.heap.size, 0, none⟩) 1 [u0, u1] := by
  refine ⟨rfl, fun j u hu => ⟨w.heap.size, 0, rfl, by omega, ?_⟩⟩
  rw [World.cell?_alloc_at _ _ _ _ rfl, Nat.zero_add]
  simpa using hu
theorem Try.infoFr : (Try.prog.info? 40).map (fun i => (i.zero, i.size, i.bytes)) = some (some (.agg #[.int .i64 0, .slice none 0 0]), 2, 32) := by kernel_rfl
theorem Try.infoRf : (Try.prog.info? 45).map (fun i => (i.zero, i.size, i.bytes)) = some (some (.agg #[.int .i64 0, .string ⟨#[]⟩]), 2, 24) := by kernel_rfl
end Go.Proofs.Ytpglncaigmnjcaa
