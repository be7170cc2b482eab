/-
  A map's datum as a list of names and values in the rising order of the names (elements: held, as they are); the plain data of the types: values, inputs, fields, types; what 'types' answers, in plain Lean.
-/
import Derived.Maps.Ext
import Derived.Sort.KeysCollected
namespace Go.Proofs.Ytlpmnnkijdbopaa
open Go.Maps

abbrev Bs := List UInt8
abbrev Dir := List (Bs × Value)
def ent (p : Bs × Value) : Lit × DataW Value := (.string p.1, .held p.2)
def dirD (l : Dir) : DataW Value := .map (l.map ent)
def dins (x : Bs × Value) : Dir → Dir
  | [] => [x]
  | y :: r => if bytesBefore x.1 y.1 = true then x :: y :: r else y :: dins x r
def dput (l : Dir) (k : Bs) (v : Value) : Dir := dins (k, v) (l.filter fun p => !(p.1 == k))
def dget (l : Dir) (k : Bs) : Option Value := (l.find? fun p => p.1 == k).map (·.2)

theorem dins_cons (x y : Bs × Value) (r : Dir) : dins x (y :: r) = if bytesBefore x.1 y.1 = true then x :: y :: r else y :: dins x r := rfl
theorem ent_key (k : Bs) (p : Bs × Value) : (ent p).1.sameKey (.string k) = (p.1 == k) := rfl
theorem filter_ent (l : Dir) (k : Bs) : (l.map ent).filter (fun p => !p.1.sameKey (.string k)) = (l.filter fun p => !(p.1 == k)).map ent := by
  rw [List.filter_map]
  rfl
theorem insert_ent (x : Bs × Value) : ∀ l : Dir, DataW.insert (ent x) (l.map ent) = (dins x l).map ent
  | [] => rfl
  | y :: r => by
    show (if (ent x).1.before (ent y).1 = true then ent x :: ent y :: r.map ent else ent y :: DataW.insert (ent x) (r.map ent)) = _
    have e : (ent x).1.before (ent y).1 = bytesBefore x.1 y.1 := rfl
    rw [e, insert_ent x r, dins_cons]
    split <;> rfl
theorem dirD_put (l : Dir) (k : Bs) (v : Value) : (dirD l).put (.string k) (.held v) = dirD (dput l k v) := by
  show DataW.map (DataW.insert (ent (k, v)) ((l.map ent).filter fun p => !p.1.sameKey (.string k))) = _
  rw [filter_ent, insert_ent]
  rfl
theorem find_ent (l : Dir) (k : Bs) : (l.map ent).find? (fun p => p.1.sameKey (.string k)) = (l.find? fun p => p.1 == k).map ent := by
  rw [List.find?_map]
  rfl
theorem dirD_has (l : Dir) (k : Bs) : Maps.has (dirD l) (.string k) = (dget l k).isSome := by
  show (l.map ent).any (fun p => p.1.sameKey (.string k)) = _
  rw [List.any_map]
  unfold dget
  induction l with
  | nil => rfl
  | cons y r ih =>
    rw [List.any_cons, List.find?_cons]
    have e2 : ((fun p : Lit × DataW Value => p.1.sameKey (.string k)) ∘ ent) y = (y.1 == k) := rfl
    rw [e2]
    cases hy : (y.1 == k) with
    | true => rfl
    | false => simpa using ih
theorem dirD_at (l : Dir) (k : Bs) (z : Value) : (dirD l).atKey (.string k) (.held z) = .held ((dget l k).getD z) := by
  have e := find_ent l k
  unfold dirD DataW.atKey dget
  simp only [e]
  cases l.find? (fun p => p.1 == k) <;> rfl
theorem dirD_size (l : Dir) : Maps.size (dirD l) = l.length := by show (l.map ent).length = _; simp
theorem dins_length (x : Bs × Value) : ∀ l : Dir, (dins x l).length = l.length + 1
  | [] => rfl
  | y :: r => by rw [dins_cons]; split <;> simp [dins_length x r]
theorem dput_length (l : Dir) (k : Bs) (v : Value) : (dput l k v).length ≤ l.length + 1 := by
  unfold dput
  rw [dins_length]
  have := List.length_filter_le (fun p : Bs × Value => !(p.1 == k)) l
  omega
theorem dget_ins (x : Bs × Value) (k : Bs) : ∀ l : Dir, (∀ p ∈ l, (p.1 == x.1) = false) → dget (dins x l) k = if x.1 == k then some x.2 else dget l k
  | [], _ => by
    unfold dget dins
    rw [List.find?_cons]
    cases x.1 == k <;> rfl
  | y :: r, h => by
    have hy := h y (by simp)
    rw [dins_cons]
    split
    · unfold dget
      rw [List.find?_cons]
      cases x.1 == k <;> rfl
    · unfold dget
      rw [List.find?_cons, List.find?_cons]
      have ih := dget_ins x k r (fun p hp => h p (by simp [hp]))
      unfold dget at ih
      cases hk : (y.1 == k) with
      | true =>
        have e : y.1 = k := by simpa using hk
        have : (x.1 == k) = false := by
          rw [← e]
          have hne : y.1 ≠ x.1 := by simpa using hy
          simpa using fun e2 : x.1 = y.1 => hne e2.symm
        rw [this]
        rfl
      | false => exact ih
theorem dget_filter (l : Dir) (k k' : Bs) (hne : (k == k') = false) : dget (l.filter fun p => !(p.1 == k)) k' = dget l k' := by
  unfold dget
  induction l with
  | nil => rfl
  | cons y r ih =>
    rw [List.filter_cons]
    cases hy : (y.1 == k) with
    | true =>
      have e : y.1 = k := by simpa using hy
      simp only [Bool.not_true, Bool.false_eq_true, if_false]
      rw [List.find?_cons, e, hne]
      exact ih
    | false =>
      simp only [Bool.not_false, if_true]
      rw [List.find?_cons, List.find?_cons]
      cases y.1 == k' with
      | true => rfl
      | false => exact ih
theorem dget_put (l : Dir) (k : Bs) (v : Value) (k' : Bs) : dget (dput l k v) k' = if k == k' then some v else dget l k' := by
  unfold dput
  rw [dget_ins (k, v) k' _ (fun p hp => by have := (List.mem_filter.1 hp).2; simpa using this)]
  cases h : (k == k') with
  | true => rfl
  | false => simp only [Bool.false_eq_true, if_false]; exact dget_filter l k k' h

/-! ### values, inputs, fields, types -/
inductive V where
  | mk (kind : Int) (text : Bs) (items : List V) (fields : List (Bs × V × Int)) (pos : Int)
namespace V
def kind : V → Int | mk k _ _ _ _ => k
def text : V → Bs | mk _ t _ _ _ => t
def items : V → List V | mk _ _ x _ _ => x
def fields : V → List (Bs × V × Int) | mk _ _ _ f _ => f
def pos : V → Int | mk _ _ _ _ a => a
end V
structure In where
  name : Bs
  typ : Bs
  has : Bool
  dflt : V
  pos : Int
structure Fd where
  name : Bs
  args : List In
  typ : Bs
  pos : Int
structure Td where
  kind : Int
  name : Bs
  impls : List Bs
  fields : List Fd
  members : List Bs
  inputs : List In
  pos : Int

/-- values that are soon gone through: the depth bounds what is within -/
def FewV : Nat → V → Prop
  | 0, _ => False
  | n + 1, v => v.text.length ≤ 500 ∧ v.items.length ≤ 300 ∧ v.fields.length ≤ 300 ∧ (∀ x ∈ v.items, FewV n x) ∧ (∀ f ∈ v.fields, f.1.length ≤ 100 ∧ FewV n f.2.1)
def FewI (n : Nat) (l : List In) : Prop := l.length ≤ 60 ∧ ∀ d ∈ l, d.name.length ≤ 200 ∧ d.typ.length ≤ 300 ∧ FewV n d.dflt
structure FewT (n : Nat) (t : Td) : Prop where
  name : t.name.length ≤ 200
  impls : t.impls.length ≤ 60 ∧ ∀ s ∈ t.impls, s.length ≤ 200
  members : t.members.length ≤ 60 ∧ ∀ s ∈ t.members, s.length ≤ 200
  fields : t.fields.length ≤ 60 ∧ ∀ f ∈ t.fields, f.name.length ≤ 200 ∧ f.typ.length ≤ 300 ∧ FewI n f.args
  inputs : FewI n t.inputs
def FewL (n : Nat) (l : List Td) : Prop := l.length ≤ 80 ∧ ∀ t ∈ l, FewT n t

/-! ### what 'types' holds and answers -/
def fiveL : List Bs := [[73, 110, 116], [70, 108, 111, 97, 116], [83, 116, 114, 105, 110, 103], [66, 111, 111, 108, 101, 97, 110], [73, 68]]
def scalar (k : Bs) : Td := { kind := 1, name := k, impls := [], fields := [], members := [], inputs := [], pos := 0 }
/-- the types that count, in order; the five scalars are there besides -/
abbrev Ts := List Td
def find (T : Ts) (k : Bs) : Option Td := if k ∈ fiveL then some (scalar k) else List.find? (fun d => d.name == k) T
def add1 (T : Ts) (d : Td) : Ts := if (find T d.name).isSome then T else T ++ [d]
def mkT (l : List Td) : Ts := l.foldl add1 []
def kind (T : Ts) (k : Bs) : Int := match find T k with | some d => d.kind | none => 0
theorem find_none {T : Ts} {k : Bs} (h : find T k = none) : k ∉ fiveL ∧ ∀ d ∈ T, d.name ≠ k := by
  unfold find at h
  split at h
  · cases h
  · rename_i h5
    refine ⟨h5, fun d hd e => ?_⟩
    have := List.find?_eq_none.1 h d hd
    simp [e] at this
theorem find_add {T : Ts} {d : Td} (h : find T d.name = none) (k : Bs) : find (T ++ [d]) k = if d.name == k then some d else find T k := by
  obtain ⟨h5, hn⟩ := find_none h
  unfold find
  by_cases hk : k ∈ fiveL
  · have : (d.name == k) = false := by simpa using fun e : d.name = k => h5 (e ▸ hk)
    simp [hk, this]
  · simp only [hk, if_false, List.find?_append]
    by_cases e : d.name = k
    · subst e
      have : List.find? (fun x => x.name == d.name) T = none := List.find?_eq_none.2 fun x hx => by simpa using hn x hx
      simp [this]
    · have e' : (d.name == k) = false := by simpa using e
      simp [e']
end Go.Proofs.Ytlpmnnkijdbopaa
