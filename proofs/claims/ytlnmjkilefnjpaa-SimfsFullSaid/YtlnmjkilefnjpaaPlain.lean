/-
  The file system as plain data: a directory is a list of names and files in the rising order of the names; what a map's operations do to it.
-/
import Derived.Maps.Ext
import Derived.Sort.KeysCollected
namespace Go.Proofs.Ytlnmjkilefnjpaa
open Go.Maps

abbrev Bs := List UInt8
abbrev Dir := List (Bs × Nat)
def ent (p : Bs × Nat) : Lit × DataW Unit := (.string p.1, .lit (.int .i64 (p.2 : Int)))
def dirD (l : Dir) : DataW Unit := .map (l.map ent)
def dins (x : Bs × Nat) : Dir → Dir
  | [] => [x]
  | y :: r => if bytesBefore x.1 y.1 = true then x :: y :: r else y :: dins x r
def dput (l : Dir) (k : Bs) (v : Nat) : Dir := dins (k, v) (l.filter fun p => !(p.1 == k))
def ddel (l : Dir) (k : Bs) : Dir := l.filter fun p => !(p.1 == k)
def dget (l : Dir) (k : Bs) : Option Nat := (l.find? fun p => p.1 == k).map (·.2)

theorem dins_cons (x y : Bs × Nat) (r : Dir) : dins x (y :: r) = if bytesBefore x.1 y.1 = true then x :: y :: r else y :: dins x r := rfl
theorem ent_key (k : Bs) (p : Bs × Nat) : (ent p).1.sameKey (.string k) = (p.1 == k) := rfl
theorem filter_ent (l : Dir) (k : Bs) : (l.map ent).filter (fun p => !p.1.sameKey (.string k)) = (l.filter fun p => !(p.1 == k)).map ent := by
  rw [List.filter_map]
  rfl
theorem insert_ent (x : Bs × Nat) : ∀ l : Dir, DataW.insert (ent x) (l.map ent) = (dins x l).map ent
  | [] => rfl
  | y :: r => by
    show (if (ent x).1.before (ent y).1 = true then ent x :: ent y :: r.map ent else ent y :: DataW.insert (ent x) (r.map ent)) = _
    have e : (ent x).1.before (ent y).1 = bytesBefore x.1 y.1 := rfl
    rw [e, insert_ent x r, dins_cons]
    split <;> rfl
theorem dirD_put (l : Dir) (k : Bs) (v : Nat) : (dirD l).put (.string k) (.lit (.int .i64 (v : Int))) = dirD (dput l k v) := by
  show DataW.map (DataW.insert (ent (k, v)) ((l.map ent).filter fun p => !p.1.sameKey (.string k))) = _
  rw [filter_ent, insert_ent]
  rfl
theorem dirD_del (l : Dir) (k : Bs) : (dirD l).del (.string k) = dirD (ddel l k) := by
  show DataW.map ((l.map ent).filter fun p => !p.1.sameKey (.string k)) = _
  rw [filter_ent]
  rfl
theorem find_ent (l : Dir) (k : Bs) : (l.map ent).find? (fun p => p.1.sameKey (.string k)) = (l.find? fun p => p.1 == k).map ent := by
  rw [List.find?_map]
  rfl
theorem dirD_has (l : Dir) (k : Bs) : Maps.has (dirD l) (.string k) = (dget l k).isSome := by
  show (l.map ent).any (fun p => p.1.sameKey (.string k)) = _
  have e := find_ent l k
  rw [List.any_map]
  unfold dget
  induction l with
  | nil => rfl
  | cons y r ih =>
    rw [List.any_cons, List.find?_cons]
    have e2 : ((fun p : Lit × DataW Unit => p.1.sameKey (.string k)) ∘ ent) y = (y.1 == k) := rfl
    rw [e2]
    cases hy : (y.1 == k) with
    | true => rfl
    | false => simpa using ih (find_ent r k)
theorem dirD_at (l : Dir) (k : Bs) : (dirD l).atKey (.string k) (.lit (.int .i64 0)) = .lit (.int .i64 (((dget l k).getD 0 : Nat) : Int)) := by
  have e := find_ent l k
  unfold dirD DataW.atKey dget
  simp only [e]
  cases l.find? (fun p => p.1 == k) <;> rfl
theorem dirD_size (l : Dir) : Maps.size (dirD l) = l.length := by show (l.map ent).length = _; simp
theorem dirD_keys (l : Dir) : strKeys (dirD l) = l.map (·.1) := by
  show (l.map ent).map (fun p => strOf p.1) = _
  rw [List.map_map]
  rfl
theorem dins_length (x : Bs × Nat) : ∀ l : Dir, (dins x l).length = l.length + 1
  | [] => rfl
  | y :: r => by rw [dins_cons]; split <;> simp [dins_length x r]
theorem dput_length (l : Dir) (k : Bs) (v : Nat) : (dput l k v).length ≤ l.length + 1 := by
  unfold dput
  rw [dins_length]
  have := List.length_filter_le (fun p : Bs × Nat => !(p.1 == k)) l
  omega
theorem dins_mem (x y : Bs × Nat) : ∀ l : Dir, y ∈ dins x l ↔ y = x ∨ y ∈ l
  | [] => by simp [dins]
  | z :: r => by
    rw [dins_cons]
    split
    · simp
    · simp only [List.mem_cons, dins_mem x y r]
      constructor
      · rintro (h | h | h) <;> simp [h]
      · rintro (h | h | h) <;> simp [h]
theorem dput_mem (l : Dir) (k : Bs) (v : Nat) (y : Bs × Nat) (h : y ∈ dput l k v) : y = (k, v) ∨ y ∈ l := by
  rcases (dins_mem _ _ _).1 h with h | h
  · exact .inl h
  · exact .inr (List.mem_filter.1 h).1
theorem ddel_mem (l : Dir) (k : Bs) (y : Bs × Nat) (h : y ∈ ddel l k) : y ∈ l := (List.mem_filter.1 h).1
theorem dget_mem {l : Dir} {k : Bs} {i : Nat} (h : dget l k = some i) : (k, i) ∈ l := by
  unfold dget at h
  cases e : l.find? (fun p => p.1 == k) with
  | none => rw [e] at h; cases h
  | some p =>
    rw [e] at h
    have hp := List.find?_some e
    have hm := List.mem_of_find?_eq_some e
    obtain ⟨a, b⟩ := p
    simp only [Option.map_some, Option.some.injEq] at h
    simp only [beq_iff_eq] at hp
    rw [← h, ← hp]
    exact hm

/-! ### the names in order -/
theorem le_of_before : ∀ {a b : Bs}, bytesBefore a b = true → a ≤ b
  | [], [], h => by cases h
  | [], _ :: _, _ => List.nil_le _
  | _ :: _, [], h => by cases h
  | a :: r, b :: s, h => by
    unfold bytesBefore at h
    simp only [Bool.or_eq_true, decide_eq_true_eq, Bool.and_eq_true, beq_iff_eq] at h
    rw [List.cons_le_cons_iff]
    rcases h with h | ⟨h1, h2⟩
    · exact .inl h
    · exact .inr ⟨h1, le_of_before h2⟩
def Srt (l : Dir) : Prop := l.Pairwise fun p q => bytesBefore p.1 q.1 = true
theorem srt_of_canon {l : Dir} (h : Maps.Canon (dirD l)) : Srt l := by
  obtain ⟨es, e, hp, _⟩ := h
  have : es = l.map ent := by injection e with e; exact e.symm
  subst this
  exact List.pairwise_map.1 hp
theorem sort_keys {l : Dir} (h : Srt l) {ss : List Bs} (hp : ss.Perm (l.map (·.1))) : ss.mergeSort (fun x y => decide (x ≤ y)) = l.map (·.1) := by
  have e := mergeSort_of_perm hp
  have e2 : (l.map (·.1)).mergeSort leB = l.map (·.1) := by
    apply List.mergeSort_of_pairwise
    rw [List.pairwise_map]
    exact h.imp fun {a b} hab => by simp only [leB, decide_eq_true_eq]; exact le_of_before hab
  exact e.trans e2
theorem before_irr (a : Bs) : bytesBefore a a = false := by
  induction a with
  | nil => rfl
  | cons x r ih => unfold bytesBefore; simp [ih]
theorem srt_ne {l : Dir} (h : Srt l) : l.Pairwise fun p q => p.1 ≠ q.1 := h.imp fun {a b} hab e => by rw [e, before_irr] at hab; cases hab
/-- In a directory in order each entry is found at its name. -/
theorem dget_of_mem {k : Bs} {i : Nat} : ∀ {l : Dir}, Srt l → (k, i) ∈ l → dget l k = some i
  | [], _, h => by cases h
  | y :: r, hs, h => by
    have hn := srt_ne hs
    obtain ⟨h1, h2⟩ := List.pairwise_cons.1 hn
    unfold dget
    rw [List.find?_cons]
    rcases List.mem_cons.1 h with rfl | h
    · simp
    · have : y.1 ≠ k := h1 _ h
      rw [show (y.1 == k) = false from by simpa using this]
      exact dget_of_mem (List.pairwise_cons.1 hs).2 h

/-! ### changes of a directory -/
abbrev Chg := List (Bs × Int)
def do1 (l : Dir) (p : Bs × Int) : Dir := if p.2 < 0 then ddel l p.1 else dput l p.1 p.2.toNat
def doL (l : Dir) (c : Chg) : Dir := c.foldl do1 l
theorem doL_snoc (l : Dir) (c : Chg) (p : Bs × Int) : doL l (c ++ [p]) = do1 (doL l c) p := by simp [doL]
theorem do1_length (l : Dir) (p : Bs × Int) : (do1 l p).length ≤ l.length + 1 := by
  unfold do1
  split
  · have := List.length_filter_le (fun q : Bs × Nat => !(q.1 == p.1)) l
    unfold ddel; omega
  · exact dput_length _ _ _
theorem doL_length (l : Dir) (c : Chg) : (doL l c).length ≤ l.length + c.length := by
  induction c generalizing l with
  | nil => exact Nat.le_refl _
  | cons p r ih =>
    have h1 := ih (do1 l p)
    have h2 := do1_length l p
    show (doL (do1 l p) r).length ≤ _
    simp only [List.length_cons]
    omega
theorem do1_mem (l : Dir) (p : Bs × Int) (y : Bs × Nat) (h : y ∈ do1 l p) : y = (p.1, p.2.toNat) ∧ 0 ≤ p.2 ∨ y ∈ l := by
  unfold do1 at h
  split at h
  · exact .inr (ddel_mem _ _ _ h)
  · rcases dput_mem _ _ _ _ h with h | h
    · exact .inl ⟨h, by omega⟩
    · exact .inr h
theorem doL_idx {n : Nat} (c : Chg) (hc : ∀ p ∈ c, p.2 < (n : Int)) : ∀ (l : Dir), (∀ p ∈ l, p.2 < n) → ∀ p ∈ doL l c, p.2 < n := by
  induction c with
  | nil => exact fun l h => h
  | cons q r ih =>
    intro l h
    refine ih (fun p hp => hc p (by simp [hp])) (do1 l q) fun p hp => ?_
    rcases do1_mem _ _ _ hp with ⟨rfl, h0⟩ | hp
    · have := hc q (by simp)
      show q.2.toNat < n
      omega
    · exact h p hp

/-! ### names -/
def goodc (c : UInt8) : Bool := decide ((97 ≤ c.toNat ∧ c.toNat ≤ 122) ∨ (48 ≤ c.toNat ∧ c.toNat ≤ 57) ∨ c.toNat = 46 ∨ c.toNat = 45)
def good (l : Bs) : Bool := decide (1 ≤ l.length ∧ l.length ≤ 20) && l.all goodc

/-! ### the state -/
structure St where
  steps : Nat
  left : Int
  room : Int
  files : List (Bs × Nat)
  dir : Dir
  sure : Dir
  chg : List Chg
def newS (room : Int) : St := { steps := 0, left := -1, room := room, files := [], dir := [], sure := [], chg := [] }
def usedL (files : List (Bs × Nat)) (l : Dir) : Nat := (l.map fun p => ((files[p.2]?).getD ([], 0)).1.length).sum
def St.used (s : St) : Nat := usedL s.files s.dir
def St.step (s : St) : St := { s with steps := s.steps + 1, left := max (s.left - 1) (-1) }
def St.turn (s : St) (c : Chg) : St := { s with dir := doL s.dir c, chg := s.chg ++ [c] }
def St.create (s : St) (k : Bs) : St := St.turn { s.step with files := s.files ++ [([], 0)] } [(k, (s.files.length : Int))]
def St.append (s : St) (i : Nat) (b : Bs) : St := { s.step with files := s.files.modify i fun f => (f.1 ++ b, f.2) }
def St.sync (s : St) (i : Nat) : St := { s.step with files := s.files.modify i fun f => (f.1, f.1.length) }
def St.syncDir (s : St) : St := { s.step with sure := s.dir, chg := [] }
def St.rename (s : St) (k to : Bs) (i : Nat) : St := s.step.turn [(k, -1), (to, (i : Int))]
def St.remove (s : St) (k : Bs) : St := s.step.turn [(k, -1)]
def St.arm (s : St) (n : Int) : St := { s with left := n }
/-- What is behind a crash. -/
def keep (tails : List Int) (i : Nat) (f : Bs × Nat) : Bs :=
  match tails[i]? with
  | some t => f.1.take (f.2 + (max 0 (min t ((f.1.length : Int) - f.2))).toNat)
  | none => f.1.take f.2
def crashDir (s : St) (dirs : Int) : Dir := (s.chg.take (max 0 (min dirs s.chg.length)).toNat).foldl doL s.sure
def crashAdd (s : St) (tails : List Int) (c : St) (p : Bs × Nat) : St :=
  { c with files := c.files ++ [(keep tails p.2 ((s.files[p.2]?).getD ([], 0)), (keep tails p.2 ((s.files[p.2]?).getD ([], 0))).length)], dir := dput c.dir p.1 c.files.length }
def St.crash (s : St) (dirs : Int) (tails : List Int) : St :=
  let c := (crashDir s dirs).foldl (crashAdd s tails) (newS s.room)
  { c with sure := c.dir }
/-- Each number of a file is one's; no more of a file is sure than it has. -/
structure Wf (s : St) : Prop where
  dir : ∀ p ∈ s.dir, p.2 < s.files.length
  sure : ∀ p ∈ s.sure, p.2 < s.files.length
  chg : ∀ c ∈ s.chg, ∀ p ∈ c, p.2 < (s.files.length : Int)
  data : ∀ f ∈ s.files, f.2 ≤ f.1.length
  left : -1 ≤ s.left ∧ s.left ≤ 1000000000
theorem Wf.new (room : Int) : Wf (newS room) := ⟨by simp [newS], by simp [newS], by simp [newS], by simp [newS], by simp [newS]⟩
theorem Wf.step {s : St} (h : Wf s) : Wf s.step := ⟨h.dir, h.sure, h.chg, h.data, by have := h.left; show -1 ≤ max (s.left - 1) (-1) ∧ max (s.left - 1) (-1) ≤ 1000000000; omega⟩
theorem Wf.turn {s : St} (h : Wf s) {c : Chg} (hc : ∀ p ∈ c, p.2 < (s.files.length : Int)) : Wf (s.turn c) :=
  ⟨doL_idx c hc s.dir h.dir, h.sure, fun d hd => by
    rcases List.mem_append.1 hd with hd | hd
    · exact h.chg d hd
    · rw [List.mem_singleton.1 hd]; exact hc, h.data, h.left⟩
theorem Wf.create {s : St} (h : Wf s) (k : Bs) : Wf (s.create k) := by
  refine Wf.turn (s := { s.step with files := s.files ++ [([], 0)] }) ⟨fun p hp => ?_, fun p hp => ?_, fun c hc p hp => ?_, fun f hf => ?_, h.step.left⟩ fun p hp => ?_
  · have := h.dir p hp; simp; omega
  · have := h.sure p hp; simp; omega
  · have := h.chg c hc p hp; simp; omega
  · rcases List.mem_append.1 hf with hf | hf
    · exact h.data f hf
    · rw [List.mem_singleton.1 hf]; exact Nat.le_refl _
  · rw [List.mem_singleton.1 hp]; simp; omega
theorem Wf.mod {s : St} (h : Wf s) (i : Nat) {g : Bs × Nat → Bs × Nat} (hg : ∀ f, f.2 ≤ f.1.length → (g f).2 ≤ (g f).1.length) : Wf { s with files := s.files.modify i g } :=
  ⟨fun p hp => by rw [List.length_modify]; exact h.dir p hp, fun p hp => by rw [List.length_modify]; exact h.sure p hp, fun c hc p hp => by rw [List.length_modify]; exact h.chg c hc p hp, fun f hf => by
    obtain ⟨j, hj⟩ := List.mem_iff_getElem?.1 hf
    rw [List.getElem?_modify] at hj
    cases e : s.files[j]? with
    | none => rw [e] at hj; simp at hj
    | some f0 =>
      rw [e] at hj
      have h0 := h.data f0 (List.mem_of_getElem? e)
      simp only [Option.map_eq_map, Option.map_some, Option.some.injEq] at hj
      split at hj
      · rw [← hj]; exact hg _ h0
      · rw [← hj]; exact h0, h.left⟩
theorem Wf.append {s : St} (h : Wf s) (i : Nat) (b : Bs) : Wf (s.append i b) := h.step.mod i fun f hf => by simp; omega
theorem Wf.sync {s : St} (h : Wf s) (i : Nat) : Wf (s.sync i) := h.step.mod i fun _ _ => Nat.le_refl _
theorem Wf.syncDir {s : St} (h : Wf s) : Wf s.syncDir := ⟨h.dir, h.dir, (by intro c hc; cases hc), h.data, h.step.left⟩
theorem Wf.rename {s : St} (h : Wf s) (k to : Bs) {i : Nat} (hi : i < s.files.length) : Wf (s.rename k to i) :=
  h.step.turn fun p hp => by
    rcases List.mem_cons.1 hp with rfl | hp
    · show (-1 : Int) < s.files.length; omega
    · rw [List.mem_singleton.1 hp]; show (i : Int) < s.files.length; omega
theorem Wf.remove {s : St} (h : Wf s) (k : Bs) : Wf (s.remove k) :=
  h.step.turn fun p hp => by rw [List.mem_singleton.1 hp]; show (-1 : Int) < s.files.length; omega
end Go.Proofs.Ytlnmjkilefnjpaa
