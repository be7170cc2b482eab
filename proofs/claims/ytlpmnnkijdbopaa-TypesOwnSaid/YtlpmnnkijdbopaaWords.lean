/-
  Words on memory that all walks of this seat use: a slice that reads as a list of cells, bytes, a slice of byte slices; the facts on one operation that the walk takes as laws.
-/
import Derived.Test.YtlpmnnkijdbopaaRows
import Derived.WalkKit
import Derived.WalkSpells
import Derived.WalkLawsBesides
import Derived.Deep.AppendLies
import Derived.Deep.Draws
import Derived.Maps.AppendAt
import Derived.Maps.OwnSet
import Derived.OneCell
import Derived.Test.YtlpmnnkijdbopaaPlain
namespace Go.Proofs.Ytlpmnnkijdbopaa
open Go.RowKit

theorem hide {p : Prop} (h : p) : Hid p := h
theorem block_add (a : Addr) (n : Nat) : (a.add n).block = a.block := by unfold Addr.add; split <;> rfl
theorem add_add' (a : Addr) (i j : Nat) : (a.add i).add j = a.add (i + j) := by
  unfold Addr.add
  by_cases hi : i = 0 <;> by_cases hj : j = 0 <;> simp [hi, hj, Nat.add_assoc]

/-- The slice '.slice A n _', whose elements take k cells each, lies below block B and holds the cells xs. -/
structure Rd (w : World) (B k : Nat) (A : Option Addr) (n : Nat) (xs : List Value) : Prop where
  len : xs.length = n * k
  cell : ∀ j u, xs[j]? = some u → ∃ b o, A = some ⟨b, o, none⟩ ∧ b < B ∧ w.cell? ⟨b, o + j, none⟩ = some u

section
variable {w w' : World} {B B' k n : Nat} {A : Option Addr} {xs : List Value}
theorem Rd.nil' (w : World) (B k : Nat) (A : Option Addr) : Rd w B k A 0 [] := ⟨by simp, fun j u h => by simp at h⟩
theorem Rd.keep (h : Rd w B k A n xs) (hk : ∀ p : Addr, p.block < B → w'.cell? p = w.cell? p) : Rd w' B k A n xs :=
  ⟨h.len, fun j u hu => by
    obtain ⟨b, o, e, hb, hc⟩ := h.cell j u hu
    exact ⟨b, o, e, hb, (hk _ hb).trans hc⟩⟩
theorem Rd.more (h : Rd w B k A n xs) (hB : B ≤ B') : Rd w B' k A n xs :=
  ⟨h.len, fun j u hu => by
    obtain ⟨b, o, e, hb, hc⟩ := h.cell j u hu
    exact ⟨b, o, e, by omega, hc⟩⟩
theorem Rd.below (h : Rd w B k A n xs) (hb : Below B w w') : Rd w' B k A n xs := h.keep fun _ hp => hb.cell hp
theorem Rd.drew (h : Rd w B k A n xs) : Rd w.drew B k A n xs := ⟨h.len, h.cell⟩
theorem Rd.drewN (h : Rd w B k A n xs) (m : Nat) : Rd (w.drewN m) B k A n xs := ⟨h.len, h.cell⟩
theorem Rd.alloc (h : Rd w B k A n xs) (hB : B ≤ w.heap.size) (o : Obj) : Rd (w.alloc o) B k A n xs := h.keep fun p hp => World.cell?_alloc_lt w o p (by omega)
theorem Rd.setCell (h : Rd w B k A n xs) {p : Addr} (hB : B ≤ p.block) (u : Value) : Rd (w.setCell p u) B k A n xs :=
  h.keep fun q hq => World.cell?_setCell_other w p q u (fun e => by subst e; omega)
theorem Rd.at_ {j : Nat} (h : Rd w B k A n xs) (hj : j < n * k) : ∃ b o u, A = some ⟨b, o, none⟩ ∧ b < B ∧ xs[j]? = some u ∧ w.cell? ⟨b, o + j, none⟩ = some u := by
  have hl : j < xs.length := by rw [h.len]; exact hj
  obtain ⟨b, o, e, hb, hc⟩ := h.cell j _ (List.getElem?_eq_getElem hl)
  exact ⟨b, o, _, e, hb, List.getElem?_eq_getElem hl, hc⟩
theorem Rd.drop (h : Rd w B k A n xs) {m : Nat} {C : Option Addr} (hC : m < n → C = A.map (·.add (m * k))) : Rd w B k C (n - m) (xs.drop (m * k)) := by
  refine ⟨by rw [List.length_drop, h.len, Nat.sub_mul], fun j u hu => ?_⟩
  rw [List.getElem?_drop] at hu
  have hlt : m * k + j < n * k := by rw [← h.len]; exact (List.getElem?_eq_some_iff.1 hu).1
  have hmn : m < n := by
    rcases Nat.lt_or_ge m n with h1 | h1
    · exact h1
    · have := Nat.mul_le_mul_right k h1; omega
  obtain ⟨b, o, rfl, hb, hc⟩ := h.cell _ u hu
  refine ⟨b, o + m * k, by rw [hC hmn, Option.map_some, Addr.add_lit], hb, ?_⟩
  rw [Nat.add_assoc]
  exact hc
theorem Rd.take (h : Rd w B k A n xs) {m : Nat} (hm : m ≤ n) : Rd w B k A m (xs.take (m * k)) := by
  refine ⟨by rw [List.length_take, h.len]; exact Nat.min_eq_left (Nat.mul_le_mul_right k hm), fun j u hu => ?_⟩
  rw [List.getElem?_take] at hu
  split at hu
  · exact h.cell j u hu
  · cases hu
theorem Rd.of_own {base : Nat} {e : TypeId} {c : Nat} (h : w.ownsRow base e k (.slice A n c) n xs) : Rd w w.heap.size k A n xs := by
  refine ⟨h.1, fun j u hu => ?_⟩
  rcases Nat.eq_zero_or_pos n with h0 | h0
  · subst h0
    have : xs = [] := List.eq_nil_of_length_eq_zero (by simpa using h.1)
    subst this
    simp at hu
  · obtain ⟨g, cap, hv, _, hlt⟩ := h.form h0
    have hA : A = some ⟨g, 0, none⟩ := by injection hv
    subst hA
    refine ⟨g, 0, rfl, hlt, ?_⟩
    have := h.cells (g := g) rfl j u hu
    rw [Addr.add_lit] at this
    exact this
/-- the cells as the library's own laws ask for them -/
theorem Rd.adds {ad : Addr} (h : Rd w B k (some ad) n xs) : ∀ j u, xs[j]? = some u → w.cell? (ad.add j) = some u := by
  intro j u hu
  obtain ⟨b, o, e, _, hc⟩ := h.cell j u hu
  injection e with e
  subst e
  rw [Addr.add_lit]
  exact hc
theorem Rd.of_adds {ad : Addr} (hl : xs.length = n * k) (hb : ad.block < B) (h : ∀ j u, xs[j]? = some u → w.cell? (ad.add j) = some u) : Rd w B k (some ad) n xs := by
  refine ⟨hl, fun j u hu => ?_⟩
  have h0 : ∃ u0, xs[0]? = some u0 := by
    have : 0 < xs.length := by have := (List.getElem?_eq_some_iff.1 hu).1; omega
    exact ⟨_, List.getElem?_eq_getElem this⟩
  obtain ⟨u0, h0⟩ := h0
  have hc := h 0 u0 h0
  rw [Addr.add_zero'] at hc
  obtain ⟨b, o, sp⟩ := ad
  have hs : sp = none := by
    cases sp with
    | none => rfl
    | some z => simp [World.cell?] at hc; split at hc <;> simp at hc
  subst hs
  exact ⟨b, o, rfl, hb, by have := h j u hu; rw [Addr.add_lit] at this; exact this⟩
theorem Rd.none_len (h : Rd w B k none n xs) : xs = [] := by
  match xs, h with
  | [], _ => rfl
  | x :: r, h => obtain ⟨_, _, e, _⟩ := h.cell 0 x rfl; cases e
end

/-- bytes as cells -/
def u8s (l : List UInt8) : List Value := l.map fun x => .int .u8 (x.toNat : Int)
theorem u8s_length (l : List UInt8) : (u8s l).length = l.length := by simp [u8s]
theorem u8s_append (l m : List UInt8) : u8s (l ++ m) = u8s l ++ u8s m := by simp [u8s]
theorem u8s_drop (l : List UInt8) (n : Nat) : (u8s l).drop n = u8s (l.drop n) := by simp [u8s]
theorem u8s_take (l : List UInt8) (n : Nat) : (u8s l).take n = u8s (l.take n) := by simp [u8s]
theorem u8s_get (l : List UInt8) {j : Nat} {u : Value} (h : (u8s l)[j]? = some u) : ∃ (hj : j < l.length), u = .int .u8 (l[j].toNat : Int) := by
  unfold u8s at h
  rw [List.getElem?_map] at h
  cases hx : l[j]? with
  | none => rw [hx] at h; cases h
  | some x =>
    rw [hx] at h
    obtain ⟨hj, e⟩ := List.getElem?_eq_some_iff.1 hx
    exact ⟨hj, by subst e; injection h with h; exact h.symm⟩
theorem u8s_one (l : List UInt8) : ∀ u ∈ u8s l, u.oneCell' = true := by
  intro u hu
  simp only [u8s, List.mem_map] at hu
  obtain ⟨x, _, rfl⟩ := hu
  rfl

/-- the bytes of a slice -/
def Rb (w : World) (B : Nat) (A : Option Addr) (n : Nat) (l : List UInt8) : Prop := Rd w B 1 A n (u8s l)
section
variable {w w' : World} {B B' n : Nat} {A : Option Addr} {l : List UInt8}
theorem Rb.len (h : Rb w B A n l) : l.length = n := by have := Rd.len h; rw [u8s_length] at this; omega
theorem Rb.at_ (h : Rb w B A n l) {j : Nat} (hj : j < n) : ∃ b o x, A = some ⟨b, o, none⟩ ∧ b < B ∧ l[j]? = some x ∧ w.cell? ⟨b, o + j, none⟩ = some (.int .u8 (x.toNat : Int)) := by
  obtain ⟨b, o, u, e, hb, hx, hc⟩ := Rd.at_ h (j := j) (by omega)
  obtain ⟨hjl, rfl⟩ := u8s_get l hx
  exact ⟨b, o, l[j], e, hb, List.getElem?_eq_getElem hjl, hc⟩
theorem Rb.nil' (w : World) (B : Nat) (A : Option Addr) : Rb w B A 0 [] := Rd.nil' w B 1 A
theorem Rb.keep (h : Rb w B A n l) (hk : ∀ p : Addr, p.block < B → w'.cell? p = w.cell? p) : Rb w' B A n l := Rd.keep h hk
theorem Rb.more (h : Rb w B A n l) (hB : B ≤ B') : Rb w B' A n l := Rd.more h hB
theorem Rb.below (h : Rb w B A n l) (hb : Below B w w') : Rb w' B A n l := Rd.below h hb
theorem Rb.drew (h : Rb w B A n l) : Rb w.drew B A n l := Rd.drew h
theorem Rb.drewN (h : Rb w B A n l) (m : Nat) : Rb (w.drewN m) B A n l := Rd.drewN h m
theorem Rb.alloc (h : Rb w B A n l) (hB : B ≤ w.heap.size) (o : Obj) : Rb (w.alloc o) B A n l := Rd.alloc h hB o
theorem Rb.setCell (h : Rb w B A n l) {p : Addr} (hB : B ≤ p.block) (u : Value) : Rb (w.setCell p u) B A n l := Rd.setCell h hB u
theorem Rb.drop (h : Rb w B A n l) {m : Nat} {C : Option Addr} (hC : m < n → C = A.map (·.add m)) : Rb w B C (n - m) (l.drop m) := by
  have := Rd.drop h (m := m) (C := C) (by simpa using hC)
  rw [Nat.mul_one, u8s_drop] at this
  exact this
theorem Rb.take (h : Rb w B A n l) {m : Nat} (hm : m ≤ n) : Rb w B A m (l.take m) := by
  have := Rd.take h (m := m) hm
  rw [Nat.mul_one, u8s_take] at this
  exact this
theorem Rb.of_own {base : Nat} {e : TypeId} {c : Nat} (h : w.ownsRow base e 1 (.slice A n c) n (u8s l)) : Rb w w.heap.size A n l := Rd.of_own h
end

/-- a slice of byte slices: the parts -/
structure Rp (w : World) (B : Nat) (A : Option Addr) (n : Nat) (ps : List (List UInt8)) : Prop where
  len : ps.length = n
  at_ : ∀ j l, ps[j]? = some l → ∃ b o A' n' c', A = some ⟨b, o, none⟩ ∧ b < B ∧ w.cell? ⟨b, o + j, none⟩ = some (.slice A' n' c') ∧ Rb w B A' n' l ∧ n' ≤ maxLen
section
variable {w w' : World} {B B' n : Nat} {A : Option Addr} {ps : List (List UInt8)}
theorem Rp.nil' (w : World) (B : Nat) (A : Option Addr) : Rp w B A 0 [] := ⟨rfl, fun j u h => by simp at h⟩
theorem Rp.keep (h : Rp w B A n ps) (hk : ∀ p : Addr, p.block < B → w'.cell? p = w.cell? p) : Rp w' B A n ps :=
  ⟨h.len, fun j l hl => by
    obtain ⟨b, o, A', n', c', e, hb, hc, hr, hm⟩ := h.at_ j l hl
    exact ⟨b, o, A', n', c', e, hb, (hk _ hb).trans hc, hr.keep hk, hm⟩⟩
theorem Rp.more (h : Rp w B A n ps) (hB : B ≤ B') : Rp w B' A n ps :=
  ⟨h.len, fun j l hl => by
    obtain ⟨b, o, A', n', c', e, hb, hc, hr, hm⟩ := h.at_ j l hl
    exact ⟨b, o, A', n', c', e, by omega, hc, hr.more hB, hm⟩⟩
theorem Rp.below (h : Rp w B A n ps) (hb : Below B w w') : Rp w' B A n ps := h.keep fun _ hp => hb.cell hp
theorem Rp.drew (h : Rp w B A n ps) : Rp w.drew B A n ps := h.keep fun _ _ => rfl
theorem Rp.drewN (h : Rp w B A n ps) (m : Nat) : Rp (w.drewN m) B A n ps := h.keep fun _ _ => rfl
theorem Rp.alloc (h : Rp w B A n ps) (hB : B ≤ w.heap.size) (o : Obj) : Rp (w.alloc o) B A n ps := h.keep fun p hp => World.cell?_alloc_lt w o p (by omega)
end

/-! One operation: a slice of bytes to a string. -/
section
variable {P : Program} {ops : Array Oper} {rest : List Oper} {a : Act} {Q : Exit → Act → World → Prop} {w : World} {dst : Option Tmp} {ty : TypeId} {pos : String} {af : Array Edge}
theorem run_bytes_string {s d e : TypeId} (hs : P.underlying s = some (.slice e)) (he : P.underlying e = some (.int .u8)) (hd : P.underlying d = some .string)
    {B n : Nat} {A : Option Addr} {l : List UInt8} (c : Nat) (hr : Rb w B A n l) : (convert s d (.slice A n c)).run P w = .ok (.string ⟨l.toArray⟩) w := by
  rcases A with _ | ad
  · have hl : l = [] := by
      have := Rd.none_len hr
      simpa [u8s] using this
    subst hl
    exact run_convert_bytes_nil (P := P) (w := w) s e hs he n c d hd
  · have hl : (loadCells ad n).run P w = .ok ((l.map fun x => (x.toNat : Int)).map (Value.int .u8)).toArray w := by
      have h := run_loadCells_list (P := P) w ad (u8s l) (Rd.adds hr)
      rw [u8s_length, hr.len] at h
      rw [h]
      simp [u8s]
    rw [run_convert_bytes_string w s d e (some ad) n c hs he hd, run_bytesToString w ad n c _ hl, foldl_push_bytes]
    have e : (l.map fun x => (x.toNat : Int)).map (fun n => UInt8.ofNat n.toNat) = l := by
      rw [List.map_map]
      conv => rhs; rw [← List.map_id l]
      exact List.map_congr_left fun x _ => by simp
    rw [e]
    simp
theorem wpList_conv {s d : TypeId} {x : Operand} {v u : Value} {w' : World} (hrun : (convert s d v).run P w = .ok u w') (hx : a.eval x = v)
    (h : wpList P ops Q rest (a.put dst u) w') : wpList P ops Q ({ dst := dst, op := .convert s d x, type := ty, pos := pos, after := af, guard := none } :: rest) a w :=
  wpList_plain rfl fun _ hK => by
    unfold Oper.wp execOp
    simp only [hx, Sem.run_bind, hrun, Result.andThen_ok, Sem.run_pure]
    exact hK _ _ h
theorem wpList_bytes_string {s d e : TypeId} {x : Operand} (hs : P.underlying s = some (.slice e)) (he : P.underlying e = some (.int .u8)) (hd : P.underlying d = some .string)
    {B n c : Nat} {A : Option Addr} {l : List UInt8} (hx : a.eval x = .slice A n c) (hr : Rb w B A n l)
    (h : wpList P ops Q rest (a.put dst (.string ⟨l.toArray⟩)) w) : wpList P ops Q ({ dst := dst, op := .convert s d x, type := ty, pos := pos, after := af, guard := none } :: rest) a w :=
  wpList_conv (run_bytes_string hs he hd c hr) hx h
end

/-! One operation: append onto a row of the call's own; the source nil, empty or not. -/
section
variable {P : Program} {ops : Array Oper} {rest : List Oper} {a : Act} {Q : Exit → Act → World → Prop} {w : World} {dst : Option Tmp} {ty : TypeId} {pos : String} {af : Array Edge}
theorem run_append_rd {base : Nat} {t rt e : TypeId} {i : TypeInfo} {z : Value} {k bytes : Nat} (ht : P.underlying t = some (.slice e)) (hi : P.info? e = some i) (hz : i.zero = some z)
    (hsize : i.size = k) (hby : i.bytes = bytes) (hzs : z.cells.size = k) (hk : 0 < k)
    {A C : Option Addr} {n c m d B : Nat} {xs news : List Value} (hown : w.ownsRow base e k (.slice A n c) n xs) (hr : Rd w B k C m news) (h1 : ∀ u ∈ news, u.oneCell' = true)
    (h63 : n + m ≤ maxLen) (hbytes : (n + m) * bytes ≤ 140737488355328) (hbase : base ≤ w.heap.size) :
    ∃ A' c' w', (Builtin.append_ #[t, t] rt #[.slice A n c, .slice C m d]).run P w = .ok (.slice A' (n + m) c') w' ∧ w'.ownsRow base e k (.slice A' (n + m) c') (n + m) (xs ++ news) ∧ Below base w w' := by
  have hbel : ∀ {w'}, w.grownBy w' (Value.slice A n c).ownBlock → Below base w w' := fun hg =>
    (Below.refl base w).grown hg hbase (fun q hq => (hown.lt q hq).1)
  rcases C with _ | ad
  · have hn := hr.none_len
    subst hn
    have hm : m = 0 := by
      have := hr.len
      rcases Nat.eq_zero_or_pos m with h | h
      · exact h
      · have := Nat.mul_pos h hk
        have h2 := hr.len
        simp at h2
        omega
    subst hm
    refine ⟨A, c, w, ?_, by simpa using hown, Below.refl _ _⟩
    rcases hown.2 with ⟨hv, rfl⟩ | ⟨g, cap, cur, hv, _, hg, hnc, _⟩
    · cases hv
      simp [Builtin.append_, run_underlying ht, sizeOf, typeInfo, hi, Builtin.lenOf, Builtin.firstCells]
    · cases hv
      simp [Builtin.append_, run_underlying ht, sizeOf, typeInfo, hi, Builtin.lenOf, Builtin.firstCells, hnc, storeCells]
  · obtain ⟨v', w', hrun, h2, h3, _, _⟩ := run_append_own_at (P := P) w base t rt e i z k bytes ht hi hz hsize hby hzs hk _ n xs hown ad m d news hr.len hr.adds h1 h63 hbytes hbase
    rcases h2.2 with ⟨hv, h0⟩ | ⟨g, cap, cur, hv, _⟩
    · subst hv
      refine ⟨none, 0, w', by rw [hrun, h0], by rw [h0] at h2 ⊢; exact h2, hbel h3⟩
    · subst hv
      exact ⟨some ⟨g, 0, none⟩, cap, w', hrun, h2, hbel h3⟩
theorem wpList_append_rd {s x : Operand} {base : Nat} {t e : TypeId} {i : TypeInfo} {z : Value} {k bytes : Nat} (ht : P.underlying t = some (.slice e)) (hi : P.info? e = some i) (hz : i.zero = some z)
    (hsize : i.size = k) (hby : i.bytes = bytes) (hzs : z.cells.size = k) (hk : 0 < k)
    {A C : Option Addr} {n c m d B : Nat} {xs news : List Value} (hs : a.eval s = .slice A n c) (hx : a.eval x = .slice C m d)
    (hown : w.ownsRow base e k (.slice A n c) n xs) (hr : Rd w B k C m news) (h1 : ∀ u ∈ news, u.oneCell' = true)
    (h63 : n + m ≤ maxLen) (hbytes : (n + m) * bytes ≤ 140737488355328) (hbase : base ≤ w.heap.size)
    (h : ∀ A' c' w', w'.ownsRow base e k (.slice A' (n + m) c') (n + m) (xs ++ news) → Below base w w' → wpList P ops Q rest (a.put dst (.slice A' (n + m) c')) w') :
    wpList P ops Q ({ dst := dst, op := .call { callee := .builtin .append, args := #[s, x], argTypes := #[t, t] }, type := ty, pos := pos, after := af, guard := none } :: rest) a w :=
  wpList_plain rfl fun _ hK => by
    obtain ⟨A', c', w', hrun, h2, h3⟩ := run_append_rd (P := P) (rt := ty) ht hi hz hsize hby hzs hk hown hr h1 h63 hbytes hbase
    unfold Oper.wp execOp
    simp only [resolve, invoke, builtin, Sem.run_bind, Sem.run_pure, Result.andThen_ok, List.map_toArray, List.map_cons, List.map_nil, hs, hx]
    rw [hrun]
    exact hK _ _ (h A' c' w' h2 h3)
end
theorem Try.infoU8 : (Try.prog.info? 5).map (fun i => (i.zero, i.size, i.bytes)) = some (some (.int .u8 0), 1, 1) := by kernel_rfl
theorem wpList_append_u8 {ops : Array Oper} {rest : List Oper} {a : Act} {Q : Exit → Act → World → Prop} {w : World} {dst : Option Tmp} {ty : TypeId} {pos : String} {af : Array Edge} {s x : Operand} {base : Nat}
    {A C : Option Addr} {n c m d B : Nat} {xs : List Value} {l : List UInt8} (hs : a.eval s = .slice A n c) (hx : a.eval x = .slice C m d)
    (hown : w.ownsRow base 5 1 (.slice A n c) n xs) (hr : Rb w B C m l) (hl : n + m ≤ 1000000000) (hbase : base ≤ w.heap.size)
    (h : ∀ A' c' w', w'.ownsRow base 5 1 (.slice A' (n + m) c') (n + m) (xs ++ u8s l) → Below base w w' → wpList Try.prog ops Q rest (a.put dst (.slice A' (n + m) c')) w') :
    wpList Try.prog ops Q ({ dst := dst, op := .call { callee := .builtin .append, args := #[s, x], argTypes := #[138, 138] }, type := ty, pos := pos, after := af, guard := none } :: rest) a w := by
  obtain ⟨i0, hi, hz0, hz1, hz2⟩ := info_parts Try.infoU8
  exact wpList_append_rd Try.underlying138 hi hz0 hz1 hz2 rfl (by decide) hs hx hown hr (u8s_one l) (by unfold maxLen; omega) (by omega) hbase h

theorem run_append_rdg {P : Program} {w : World} {base : Nat} {t rt e : TypeId} {i : TypeInfo} {z : Value} {k bytes : Nat} (ht : P.underlying t = some (.slice e)) (hi : P.info? e = some i) (hz : i.zero = some z)
    (hsize : i.size = k) (hby : i.bytes = bytes) (hzs : z.cells.size = k) (hk : 0 < k)
    {A C : Option Addr} {n c m d B : Nat} {xs news : List Value} (hown : w.ownsRow base e k (.slice A n c) n xs) (hr : Rd w B k C m news) (h1 : ∀ u ∈ news, u.oneCell' = true)
    (h63 : n + m ≤ maxLen) (hbytes : (n + m) * bytes ≤ 140737488355328) (hbase : base ≤ w.heap.size) :
    ∃ A' c' w', (Builtin.append_ #[t, t] rt #[.slice A n c, .slice C m d]).run P w = .ok (.slice A' (n + m) c') w' ∧ w'.ownsRow base e k (.slice A' (n + m) c') (n + m) (xs ++ news) ∧ w.grownBy w' (Value.slice A n c).ownBlock := by
  rcases C with _ | ad
  · have hn := hr.none_len
    subst hn
    have hm : m = 0 := by
      have := hr.len
      rcases Nat.eq_zero_or_pos m with h | h
      · exact h
      · have := Nat.mul_pos h hk
        have h2 := hr.len
        simp at h2
        omega
    subst hm
    refine ⟨A, c, w, ?_, by simpa using hown, World.grownBy.refl w _⟩
    rcases hown.2 with ⟨hv, rfl⟩ | ⟨g, cap, cur, hv, _, hg, hnc, _⟩
    · cases hv
      simp [Builtin.append_, run_underlying ht, sizeOf, typeInfo, hi, Builtin.lenOf, Builtin.firstCells]
    · cases hv
      simp [Builtin.append_, run_underlying ht, sizeOf, typeInfo, hi, Builtin.lenOf, Builtin.firstCells, hnc, storeCells]
  · obtain ⟨v', w', hrun, h2, h3, _, _⟩ := run_append_own_at (P := P) w base t rt e i z k bytes ht hi hz hsize hby hzs hk _ n xs hown ad m d news hr.len hr.adds h1 h63 hbytes hbase
    rcases h2.2 with ⟨hv, h0⟩ | ⟨g, cap, cur, hv, _⟩
    · subst hv
      exact ⟨none, 0, w', by rw [hrun, h0], by rw [h0] at h2 ⊢; exact h2, h3⟩
    · subst hv
      exact ⟨some ⟨g, 0, none⟩, cap, w', hrun, h2, h3⟩
theorem wpList_append_u8g {ops : Array Oper} {rest : List Oper} {a : Act} {Q : Exit → Act → World → Prop} {w : World} {dst : Option Tmp} {ty : TypeId} {pos : String} {af : Array Edge} {s x : Operand} {base : Nat}
    {A C : Option Addr} {n c m d B : Nat} {xs : List Value} {l : List UInt8} (hs : a.eval s = .slice A n c) (hx : a.eval x = .slice C m d)
    (hown : w.ownsRow base 5 1 (.slice A n c) n xs) (hr : Rb w B C m l) (hl : n + m ≤ 1000000000) (hbase : base ≤ w.heap.size)
    (h : ∀ A' c' w', w'.ownsRow base 5 1 (.slice A' (n + m) c') (n + m) (xs ++ u8s l) → w.grownBy w' (Value.slice A n c).ownBlock → wpList Try.prog ops Q rest (a.put dst (.slice A' (n + m) c')) w') :
    wpList Try.prog ops Q ({ dst := dst, op := .call { callee := .builtin .append, args := #[s, x], argTypes := #[138, 138] }, type := ty, pos := pos, after := af, guard := none } :: rest) a w :=
  wpList_plain rfl fun _ hK => by
    obtain ⟨i0, hi, hz0, hz1, hz2⟩ := info_parts Try.infoU8
    obtain ⟨A', c', w', hrun, h2, h3⟩ := run_append_rdg (P := Try.prog) (rt := ty) (d := d) Try.underlying138 hi hz0 hz1 hz2 rfl (by decide) hown hr (u8s_one l) (by unfold maxLen; omega) (by omega) hbase
    unfold Oper.wp execOp
    simp only [resolve, invoke, builtin, Sem.run_bind, Sem.run_pure, Result.andThen_ok, List.map_toArray, List.map_cons, List.map_nil, hs, hx]
    rw [hrun]
    exact hK _ _ (h A' c' w' h2 h3)

theorem owns_below {w w' : World} {base B k n : Nat} {e : TypeId} {v : Value} {xs : List Value} (h : w.ownsRow base e k v n xs) (hb : Below B w w') (hlt : ∀ g, v.ownBlock = some g → g < B) : w'.ownsRow base e k v n xs := by
  refine ⟨h.1, ?_⟩
  rcases h.2 with hn | ⟨g, cap, cur, rfl, hbg, hgg, rest⟩
  · exact .inl hn
  · exact .inr ⟨g, cap, cur, rfl, hbg, by rw [hb.block g (hlt g rfl)]; exact hgg, rest⟩
theorem owns_cap {w : World} {base k n c : Nat} {e : TypeId} {A : Option Addr} {xs : List Value} (h : w.ownsRow base e k (.slice A n c) n xs) : n ≤ c ∧ c ≤ maxLen := by
  rcases h.2 with ⟨hv, h0⟩ | ⟨g, cap, cur, hv, _, _, hnc, hcm, _⟩
  · cases hv; exact ⟨Nat.le_refl _, by unfold maxLen; omega⟩
  · cases hv; exact ⟨hnc, hcm⟩

/-- rows of other elements stay where a row is appended to -/
theorem owns_other {w w' : World} {base base' k k' n n' : Nat} {e e' : TypeId} {v v' : Value} {xs xs' : List Value} (h : w.ownsRow base e k v n xs) (h' : w.ownsRow base' e' k' v' n' xs') (hne : e ≠ e') (hg : w.grownBy w' v'.ownBlock) : w'.ownsRow base e k v n xs := by
  refine h.kept hg ?_
  rcases h.2 with ⟨rfl, _⟩ | ⟨g, cap, cur, rfl, _, hb, _⟩
  · exact .inl rfl
  · rcases h'.2 with ⟨rfl, _⟩ | ⟨g', cap', cur', rfl, _, hb', _⟩
    · exact .inr (by simp [Value.ownBlock])
    · refine .inr ?_
      intro e2
      have : g = g' := by simpa [Value.ownBlock] using e2
      subst this
      rw [hb] at hb'
      injection hb' with hb'
      injection hb' with _ ht
      exact hne ht

theorem wpList_append_g {P : Program} {ops : Array Oper} {rest : List Oper} {a : Act} {Q : Exit → Act → World → Prop} {w : World} {dst : Option Tmp} {ty : TypeId} {pos : String} {af : Array Edge} {s x : Operand} {base : Nat}
    {t e : TypeId} {i : TypeInfo} {z : Value} {k bytes : Nat} (ht : P.underlying t = some (.slice e)) (hi : P.info? e = some i) (hz : i.zero = some z)
    (hsize : i.size = k) (hby : i.bytes = bytes) (hzs : z.cells.size = k) (hk : 0 < k)
    {A C : Option Addr} {n c m d B : Nat} {xs news : List Value} (hs : a.eval s = .slice A n c) (hx : a.eval x = .slice C m d)
    (hown : w.ownsRow base e k (.slice A n c) n xs) (hr : Rd w B k C m news) (h1 : ∀ u ∈ news, u.oneCell' = true)
    (h63 : n + m ≤ maxLen) (hbytes : (n + m) * bytes ≤ 140737488355328) (hbase : base ≤ w.heap.size)
    (h : ∀ A' c' w', w'.ownsRow base e k (.slice A' (n + m) c') (n + m) (xs ++ news) → w.grownBy w' (Value.slice A n c).ownBlock → wpList P ops Q rest (a.put dst (.slice A' (n + m) c')) w') :
    wpList P ops Q ({ dst := dst, op := .call { callee := .builtin .append, args := #[s, x], argTypes := #[t, t] }, type := ty, pos := pos, after := af, guard := none } :: rest) a w :=
  wpList_plain rfl fun _ hK => by
    obtain ⟨A', c', w', hrun, h2, h3⟩ := run_append_rdg (P := P) (rt := ty) (d := d) ht hi hz hsize hby hzs hk hown hr h1 h63 hbytes hbase
    unfold Oper.wp execOp
    simp only [resolve, invoke, builtin, Sem.run_bind, Sem.run_pure, Result.andThen_ok, List.map_toArray, List.map_cons, List.map_nil, hs, hx]
    rw [hrun]
    exact hK _ _ (h A' c' w' h2 h3)

/-- One new cell. -/
theorem Rd.one (w : World) (u : Value) (T : TypeId) : Rd (w.alloc (.cells #[u] T)) (w.heap.size + 1) 1 (some ⟨w.heap.size, 0, none⟩) 1 [u] := by
  refine ⟨rfl, fun j v hu => ⟨w.heap.size, 0, rfl, by omega, ?_⟩⟩
  rw [World.cell?_alloc_at _ _ _ _ rfl, Nat.zero_add]
  simpa using hu

/-! ### blocks -/
theorem grown_row_any {w w' : World} {row : Option Nat} (h : w.grownBy w' none) : w.grownBy w' row := ⟨h.os, h.tape, h.output, h.size, fun k hk _ => h.block k hk (by simp)⟩
theorem grown_setCell {w w' : World} {S j : Nat} {u : Value} (h : w.grownBy w' (some S)) : w.grownBy (w'.setCell ⟨S, j, none⟩ u) (some S) :=
  ⟨h.os, h.tape, h.output, by simpa using h.size, fun k hk hne => by rw [Below.heap_setCell _ _ _ _ (fun e => hne (by rw [e]))]; exact h.block k hk hne⟩
theorem below_grown {w w' : World} {base S : Nat} (h : w.grownBy w' (some S)) (hb : base ≤ S) (hS : S < w.heap.size) : Below base w w' :=
  (Below.refl base w).grown h (by omega) (fun q hq => by injection hq with hq; omega)
theorem grown_of_below {w w' : World} {row : Option Nat} (h : Below w.heap.size w w') : w.grownBy w' row := ⟨h.os, h.tape, h.output, h.size, fun k hk _ => h.block k hk⟩
theorem below_of_grown {w w' : World} (h : w.grownBy w' none) : Below w.heap.size w w' := ⟨h.os, h.tape, h.output, h.size, fun k hk => h.block k hk (by simp)⟩
/-- Blocks that are such stay as they are. -/
def Same (p : Obj → Prop) (w w' : World) : Prop := ∀ (k : Nat) (o : Obj), w.heap[k]? = some o → p o → w'.heap[k]? = some o
theorem Same.refl (p : Obj → Prop) (w : World) : Same p w w := fun _ _ h _ => h
theorem Same.trans {p : Obj → Prop} {a b c : World} (h : Same p a b) (k : Same p b c) : Same p a c := fun i o hi ho => k i o (h i o hi ho) ho
theorem Same.less {p q : Obj → Prop} {a b : World} (h : Same p a b) (hq : ∀ o, q o → p o) : Same q a b := fun i o hi ho => h i o hi (hq o ho)
theorem Same.of_below {p : Obj → Prop} {w w' : World} (h : Below w.heap.size w w') : Same p w w' := fun k o hk _ => by rw [h.block k (lt_of_block hk), hk]
theorem Same.of_grown {p : Obj → Prop} {w w' : World} {S : Nat} {o : Obj} (h : w.grownBy w' (some S)) (hS : w.heap[S]? = some o) (hp : ¬ p o) : Same p w w' := fun k o' hk ho => by
  rw [h.block k (lt_of_block hk) (by intro e; injection e with e; subst e; rw [hS] at hk; injection hk with hk; subst hk; exact hp ho), hk]
theorem Same.of_row {p : Obj → Prop} {w w' : World} {row : Option Nat} (h : w.grownBy w' row) (hrow : ∀ k, row = some k → ∀ o, w.heap[k]? = some o → ¬ p o) : Same p w w' := fun k o' hk ho => by
  rw [h.block k (lt_of_block hk) (by intro e; exact hrow k e.symm o' hk ho), hk]
/-- Cells of one of these types. -/
def Of (l : List TypeId) (o : Obj) : Prop := ∃ a t f, o = .cells a t f ∧ t ∈ l
theorem not_of {l : List TypeId} {a : Array Value} {t : TypeId} {f : Nat × Nat} (h : t ∉ l) : ¬ Of l (.cells a t f) := by
  rintro ⟨a', t', f', e, ht⟩
  injection e with _ e2
  exact h (e2 ▸ ht)
theorem not_of_map {l : List TypeId} {es : Array MapEntry} {c : Nat} : ¬ Of l (.map es c) := by
  rintro ⟨a', t', f', e, _⟩
  cases e
theorem owns_same {w w' : World} {base k n : Nat} {e : TypeId} {v : Value} {xs : List Value} {l : List TypeId} (h : w.ownsRow base e k v n xs) (hs : Same (Of l) w w') (he : e ∈ l) : w'.ownsRow base e k v n xs := by
  refine ⟨h.1, ?_⟩
  rcases h.2 with hn | ⟨g, cap, cur, rfl, hbg, hgg, rest⟩
  · exact .inl hn
  · exact .inr ⟨g, cap, cur, rfl, hbg, hs g _ hgg ⟨_, _, _, rfl, he⟩, rest⟩
/-- A row's block holds cells of its type. -/
theorem owns_not {w : World} {base k n : Nat} {e : TypeId} {v : Value} {xs : List Value} {l : List TypeId} (h : w.ownsRow base e k v n xs) (he : e ∉ l) : ∀ g, v.ownBlock = some g → ∀ o, w.heap[g]? = some o → ¬ Of l o := by
  intro g hg o ho
  rcases h.2 with ⟨rfl, _⟩ | ⟨g', cap, cur, rfl, hbg, hgg, rest⟩
  · cases hg
  · have : g' = g := by simpa [Value.ownBlock] using hg
    subst this
    rw [hgg] at ho
    injection ho with ho
    subst ho
    exact not_of he
end Go.Proofs.Ytlpmnnkijdbopaa
