/-
  Types in memory: the map of the types that count, the order of their names; the map's operations.
-/
import Derived.Test.YtlpmnnkijdbopaaOwn
import Derived.Maps.OwnOps
import Derived.StringKeys
namespace Go.Proofs.Ytlpmnnkijdbopaa
open Go.RowKit Go.Maps Go.ChangeMaps

theorem law : Keyed Try.prog 9 := string_keyed Try.underlying9
def rd (v : Value) : Option (DataW Value × List MemPlace) := some (.held v, [])
theorem rd_inj {v u : Value} {ps : List MemPlace} (h : rd v = some (.held u, ps)) : v = u := by cases h; rfl
def Mp (w : World) (b : Nat) (l : Dir) : Prop := w.ownsMap Try.prog 9 rd b l.length (dirD l)
theorem Mp.of {w : World} {b n : Nat} {l : Dir} (h : w.ownsMap Try.prog 9 rd b n (dirD l)) : Mp w b l := by
  obtain ⟨es, clock, hb, F, hs, hD⟩ := h
  refine ⟨es, clock, hb, F, ?_, hD⟩
  have h1 : l.map ent = (es.toList.map (Go.WideElems.rg Try.prog 9 rd)).foldr DataW.insert [] := by injection hD
  have h2 := congrArg List.length h1
  rw [length_sorted] at h2
  simp at h2
  omega
theorem Mp.same {w w' : World} {b : Nat} {l : Dir} (h : Mp w b l) (hb : w'.heap[b]? = w.heap[b]?) : Mp w' b l := by
  obtain ⟨es, clock, hb0, F, hs, hD⟩ := h
  exact ⟨es, clock, by rw [hb]; exact hb0, F, hs, hD⟩
theorem Mp.lt {w : World} {b : Nat} {l : Dir} (h : Mp w b l) : b < w.heap.size := World.ownsMap.lt h
theorem key_tx {k : Bs} (hk : k.length ≤ maxLen) : keyOf Try.prog 9 (tx k) = some (.string k) := by
  have h := Go.WideMaps.keyOf_string_mk (P := Try.prog) Try.underlying9 (s := ⟨k.toArray⟩) (by show k.toArray.size ≤ maxLen; simpa using hk)
  simpa using h
/-- a type's zero -/
def zeroT : List Value := [.int .i64 0, .string ⟨#[]⟩, .slice none 0 0, .slice none 0 0, .slice none 0 0, .slice none 0 0, .int .i64 0]
theorem zeroTd (w : World) : (zeroValue 35).run Try.prog w = .ok (.agg zeroT.toArray) w := by kernel_rfl
theorem Mp.get {w : World} {b : Nat} {l : Dir} {k : Bs} (h : Mp w b l) (hk : k.length ≤ maxLen) : (Instr.lookup 49 (.map (some b)) (tx k) false).run Try.prog w = .ok ((dget l k).getD (.agg zeroT.toArray)) w := by
  obtain ⟨v, ps, hrun, hv⟩ := World.ownsMap.lookup h law Try.underlying49 (zeroTd w) (zd := .held (.agg zeroT.toArray)) (zp := []) rfl (key_tx hk)
  rw [dirD_at] at hv
  rw [hrun, rd_inj hv]
theorem Mp.getOk {w : World} {b : Nat} {l : Dir} {k : Bs} (h : Mp w b l) (hk : k.length ≤ maxLen) : (Instr.lookup 49 (.map (some b)) (tx k) true).run Try.prog w = .ok (.tuple #[(dget l k).getD (.agg zeroT.toArray), .bool (dget l k).isSome]) w := by
  obtain ⟨v, ps, hrun, hv⟩ := World.ownsMap.look_ok h law Try.underlying49 (zeroTd w) (zd := .held (.agg zeroT.toArray)) (zp := []) rfl (key_tx hk)
  rw [dirD_at] at hv
  rw [hrun, rd_inj hv, dirD_has]
theorem Mp.put {w : World} {b : Nat} {l : Dir} {k : Bs} (v : Value) (h : Mp w b l) (hk : k.length ≤ maxLen) (hl : l.length ≤ 1000000) :
    ∃ w', (Instr.mapUpdate 49 (.map (some b)) (tx k) v).run Try.prog w = .ok () w' ∧ Mp w' b (dput l k v) ∧ w.grownBy w' (some b) := by
  obtain ⟨w', hrun, hw, hg⟩ := World.ownsMap.update h law Try.underlying49 (by unfold maxLen; omega) (key_tx hk) (val := v) (d := .held v) (ps := []) rfl
  rw [dirD_put] at hw
  exact ⟨w', hrun, Mp.of hw, hg⟩
section
variable {ops : Array Oper} {rest : List Oper} {a : Act} {Q : Exit → Act → World → Prop} {w : World} {dst : Option Tmp} {ty : TypeId} {pos : String} {af : Array Edge} {m x v : Operand} {b : Nat} {l : Dir} {k : Bs} {g : Option (Nat × Bool)}
theorem wpList_tget {u : Value} (hm : a.eval m = .map (some b)) (hd : Mp w b l) (hx : a.eval x = tx k) (hk : k.length ≤ maxLen) (hu : (dget l k).getD (.agg zeroT.toArray) = u)
    (hw : Region.wanted { dst := dst, op := .lookup 49 m x false, type := ty, pos := pos, after := af, guard := g } (yielded ops a.tmps) = true)
    (h : wpList Try.prog ops Q rest (a.put dst u) w) :
    wpList Try.prog ops Q ({ dst := dst, op := .lookup 49 m x false, type := ty, pos := pos, after := af, guard := g } :: rest) a w :=
  wpList_step fun _ hK => by
    subst hu
    rw [if_pos hw]
    unfold Oper.wp execOp
    have hrun := Mp.get hd hk
    simp only [hm, hx, Sem.run_bind, hrun, Sem.run_pure, Result.andThen_ok]
    exact hK _ _ h
theorem wpList_tgetOk {u : Value} {q : Bool} (hm : a.eval m = .map (some b)) (hd : Mp w b l) (hx : a.eval x = tx k) (hk : k.length ≤ maxLen) (hu : (dget l k).getD (.agg zeroT.toArray) = u) (hq : (dget l k).isSome = q)
    (h : wpList Try.prog ops Q rest (a.put dst (.tuple #[u, .bool q])) w) :
    wpList Try.prog ops Q ({ dst := dst, op := .lookup 49 m x true, type := ty, pos := pos, after := af, guard := none } :: rest) a w :=
  wpList_plain rfl fun _ hK => by
    subst hu hq
    unfold Oper.wp execOp
    have hrun := Mp.getOk hd hk
    simp only [hm, hx, Sem.run_bind, hrun, Sem.run_pure, Result.andThen_ok]
    exact hK _ _ h
set_option maxRecDepth 10000 in
theorem wpList_tput {u : Value} (hm : a.eval m = .map (some b)) (hd : Mp w b l) (hx : a.eval x = tx k) (hv : a.eval v = u) (hk : k.length ≤ maxLen) (hl : l.length ≤ 1000000)
    (h : ∀ w', Mp w' b (dput l k u) → w.grownBy w' (some b) → wpList Try.prog ops Q rest (a.put dst undef) w') :
    wpList Try.prog ops Q ({ dst := dst, op := .mapUpdate 49 m x v, type := ty, pos := pos, after := af, guard := none } :: rest) a w :=
  wpList_plain rfl fun _ hK => by
    obtain ⟨w', hrun, hw, hg⟩ := Mp.put u hd hk hl
    unfold Oper.wp execOp
    simp only [hm, hx, hv, Sem.run_bind, hrun, Sem.run_pure, Result.andThen_ok]
    exact hK _ _ (h w' hw hg)
end

/-! ### Types -/
def In' (lo hi b : Nat) : Prop := lo ≤ b ∧ b < hi
structure TL where
  m : Nat
  A : Option Addr
  c : Nat
  D : Dir
structure TysX (n : Nat) (w : World) (lo hi p : Nat) (T : Ts) (X : TL) : Prop where
  inP : In' lo hi p
  inM : In' lo hi X.m
  up : hi ≤ w.heap.size
  blk : w.heap[p]? = some (.cells #[.map (some X.m), .slice X.A T.length X.c] 51 (0, 0))
  map : Mp w X.m X.D
  get : ∀ k d, find T k = some d → ∃ cs, dget X.D k = some (.agg cs.toArray) ∧ RT w (In' lo hi) n d cs
  non : ∀ k, find T k = none → dget X.D k = none
  ord : Sl w (In' lo hi) 1 X.A RS (T.map (·.name))
  few : ∀ d ∈ T, FewT n d
  cnt : T.length ≤ 80
theorem TysX.keep {n lo hi p : Nat} {w w' : World} {T : Ts} {X : TL} (h : TysX n w lo hi p T X) (hs : w.heap.size ≤ w'.heap.size) (hk : ∀ b, In' lo hi b → w'.heap[b]? = w.heap[b]?) : TysX n w' lo hi p T X :=
  ⟨h.inP, h.inM, Nat.le_trans h.up hs, by rw [hk _ h.inP]; exact h.blk, h.map.same (hk _ h.inM), fun k d hd => by
    obtain ⟨cs, h1, h2⟩ := h.get k d hd
    exact ⟨cs, h1, RT.map (fun _ h => h) hk _ _ h2⟩, h.non, h.ord.map (fun _ h => h) hk (fun _ _ h => h), h.few, h.cnt⟩
theorem TysX.below {n lo hi p : Nat} {w w' : World} {T : Ts} {X : TL} (h : TysX n w lo hi p T X) (hb : Below w.heap.size w w') : TysX n w' lo hi p T X :=
  h.keep hb.size fun b hb' => hb.block b (Nat.lt_of_lt_of_le hb'.2 h.up)
end Go.Proofs.Ytlpmnnkijdbopaa
