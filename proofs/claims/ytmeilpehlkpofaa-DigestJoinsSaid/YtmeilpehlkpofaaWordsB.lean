/-
  Words on appends, in the form that names the one block that grows.
-/
import Derived.Test.YtmeilpehlkpofaaRoots
namespace Go.Proofs.Ytmeilpehlkpofaa
open Go.RowKit

theorem run_append_rdg {P : Program} {w : World} {base : Nat} {t rt e : TypeId} {i : TypeInfo} {z : Value} {k bytes : Nat} (ht : P.underlying t = some (.slice e)) (hi : P.info? e = some i) (hz : i.zero = some z)
    (hsize : i.size = k) (hby : i.bytes = bytes) (hzs : z.cells.size = k) (hk : 0 < k)
    {A C : Option Addr} {n c m d B : Nat} {xs news : List Value} (hown : w.ownsRow base e k (.slice A n c) n xs) (hr : Rd w B k C m news) (h1 : ∀ u ∈ news, u.oneCell' = true)
    (h63 : n + m ≤ maxLen) (hbytes : (n + m) * bytes ≤ 140737488355328) (hbase : base ≤ w.heap.size) :
    ∃ A' c' w', (Builtin.append_ #[t, t] rt #[.slice A n c, .slice C m d]).run P w = .ok (.slice A' (n + m) c') w' ∧ w'.ownsRow base e k (.slice A' (n + m) c') (n + m) (xs ++ news) ∧ w.grownBy w' (Value.slice A n c).ownBlock := by
  rcases C with _ | ad
  · have hn := hr.none_len
    subst hn
    have hm : m = 0 := by
      have := hr.len
      rcases Nat.eq_zero_or_pos m with h | h
      · exact h
      · have := Nat.mul_pos h hk
        have h2 := hr.len
        simp at h2
        omega
    subst hm
    refine ⟨A, c, w, ?_, by simpa using hown, World.grownBy.refl w _⟩
    rcases hown.2 with ⟨hv, rfl⟩ | ⟨g, cap, cur, hv, _, hg, hnc, _⟩
    · cases hv
      simp [Builtin.append_, run_underlying ht, sizeOf, typeInfo, hi, Builtin.lenOf, Builtin.firstCells]
    · cases hv
      simp [Builtin.append_, run_underlying ht, sizeOf, typeInfo, hi, Builtin.lenOf, Builtin.firstCells, hnc, storeCells]
  · obtain ⟨v', w', hrun, h2, h3, _, _⟩ := run_append_own_at (P := P) w base t rt e i z k bytes ht hi hz hsize hby hzs hk _ n xs hown ad m d news hr.len hr.adds h1 h63 hbytes hbase
    rcases h2.2 with ⟨hv, h0⟩ | ⟨g, cap, cur, hv, _⟩
    · subst hv
      exact ⟨none, 0, w', by rw [hrun, h0], by rw [h0] at h2 ⊢; exact h2, h3⟩
    · subst hv
      exact ⟨some ⟨g, 0, none⟩, cap, w', hrun, h2, h3⟩
theorem wpList_append_u8g {ops : Array Oper} {rest : List Oper} {a : Act} {Q : Exit → Act → World → Prop} {w : World} {dst : Option Tmp} {ty : TypeId} {pos : String} {af : Array Edge} {s x : Operand} {base : Nat}
    {A C : Option Addr} {n c m d B : Nat} {xs : List Value} {l : List UInt8} (hs : a.eval s = .slice A n c) (hx : a.eval x = .slice C m d)
    (hown : w.ownsRow base 5 1 (.slice A n c) n xs) (hr : Rb w B C m l) (hl : n + m ≤ 1000000000) (hbase : base ≤ w.heap.size)
    (h : ∀ A' c' w', w'.ownsRow base 5 1 (.slice A' (n + m) c') (n + m) (xs ++ u8s l) → w.grownBy w' (Value.slice A n c).ownBlock → wpList Try.prog ops Q rest (a.put dst (.slice A' (n + m) c')) w') :
    wpList Try.prog ops Q ({ dst := dst, op := .call { callee := .builtin .append, args := #[s, x], argTypes := #[22, 22] }, type := ty, pos := pos, after := af, guard := none } :: rest) a w :=
  wpList_plain rfl fun _ hK => by
    obtain ⟨i0, hi, hz0, hz1, hz2⟩ := info_parts Try.infoU8
    obtain ⟨A', c', w', hrun, h2, h3⟩ := run_append_rdg (P := Try.prog) (rt := ty) (d := d) Try.underlying22 hi hz0 hz1 hz2 rfl (by decide) hown hr (u8s_one l) (by unfold maxLen; omega) (by omega) hbase
    unfold Oper.wp execOp
    simp only [resolve, invoke, builtin, Sem.run_bind, Sem.run_pure, Result.andThen_ok, List.map_toArray, List.map_cons, List.map_nil, hs, hx]
    rw [hrun]
    exact hK _ _ (h A' c' w' h2 h3)

theorem owns_below {w w' : World} {base B k n : Nat} {e : TypeId} {v : Value} {xs : List Value} (h : w.ownsRow base e k v n xs) (hb : Below B w w') (hlt : ∀ g, v.ownBlock = some g → g < B) : w'.ownsRow base e k v n xs := by
  refine ⟨h.1, ?_⟩
  rcases h.2 with hn | ⟨g, cap, cur, rfl, hbg, hgg, rest⟩
  · exact .inl hn
  · exact .inr ⟨g, cap, cur, rfl, hbg, by rw [hb.block g (hlt g rfl)]; exact hgg, rest⟩
theorem owns_cap {w : World} {base k n c : Nat} {e : TypeId} {A : Option Addr} {xs : List Value} (h : w.ownsRow base e k (.slice A n c) n xs) : n ≤ c ∧ c ≤ maxLen := by
  rcases h.2 with ⟨hv, h0⟩ | ⟨g, cap, cur, hv, _, _, hnc, hcm, _⟩
  · cases hv; exact ⟨Nat.le_refl _, by unfold maxLen; omega⟩
  · cases hv; exact ⟨hnc, hcm⟩

/-- rows of other elements stay where a row is appended to -/
theorem owns_other {w w' : World} {base base' k k' n n' : Nat} {e e' : TypeId} {v v' : Value} {xs xs' : List Value} (h : w.ownsRow base e k v n xs) (h' : w.ownsRow base' e' k' v' n' xs') (hne : e ≠ e') (hg : w.grownBy w' v'.ownBlock) : w'.ownsRow base e k v n xs := by
  refine h.kept hg ?_
  rcases h.2 with ⟨rfl, _⟩ | ⟨g, cap, cur, rfl, _, hb, _⟩
  · exact .inl rfl
  · rcases h'.2 with ⟨rfl, _⟩ | ⟨g', cap', cur', rfl, _, hb', _⟩
    · exact .inr (by simp [Value.ownBlock])
    · refine .inr ?_
      intro e2
      have : g = g' := by simpa [Value.ownBlock] using e2
      subst this
      rw [hb] at hb'
      injection hb' with hb'
      injection hb' with _ ht
      exact hne ht

theorem wpList_append_g {P : Program} {ops : Array Oper} {rest : List Oper} {a : Act} {Q : Exit → Act → World → Prop} {w : World} {dst : Option Tmp} {ty : TypeId} {pos : String} {af : Array Edge} {s x : Operand} {base : Nat}
    {t e : TypeId} {i : TypeInfo} {z : Value} {k bytes : Nat} (ht : P.underlying t = some (.slice e)) (hi : P.info? e = some i) (hz : i.zero = some z)
    (hsize : i.size = k) (hby : i.bytes = bytes) (hzs : z.cells.size = k) (hk : 0 < k)
    {A C : Option Addr} {n c m d B : Nat} {xs news : List Value} (hs : a.eval s = .slice A n c) (hx : a.eval x = .slice C m d)
    (hown : w.ownsRow base e k (.slice A n c) n xs) (hr : Rd w B k C m news) (h1 : ∀ u ∈ news, u.oneCell' = true)
    (h63 : n + m ≤ maxLen) (hbytes : (n + m) * bytes ≤ 140737488355328) (hbase : base ≤ w.heap.size)
    (h : ∀ A' c' w', w'.ownsRow base e k (.slice A' (n + m) c') (n + m) (xs ++ news) → w.grownBy w' (Value.slice A n c).ownBlock → wpList P ops Q rest (a.put dst (.slice A' (n + m) c')) w') :
    wpList P ops Q ({ dst := dst, op := .call { callee := .builtin .append, args := #[s, x], argTypes := #[t, t] }, type := ty, pos := pos, after := af, guard := none } :: rest) a w :=
  wpList_plain rfl fun _ hK => by
    obtain ⟨A', c', w', hrun, h2, h3⟩ := run_append_rdg (P := P) (rt := ty) (d := d) ht hi hz hsize hby hzs hk hown hr h1 h63 hbytes hbase
    unfold Oper.wp execOp
    simp only [resolve, invoke, builtin, Sem.run_bind, Sem.run_pure, Result.andThen_ok, List.map_toArray, List.map_cons, List.map_nil, hs, hx]
    rw [hrun]
    exact hK _ _ (h A' c' w' h2 h3)

/-- One new cell. -/
theorem Rd.one (w : World) (u : Value) (T : TypeId) : Rd (w.alloc (.cells #[u] T)) (w.heap.size + 1) 1 (some ⟨w.heap.size, 0, none⟩) 1 [u] := by
  refine ⟨rfl, fun j v hu => ⟨w.heap.size, 0, rfl, by omega, ?_⟩⟩
  rw [World.cell?_alloc_at _ _ _ _ rfl, Nat.zero_add]
  simpa using hu
theorem Try.infoU64 : (Try.prog.info? 48).map (fun i => (i.zero, i.size, i.bytes)) = some (some (.int .u64 0), 1, 8) := by kernel_rfl
def u64s (l : List Nat) : List Value := l.map fun (x : Nat) => .int .u64 (x : Int)
def u32s (l : List W32) : List Value := l.map fun (x : W32) => .int .u32 (x.toNat : Int)
theorem u64s_length (l : List Nat) : (u64s l).length = l.length := by simp [u64s]
theorem u32s_length (l : List W32) : (u32s l).length = l.length := by simp [u32s]
theorem u64s_get {l : List Nat} {j : Nat} {x : Nat} (h : l[j]? = some x) : (u64s l)[j]? = some (.int .u64 (x : Int)) := by simp [u64s, h]
theorem u32s_get {l : List W32} {j : Nat} {x : W32} (h : l[j]? = some x) : (u32s l)[j]? = some (.int .u32 (x.toNat : Int)) := by simp [u32s, h]
end Go.Proofs.Ytmeilpehlkpofaa
