/-
  The walk of the reference's digest.
-/
import Derived.Test.YtmeilpehlkpofaaAwake
namespace Go.Proofs.Ytmeilpehlkpofaa
open Go.RowKit
open sha

def z64 : Array Value := (u32s (List.replicate 64 0)).toArray
def z8 : Array Value := (u32s (List.replicate 8 0)).toArray
/-- What the reference's sum has laid: the result's row, the constants, the words; older memory is as it was. -/
def Ctx (w wx : World) (hh : List W32) : Prop :=
  wx.heap[w.heap.size]? = some (.cells z32 24 (0, 0)) ∧ wx.heap[w.heap.size + 1]? = some (.cells (u32s K).toArray 46 (0, 0)) ∧
  wx.heap[w.heap.size + 2]? = some (.cells (u32s hh).toArray 47 (0, 0)) ∧ Below w.heap.size w wx ∧ w.heap.size ≤ wx.heap.size
theorem Ctx.grown {w wx wy : World} {hh : List W32} {row : Option Nat} (h : Ctx w wx hh) (hg : wx.grownBy wy row) (hr : ∀ q, row = some q → w.heap.size ≤ q) (h0 : row ≠ some w.heap.size) (h1 : row ≠ some (w.heap.size + 1)) (h2 : row ≠ some (w.heap.size + 2)) : Ctx w wy hh :=
  ⟨by rw [hg.block _ (lt_of_block h.1) (Ne.symm h0)]; exact h.1, by rw [hg.block _ (lt_of_block h.2.1) (Ne.symm h1)]; exact h.2.1, by rw [hg.block _ (lt_of_block h.2.2.1) (Ne.symm h2)]; exact h.2.2.1,
    h.2.2.2.1.grown hg h.2.2.2.2 hr, Nat.le_trans h.2.2.2.2 hg.size⟩
theorem Ctx.alloc {w wx : World} {hh : List W32} (h : Ctx w wx hh) (o : Obj) : Ctx w (wx.alloc o) hh := h.grown (World.grownBy_alloc wx o none) (fun _ e => by cases e) (by simp) (by simp) (by simp)
theorem Ctx.append {w wx wy : World} {hh : List W32} {base n : Nat} {v : Value} {l : List UInt8} (h : Ctx w wx hh) (hown : OwnB wx base v n l) (hbase : w.heap.size ≤ base) (hg : wx.grownBy wy v.ownBlock) : Ctx w wy hh :=
  h.grown hg (fun q hq => Nat.le_trans hbase (hown.lt q hq).1) (hown.other h.1 (by decide)) (hown.other h.2.1 (by decide)) (hown.other h.2.2.1 (by decide))
theorem OwnB.alloc {w : World} {base n : Nat} {v : Value} {l : List UInt8} (h : OwnB w base v n l) (o : Obj) : OwnB (w.alloc o) base v n l :=
  h.kept (World.grownBy_alloc w o none) (by
    cases hv : v.ownBlock with
    | none => exact .inl rfl
    | some k => exact .inr (by simp))
theorem OwnB.empty (w : World) (base : Nat) (hb : base ≤ w.heap.size) : OwnB (w.alloc (.cells #[] 5)) base (.slice (some ⟨w.heap.size, 0, none⟩) 0 0) 0 [] :=
  ⟨rfl, .inr ⟨w.heap.size, 0, 0, #[], rfl, hb, heap_alloc_new w _, Nat.le_refl _, by unfold maxLen; omega, by simp, by simp [u8s]⟩⟩
theorem pad_cell {wo wr : World} {base g o L c T i q : Nat} {m l : List UInt8} (hown : OwnB wo base (.slice (some ⟨g, o, none⟩) L c) L m) (hg : wo.grownBy wr none) (hl : l = (m.drop T).take 64) (hi : i < 64 ∧ T + i < L) (hq : q = T + i) :
    ∃ y, l.getD i 0 = y ∧ wr.cell? ⟨g, o + q, none⟩ = some (.int .u8 ((w8 y).toNat : Int)) := by
  subst hq hl
  obtain ⟨b, o', y, hA, hbB, hy, hc⟩ := hown.rb.at_ (j := T + i) hi.2
  cases hA
  refine ⟨y, ?_, ?_⟩
  · rw [List.getD_eq_getElem?_getD, List.getElem?_take, if_pos hi.1, List.getElem?_drop, hy]; rfl
  · rw [w8_int, hg.cell hc (by simp)]
theorem wpStill_any {P : Program} {ops : Array Oper} {w : World} {Q : Act → Prop} (ops' : Array Oper) : ∀ (l : List Oper) (a : Act), (l.all fun o => o.guard.isNone) = true → wpStill P ops' w Q l a → wpStill P ops w Q l a
  | [], _, _, h => h
  | o :: r, a, hg, h => by
    rw [List.all_cons, Bool.and_eq_true] at hg
    have hgo : o.guard = none := Option.isNone_iff_eq_none.1 hg.1
    unfold wpStill at h ⊢
    simp only [Region.wanted, hgo, if_true] at h ⊢
    exact Oper.still_mono (fun a' h' => wpStill_any ops' r a' hg.2 h') h
theorem wp_still_tail_g {P : Program} {id : Nat} {Q : Exit → Act → World → Prop} {a : Act} {w : World} {l : List Oper} (n : Nat) (hm : P.follows .mixedOrders = true) (hB : Region.lexTailB .any l.toArray n = true) (hg : ((l.take n).all fun o => o.guard.isNone) = true)
    (h : ∀ w1, w1 = w.drew → ∀ R : Act → Prop, (∀ a', wpList P l.toArray Q (l.drop n) a' w1 → R a') → wpStill P #[] w1 R (l.take n) a) : (Code.region id l.toArray true).wp P Q a w :=
  wp_still_tail_v n hm hB fun w1 hw1 => wpStill_any #[] _ _ hg (h w1 hw1 _ (fun _ h => h))
theorem after_draws {wr wq wp w4 : World} (h1 : ∃ q, wq = wr.drewN q) (h2 : ∃ q, wp = wq.drewN q) (h3 : ∃ q, w4 = wp.drewN q) : w4.heap = wr.heap ∧ ∀ (wo : World) (row : Option Nat), wo.grownBy wr row → wo.grownBy w4 row := by
  obtain ⟨q1, rfl⟩ := h1
  obtain ⟨q2, rfl⟩ := h2
  obtain ⟨q3, rfl⟩ := h3
  exact ⟨rfl, fun wo row h => grown_drewN (grown_drewN (grown_drewN h q1) q2) q3⟩
/-- The first p bytes, and 0 behind them. -/
def bfill (l : List UInt8) (p : Nat) : List UInt8 := l.take p ++ List.replicate (l.length - p) 0
theorem bfill_length (l : List UInt8) (p : Nat) : (bfill l p).length = l.length := by simp [bfill]; omega
theorem bfill_set {l : List UInt8} {j : Nat} {x : UInt8} (h : l[j]? = some x) : (bfill l j).set j x = bfill l (j + 1) := by
  have hj : j < l.length := (List.getElem?_eq_some_iff.1 h).1
  unfold bfill
  rw [List.set_append_right _ _ (by rw [List.length_take]; omega), List.length_take, take_snoc h, show l.length - j = (l.length - (j + 1)) + 1 from by omega, List.replicate_succ,
    show j - min j l.length = 0 from by omega, List.set_cons_zero, List.append_assoc]
  rfl
theorem bfill_zero (l : List UInt8) : bfill l 0 = List.replicate l.length 0 := by simp [bfill]
theorem bfill_all (l : List UInt8) {p : Nat} (h : l.length = p) : bfill l p = l := by subst h; simp [bfill]
theorem out_get {l : List W32} {i j : Nat} {x : W32} (hx : l[i]? = some x) (hj : j < 4) : (out l)[4 * i + j]? = (four x)[j]? := by
  have hi : i < l.length := (List.getElem?_eq_some_iff.1 hx).1
  have e : out l = out (l.take i) ++ (four x ++ out (l.drop (i + 1))) := by
    conv => lhs; rw [← List.take_append_drop i l]
    have : l.drop i = x :: l.drop (i + 1) := by obtain ⟨hj, rfl⟩ := List.getElem?_eq_some_iff.1 hx; exact List.drop_eq_getElem_cons hj
    rw [this]
    unfold out
    rw [List.flatMap_append]; rfl
  have hl : (out (l.take i)).length = 4 * i := by rw [out_length, List.length_take]; omega
  rw [e, List.getElem?_append_right (by omega), hl, show 4 * i + j - 4 * i = j from by omega, List.getElem?_append_left (by show j < 4; omega)]
theorem four_val {x : W32} {j : Nat} {y : UInt8} (h : (four x)[j]? = some y) : (x.toNat : Int) / 2 ^ (24 - 8 * j) % 256 = (y.toNat : Int) := by
  have hj : j < 4 := (List.getElem?_eq_some_iff.1 h).1
  have hr : ∀ n, (x.toNat : Int) / 2 ^ n % 256 = ((b8 (sr n x)).toNat : Int) := fun n => by
    rw [← b8_int, ← rule_sr]; simp
  match j, hj with
  | 0, _ => injection h with h; rw [← h]; exact hr 24
  | 1, _ => injection h with h; rw [← h]; exact hr 16
  | 2, _ => injection h with h; rw [← h]; exact hr 8
  | 3, _ => injection h with h; rw [← h]; have := b8_int x; simpa using this
theorem eatN_one (v : V8) (m : List UInt8) : eatN 1 v m = eatB v (m.take 64) := by rw [eatN, eatN]
theorem eatB_eq (v : V8) (b : List UInt8) : add8 v (rounds K (sch b 64) v 64) = eatB v b := by rw [eatB]
theorem K_one : ((u32s K).toArray).all (·.oneCell') = true := u32s_one K
theorem turn_m (x : W32) (m : Int) (h1 : 1 ≤ m) (h2 : m ≤ 31) (w : World) :
    Calls Try.prog 18 #[.int .u32 (x.toNat : Int), .int .i64 m] w fun e w' => e = .returned (.int .u32 ((rotr x m.toNat).toNat : Int)) ∧ ∃ q, w' = w.drewN q :=
  turn_any x m.toNat m (by omega) (by omega) (by omega) w
set_option maxRecDepth 100000 in
set_option maxHeartbeats 32000000 in
theorem refsum_any {w : World} {B n : Nat} {A : Option Addr} {t : List UInt8} (c : Nat) (hr : Rb w B A n t) (hB : B ≤ w.heap.size) (hn : n ≤ 999999000) :
    Calls Try.prog 11 #[.slice A n c] w fun e w' => e = .returned (.agg (u8s (sum t)).toArray) ∧ Below w.heap.size w w' := by
  have hza : ∀ w : World, (zeroValue 24).run Try.prog w = .ok (.agg z32) w := fun w => by kernel_rfl
  have hz64 : ∀ w : World, (zeroValue 46).run Try.prog w = .ok (.agg z64) w := fun w => by kernel_rfl
  have hz8 : ∀ w : World, (zeroValue 47).run Try.prog w = .ok (.agg z8) w := fun w => by kernel_rfl
  obtain rfl := hr.len
  have HR := hide (And.intro hr (And.intro hB hn))
  clear hr hB hn
  have k1 : ((w.alloc (.cells z32 24)).alloc (.cells z64 46)).heap[w.heap.size + 1]? = some (.cells z64 46 (0, 0)) := by
    have := heap_alloc_new (w.alloc (.cells z32 24)) (.cells z64 46)
    simpa using this
  obtain ⟨wa, hwa⟩ : ∃ wa, wa = ((w.alloc (.cells z32 24)).alloc (.cells z64 46)).setRow (w.heap.size + 1) (u32s K).toArray := ⟨_, rfl⟩
  have a1 : wa.heap[w.heap.size + 1]? = some (.cells (u32s K).toArray 46 (0, 0)) := by rw [hwa]; exact setRow_heap _ _ _ _ _ _ k1
  have a2 : wa.heap[w.heap.size]? = some (.cells z32 24 (0, 0)) := by
    rw [hwa, setRow_other _ _ _ _ (by omega), Below.heap_alloc _ _ _ (by simp)]; exact heap_alloc_new w _
  have a3 : wa.heap.size = w.heap.size + 2 := by rw [hwa]; simp
  have a4 : Below w.heap.size w wa := by rw [hwa]; exact below_setRow (((Below.refl _ _).alloc (Nat.le_refl _) _).alloc (by simp) _) (by omega) _
  have k2 : (wa.alloc (.cells z8 47)).heap[w.heap.size + 2]? = some (.cells z8 47 (0, 0)) := by
    have := heap_alloc_new wa (.cells z8 47)
    rw [a3] at this
    exact this
  obtain ⟨wb, hwb⟩ : ∃ wb, wb = (wa.alloc (.cells z8 47)).setRow (w.heap.size + 2) (u32s H0.l).toArray := ⟨_, rfl⟩
  have b1 : wb.heap[w.heap.size + 1]? = some (.cells (u32s K).toArray 46 (0, 0)) := by rw [hwb, setRow_other _ _ _ _ (by omega), Below.heap_alloc _ _ _ (by omega)]; exact a1
  have b2 : wb.heap[w.heap.size]? = some (.cells z32 24 (0, 0)) := by rw [hwb, setRow_other _ _ _ _ (by omega), Below.heap_alloc _ _ _ (by omega)]; exact a2
  have b3 : wb.heap.size = w.heap.size + 3 := by rw [hwb]; simp; omega
  have b4 : Below w.heap.size w wb := by rw [hwb]; exact below_setRow (a4.alloc (by omega) _) (by omega) _
  have b5 : wb.heap[w.heap.size + 2]? = some (.cells (u32s H0.l).toArray 47 (0, 0)) := by rw [hwb]; exact setRow_heap _ _ _ _ _ _ k2
  have HA := hide (And.intro k1 (And.intro hwa (And.intro a3 (And.intro k2 hwb))))
  have HB := hide (And.intro b2 (And.intro b1 (And.intro b5 (And.intro b4 b3))))
  clear k1 hwa a1 a2 a3 a4 k2 hwb b1 b2 b3 b4 b5
  have hctx : Ctx w wb H0.l := ⟨HB.out.1, HB.out.2.1, HB.out.2.2.1, HB.out.2.2.2.1, by have := HB.out.2.2.2.2; omega⟩
  have hrb : Rb (wb.alloc (.cells #[] 5)) B A t.length t := (HR.out.1.below (HB.out.2.2.2.1.mono HR.out.2.1)).alloc (by have := HB.out.2.2.2.2; have := HR.out.2.1; omega) _
  have HB1 := hide (And.intro (OwnB.empty wb w.heap.size hctx.2.2.2.2) (And.intro hrb (And.intro (hctx.alloc (.cells #[] 5)) (And.intro (by have := HR.out.2.2; omega : 0 + t.length ≤ 1000000000) (hctx.alloc (.cells #[] 5)).2.2.2.2))))
  clear hctx hrb
  go_enter Try.func11, Try.ntmps11
  go_wp2_with (first
    | ((with_reducible show wpList _ _ _ ({ dst := _, op := .build 46 _, type := _, pos := _, after := _, guard := _ } :: _) _ _); refine wpList_buildTo rfl 46 _ rfl (some 22) rfl (u32s K).toArray (by as_aux_lemma => kernel_rfl) ?_)
    | ((with_reducible show wpList _ _ _ ({ dst := _, op := .build 47 _, type := _, pos := _, after := _, guard := _ } :: _) _ _); refine wpList_buildTo rfl 47 _ rfl (some 23) rfl (u32s H0.l).toArray (by as_aux_lemma => kernel_rfl) ?_)
    | ((with_reducible show wpList _ _ _ ({ dst := _, op := .store 46 _ _, type := _, pos := _, after := _, guard := _ } :: _) _ _); refine wpList_store_rowTo rfl 46 _ _ rfl rfl (w.heap.size + 1) (u32s K).toArray rfl rfl 46 _ HA.out.1 (by as_aux_lemma => kernel_rfl) rfl K_one ?_; rw [← HA.out.2.1])
    | ((with_reducible show wpList _ _ _ ({ dst := _, op := .store 47 _ _, type := _, pos := _, after := _, guard := _ } :: _) _ _); (try rw [HA.out.2.2.1]); refine wpList_store_rowTo rfl 47 _ _ rfl rfl (w.heap.size + 2) (u32s H0.l).toArray rfl rfl 47 _ HA.out.2.2.2.1 (by as_aux_lemma => kernel_rfl) rfl (u32s_one _) ?_; rw [← HA.out.2.2.2.2])
    | (((with_reducible show wpList _ _ _ ({ dst := _, op := .call { callee := .builtin .append, args := #[.tmp 24, .tmp 25], argTypes := #[_, _] }, type := _, pos := _, after := _, guard := _ } :: _) _ _); refine wpList_append_b rfl rfl HB1.out.1 HB1.out.2.1 HB1.out.2.2.2.1 HB1.out.2.2.2.2 ?_; intro A1 c1 w1 hown1 hg1; simp only [Nat.zero_add, List.nil_append] at hown1; have HB2 := hide (And.intro (hown1.alloc (.cells #[.int .u8 128] 5)) ((HB1.out.2.2.1.append HB1.out.1 (Nat.le_refl _) hg1).alloc (.cells #[.int .u8 128] 5))); clear hown1 hg1))
    | (((with_reducible show wpList _ _ _ ({ dst := _, op := .call { callee := .builtin .append, args := #[.tmp 26, .tmp 27], argTypes := #[_, _] }, type := _, pos := _, after := _, guard := _ } :: _) _ _); refine wpList_append_b rfl rfl HB2.out.1 (rb_one 0x80 _ rfl rfl _) (by have := HR.out.2.2; omega) HB2.out.2.2.2.2.2 ?_; intro A2 c2 w2 hown2 hg2; have HB3 := hide (And.intro hown2 (HB2.out.2.append HB2.out.1 (Nat.le_refl _) hg2)); clear hown2 hg2)))
  go_loopg [5] (zs t.length) (fun g m wr => ∃ (A' : Option Addr) (c' : Nat), g ≤ zs t.length ∧ m = .slice A' (tail t (zs t.length - g)).length c' ∧ OwnB wr w.heap.size (.slice A' (tail t (zs t.length - g)).length c') (tail t (zs t.length - g)).length (tail t (zs t.length - g)) ∧ Ctx w wr H0.l)
  case atStart =>
    have e : tail t (zs t.length - zs t.length) = t ++ [128] := by rw [Nat.sub_self]; simp [tail]
    rw [e]
    have el : (t ++ [(128 : UInt8)]).length = t.length + 1 := by simp
    rw [el]
    exact ⟨A2, c2, Nat.le_refl _, rfl, HB3.out.1, HB3.out.2⟩
  case round =>
    obtain ⟨A', c', hg, rfl, hown, hctx⟩ := hrel
    obtain ⟨i, hi⟩ : ∃ i, i = zs t.length - gk := ⟨_, rfl⟩
    rw [← hi] at hown ⊢
    have hl := tail_length t i
    obtain ⟨q, hq⟩ : ∃ q, q = (tail t i).length := ⟨_, rfl⟩
    rw [← hq] at hown hl ⊢
    obtain ⟨r, hr⟩ : ∃ r, r = q % 64 := ⟨_, rfl⟩
    have e1 : (q : Int).tmod 64 = (r : Int) := by rw [Int.tmod_eq_emod_of_nonneg (by omega)]; omega
    have e2 : (q : Int) % 64 = (r : Int) := by omega
    have hz := zs_le t.length
    rcases Nat.eq_zero_or_pos gk with h0 | h0
    · have ht1 : ((r : Int) != 56) = false := by
        have := zs_at t.length
        have : i = zs t.length := by omega
        subst this
        simp; omega
      have hti : i = zs t.length := by omega
      obtain ⟨T, hT⟩ : ∃ T, T = tail t (zs t.length) := ⟨_, rfl⟩
      rw [hti, ← hT] at hown
      have HX := hide (And.intro hown (And.intro hctx (And.intro hT (by rw [hq, hti, ← hT] : q = T.length))))
      clear hown hctx hg hi hl hq hr hti h0 hz hT
      have n1 : IntKind.u64.wrap (t.length : Int) = (t.length : Int) := by rw [IntKind.wrap_u64]; have := HR.out.2.2; omega
      have n2 : IntKind.u64.wrap ((t.length : Int) * 8) = (t.length : Int) * 8 := by rw [IntKind.wrap_u64]; have := HR.out.2.2; omega
      go_wp2_with fail
      go_loopw [5, 7] (fun m s7 wr => ∃ (j : Nat) (A' : Option Addr) (c' : Nat), j ≤ 8 ∧ s7 = .int .i64 (7 - (j : Int)) ∧ m = .slice A' (q + j) c' ∧ OwnB wr w.heap.size (.slice A' (q + j) c') (q + j) (T ++ (be64 (8 * t.length)).take j) ∧ Ctx w wr H0.l) (fun _ s7 _ => (intOf s7 + 1).toNat)
      case atStart => exact ⟨0, _, _, by omega, rfl, rfl, by simpa using HX.out.1, HX.out.2.1⟩
      case round =>
        obtain ⟨j, A', c', hj, rfl, rfl, hown, hctx⟩ := hrel
        obtain ⟨p, hp⟩ : ∃ p : Int, p = 7 - (j : Int) := ⟨_, rfl⟩
        rw [← hp]
        by_cases hlt : (0 : Int) ≤ p
        · have j2 : IntKind.i64.wrap (p - 1) = p - 1 := IntWalk.i64_in _ (by omega)
          have j6 : IntKind.i64.wrap (8 * p) = 8 * p := IntWalk.i64_in _ (by omega)
          have j7 : ¬ (8 * p < 0) := by omega
          obtain ⟨P, hP⟩ : ∃ P, P = 56 - 8 * j := ⟨_, rfl⟩
          have j3 : min (8 * p).toNat 64 = P := by omega
          obtain ⟨x, hx⟩ : ∃ x, x = UInt8.ofNat (8 * t.length / 2 ^ P % 256) := ⟨_, rfl⟩
          have hbe := be64_get (8 * t.length) (j := j) (by omega)
          rw [← hP, ← hx] at hbe
          have hxn : ((t.length : Int) * 8 / 2 ^ P) % 256 = (x.toNat : Int) := by
            rw [hx, UInt8.toNat_ofNat']
            have : 8 * t.length / 2 ^ P % 256 < 256 := Nat.mod_lt _ (by decide)
            rw [Nat.mod_eq_of_lt (by simpa using this), Int.mul_comm]
            simp
          have j4 : ((t.length : Int) * 8 / 2 ^ P) % 256 = (x.toNat : Int) := hxn
          have j5 : IntKind.u8.wrap ((t.length : Int) * 8 / 2 ^ P) = (x.toNat : Int) := by rw [IntKind.wrap_u8]; exact hxn
          have hql : q + j + 1 ≤ 1000000000 := by
            have h1 := HR.out.2.2
            have h2 := HX.out.2.2.2
            rw [HX.out.2.2.1, tail_length] at h2
            have h3 := zs_le t.length
            omega
          have HY := hide (And.intro (hown.alloc (.cells #[.int .u8 (x.toNat : Int)] 5)) (And.intro (hctx.alloc (.cells #[.int .u8 (x.toNat : Int)] 5)) (And.intro hbe (And.intro hj (And.intro hp hql)))))
          clear hown hctx hbe hj hp hql hx hP hxn
          go_wp2_with ((with_reducible show wpList _ _ _ ({ dst := _, op := .call { callee := .builtin .append, args := #[_, _], argTypes := #[_, _] }, type := _, pos := _, after := _, guard := _ } :: _) _ _); refine wpList_append_b rfl rfl HY.out.1 (rb_one x _ rfl rfl _) HY.out.2.2.2.2.2 HY.out.2.1.2.2.2.2 ?_; intro A6 c6 w6 hown6 hg6; have H6 := hide (And.intro hown6 (HY.out.2.1.append HY.out.1 (Nat.le_refl _) hg6)); clear hown6 hg6)
          go_roundw
          case rel => exact ⟨j + 1, A6, c6, by have := HY.out.2.2.2.2.1; omega, congrArg (Value.int .i64) (by have := HY.out.2.2.2.2.1; omega), rfl, by rw [take_snoc HY.out.2.2.1, ← List.append_assoc]; exact H6.out.1, H6.out.2⟩
          case measure => simp [intOf]; omega
        · have ej : j = 8 := by omega
          subst ej
          rw [be64_take] at hown
          have hpad : T ++ be64 (8 * t.length) = pad t := by rw [HX.out.2.2.1]; rfl
          rw [hpad] at hown
          obtain ⟨L, hL⟩ : ∃ L, L = q + 8 := ⟨_, rfl⟩
          rw [← hL] at hown ⊢
          have hmod : L % 64 = 0 := by
            have h2 := HX.out.2.2.2
            rw [HX.out.2.2.1, tail_length] at h2
            have h3 := zs_at t.length
            omega
          have hL9 : L ≤ 1000000000 := by
            have h1 := HR.out.2.2
            have h2 := HX.out.2.2.2
            rw [HX.out.2.2.1, tail_length] at h2
            have h3 := zs_le t.length
            omega
          have HP := hide (And.intro hown (And.intro hctx (And.intro hmod hL9)))
          clear hown hctx hmod hL9 hpad hL hj hp
          go_wp2_with fail
          go_loopw [8] (fun s8 wr => ∃ (j T : Nat), T = 64 * j ∧ T ≤ L ∧ s8 = .int .i64 (T : Int) ∧ OwnB wr w.heap.size (.slice A' L c') L (pad t) ∧ Ctx w wr (eatN j H0 (pad t)).l) (fun s8 _ => L - (intOf s8).toNat)
          case atStart => exact ⟨0, 0, rfl, by omega, rfl, HP.out.1, HP.out.2.1⟩
          case round =>
            obtain ⟨J, T, hTj, hTL, rfl, hown, hctx⟩ := hrel
            obtain ⟨wo, rfl⟩ : ∃ wo : World, wo = wr := ⟨_, rfl⟩
            by_cases hlt2 : (T : Int) < (L : Int)
            · have hT64 : T + 64 ≤ L := by have := HP.out.2.2.1; omega
              obtain ⟨g, o, rfl⟩ := hown.addr (by omega)
              obtain ⟨h, hh⟩ : ∃ h, h = eatN J H0 (pad t) := ⟨_, rfl⟩
              obtain ⟨l, hl⟩ : ∃ l, l = ((pad t).drop T).take 64 := ⟨_, rfl⟩
              have hll : l.length = 64 := by rw [hl, List.length_take, List.length_drop, hown.1]; omega
              rw [← hh] at hctx
              have H := hide (And.intro hown (And.intro hctx (And.intro hh (And.intro hl (And.intro hll (And.intro hTj hT64))))))
              have HL := hide HP.out.2.2
              have hwT : IntKind.i64.wrap ((T : Int) + 64) = (T : Int) + 64 := IntWalk.i64_in _ (by have := HL.out.2; omega)
              clear hown hctx hh hl hll hTj
              go_wp2_with fail
              go_loopw [10] (fun s10 wx => ∃ i : Nat, i ≤ 16 ∧ s10 = .int .i64 i ∧ wx.heap[wo.heap.size]? = some (.cells (u32s (fill (sch l 64) i)).toArray 46 (0, 0)) ∧ wo.grownBy wx none ∧ wx.heap.size = wo.heap.size + 1)
                (fun s10 _ => 16 - (intOf s10).toNat)
              case atStart => exact ⟨0, by omega, rfl, by rw [fill_zero, sch_length]; exact heap_alloc_new wo _, World.grownBy_alloc _ _ _, by simp⟩
              case round =>
                obtain ⟨j, hj, rfl, hW, hg, hsz⟩ := hrel
                by_cases h16 : (j : Int) < 16
                · have hcj : wr.cell? ⟨wo.heap.size, j, none⟩ = some (.int .u32 0) := by
                    rw [cell_of_row _ _ _ _ _ _ hW, row_get (fill_rest (Nat.le_refl j) (by rw [sch_length]; omega))]; rfl
                  have hfj : wr.frozen? ⟨wo.heap.size, j, none⟩ = false := frozen_of_row _ _ _ _ _ hW
                  as_aux_lemma =>
                    obtain ⟨y0, ey0, cy0⟩ : ∃ y, l.getD (4 * j) 0 = y ∧ wr.cell? ⟨g, o + (T + 4 * j), none⟩ = some (.int .u8 ((w8 y).toNat : Int)) := pad_cell H.out.1 hg H.out.2.2.2.1 (by omega) (by omega)
                    obtain ⟨y1, ey1, cy1⟩ : ∃ y, l.getD (4 * j + 1) 0 = y ∧ wr.cell? ⟨g, o + (T + 4 * j + 1), none⟩ = some (.int .u8 ((w8 y).toNat : Int)) := pad_cell H.out.1 hg H.out.2.2.2.1 (by omega) (by omega)
                    obtain ⟨y2, ey2, cy2⟩ : ∃ y, l.getD (4 * j + 2) 0 = y ∧ wr.cell? ⟨g, o + (T + 4 * j + 2), none⟩ = some (.int .u8 ((w8 y).toNat : Int)) := pad_cell H.out.1 hg H.out.2.2.2.1 (by omega) (by omega)
                    obtain ⟨y3, ey3, cy3⟩ : ∃ y, l.getD (4 * j + 3) 0 = y ∧ wr.cell? ⟨g, o + (T + 4 * j + 3), none⟩ = some (.int .u8 ((w8 y).toNat : Int)) := pad_cell H.out.1 hg H.out.2.2.2.1 (by omega) (by omega)
                    have hnw : nextW l (sch l j) j = oo (oo (oo (sl 24 (w8 y0)) (sl 16 (w8 y1))) (sl 8 (w8 y2))) (w8 y3) := by
                      unfold nextW; rw [if_pos (by omega)]; unfold word; rw [ey0, ey1, ey2, ey3]; rfl
                    have hnw : (sch l 64)[j]? = some (oo (oo (oo (sl 24 (w8 y0)) (sl 16 (w8 y1))) (sl 8 (w8 y2))) (w8 y3)) := by rw [sch_next l (by omega)]; exact congrArg some hnw
                    have hL9 := HL.out.2
                    have w0 : IntKind.i64.wrap (4 * (j : Int)) = 4 * (j : Int) := IntWalk.i64_in _ (by omega)
                    have i0 : IntKind.i64.wrap ((T : Int) + 4 * (j : Int)) = (T : Int) + 4 * (j : Int) := IntWalk.i64_in _ (by omega)
                    have i1 : IntKind.i64.wrap ((T : Int) + 4 * (j : Int) + 1) = (T : Int) + 4 * (j : Int) + 1 := IntWalk.i64_in _ (by omega)
                    have i2 : IntKind.i64.wrap ((T : Int) + 4 * (j : Int) + 2) = (T : Int) + 4 * (j : Int) + 2 := IntWalk.i64_in _ (by omega)
                    have i3 : IntKind.i64.wrap ((T : Int) + 4 * (j : Int) + 3) = (T : Int) + 4 * (j : Int) + 3 := IntWalk.i64_in _ (by omega)
                    have n0 : ((T : Int) + 4 * (j : Int)).toNat = T + 4 * j := by omega
                    have n1 : ((T : Int) + 4 * (j : Int) + 1).toNat = T + 4 * j + 1 := by omega
                    have n2 : ((T : Int) + 4 * (j : Int) + 2).toNat = T + 4 * j + 2 := by omega
                    have n3 : ((T : Int) + 4 * (j : Int) + 3).toNat = T + 4 * j + 3 := by omega
                    have l0 : (0 : Int) ≤ (T : Int) + 4 * (j : Int) := by omega
                    have l1 : (0 : Int) ≤ (T : Int) + 4 * (j : Int) + 1 := by omega
                    have l2 : (0 : Int) ≤ (T : Int) + 4 * (j : Int) + 2 := by omega
                    have l3 : (0 : Int) ≤ (T : Int) + 4 * (j : Int) + 3 := by omega
                    have m0 : (T : Int) + 4 * (j : Int) < (L : Int) := by omega
                    have m1 : (T : Int) + 4 * (j : Int) + 1 < (L : Int) := by omega
                    have m2 : (T : Int) + 4 * (j : Int) + 2 < (L : Int) := by omega
                    have m3 : (T : Int) + 4 * (j : Int) + 3 < (L : Int) := by omega
                    have hj64 : (j : Int) < 64 := by omega
                    have HJ := hide (And.intro hW (And.intro hg (And.intro hsz (And.intro hnw hj))))
                    clear hW hg hsz hnw hj ey0 ey1 ey2 ey3 hL9 hT64
                    have r0 : ∀ y : UInt8, IntKind.u32.wrap ((w8 y).toNat : Int) = ((w8 y).toNat : Int) := w8_wrap
                    have r1 := rule_oo
                    have r2 : ∀ x : W32, IntKind.u32.wrap ((x.toNat : Int) * 16777216) = ((sl 24 x).toNat : Int) := rule_sl 24
                    have r3 : ∀ x : W32, IntKind.u32.wrap ((x.toNat : Int) * 65536) = ((sl 16 x).toNat : Int) := rule_sl 16
                    have r4 : ∀ x : W32, IntKind.u32.wrap ((x.toNat : Int) * 256) = ((sl 8 x).toNat : Int) := rule_sl 8
                    have q2 : ∀ x : W32, (x.toNat : Int) * 16777216 % 4294967296 = ((sl 24 x).toNat : Int) := fun x => by rw [← rule_sl 24, IntKind.wrap_u32]; rfl
                    have q3 : ∀ x : W32, (x.toNat : Int) * 65536 % 4294967296 = ((sl 16 x).toNat : Int) := fun x => by rw [← rule_sl 16, IntKind.wrap_u32]; rfl
                    have q4 : ∀ x : W32, (x.toNat : Int) * 256 % 4294967296 = ((sl 8 x).toNat : Int) := fun x => by rw [← rule_sl 8, IntKind.wrap_u32]; rfl
                    go_wp2_with fail
                    refine wp_still_tail_g 43 (by as_aux_lemma => kernel_rfl) (by as_aux_lemma => kernel_rfl) (by as_aux_lemma => kernel_rfl) fun w4 hw4 R hR => ?_
                    simp only [List.take_succ_cons, List.take_zero]
                    have p0 : w4.cell? ⟨g, o + (T + 4 * j), none⟩ = some (.int .u8 ((w8 y0).toNat : Int)) := by rw [hw4]; exact cy0
                    have p1 : w4.cell? ⟨g, o + (T + 4 * j + 1), none⟩ = some (.int .u8 ((w8 y1).toNat : Int)) := by rw [hw4]; exact cy1
                    have p2 : w4.cell? ⟨g, o + (T + 4 * j + 2), none⟩ = some (.int .u8 ((w8 y2).toNat : Int)) := by rw [hw4]; exact cy2
                    have p3 : w4.cell? ⟨g, o + (T + 4 * j + 3), none⟩ = some (.int .u8 ((w8 y3).toNat : Int)) := by rw [hw4]; exact cy3
                    have pj : w4.cell? ⟨wo.heap.size, j, none⟩ = some (.int .u32 0) := by rw [hw4]; exact hcj
                    have pf : w4.frozen? ⟨wo.heap.size, j, none⟩ = false := by rw [hw4]; exact hfj
                    have HW := hide (And.intro hw4 (And.intro cy0 (And.intro cy1 (And.intro cy2 (And.intro cy3 (And.intro hcj hfj))))))
                    clear hw4 cy0 cy1 cy2 cy3 hcj hfj
                    have HRR := hide hR
                    clear hR
                    repeat still_step
                    refine wpStill_nil ?_
                    refine HRR.out _ ?_
                    simp only [List.drop_succ_cons, List.drop_zero]
                    go_wp2_with fail
                    go_roundw
                    case rel =>
                      refine ⟨j + 1, by omega, by go_num, ?_, grown_new (by rw [HW.out.1]; exact grown_drewN HJ.out.2.1 1) (Nat.le_refl _), ?_⟩
                      · rw [heap_setCell_same _ _ _ _ _ _ (by rw [HW.out.1]; exact HJ.out.1), row_set, fill_set HJ.out.2.2.2.1]
                      · rw [World.size_setCell, HW.out.1]; exact HJ.out.2.2.1
                    case measure => simp [intOf]; omega
                · have ej : j = 16 := by omega
                  subst ej
                  have HJ := hide (And.intro hW (And.intro hg hsz))
                  clear hW hg hsz hj
                  go_wp2_with fail
                  go_loopw [11] (fun s11 wx => ∃ i : Nat, 16 ≤ i ∧ i ≤ 64 ∧ s11 = .int .i64 i ∧ wx.heap[wo.heap.size]? = some (.cells (u32s (fill (sch l 64) i)).toArray 46 (0, 0)) ∧ wo.grownBy wx none ∧ wx.heap.size = wo.heap.size + 1)
                    (fun s11 _ => 64 - (intOf s11).toNat)
                  case atStart => exact ⟨16, by omega, by omega, rfl, HJ.out.1, HJ.out.2.1, HJ.out.2.2⟩
                  case round =>
                    obtain ⟨j, hj16, hj, rfl, hW, hg, hsz⟩ := hrel
                    by_cases h64 : (j : Int) < 64
                    · have hcj : wr.cell? ⟨wo.heap.size, j, none⟩ = some (.int .u32 0) := by
                        rw [cell_of_row _ _ _ _ _ _ hW, row_get (fill_rest (Nat.le_refl j) (by rw [sch_length]; omega))]; rfl
                      have hfj : wr.frozen? ⟨wo.heap.size, j, none⟩ = false := frozen_of_row _ _ _ _ _ hW
                      as_aux_lemma =>
                        obtain ⟨x16, e16, d16⟩ := sch_cell l (j := j) (i := j - 16) (by omega) (by omega)
                        obtain ⟨x7, e7, d7⟩ := sch_cell l (j := j) (i := j - 7) (by omega) (by omega)
                        obtain ⟨x15, e15, d15⟩ := sch_cell l (j := j) (i := j - 15) (by omega) (by omega)
                        obtain ⟨x2, e2', d2⟩ := sch_cell l (j := j) (i := j - 2) (by omega) (by omega)
                        have c16 : wr.cell? ⟨wo.heap.size, j - 16, none⟩ = some (.int .u32 (x16.toNat : Int)) := by rw [cell_of_row _ _ _ _ _ _ hW, row_get e16]
                        have c7 : wr.cell? ⟨wo.heap.size, j - 7, none⟩ = some (.int .u32 (x7.toNat : Int)) := by rw [cell_of_row _ _ _ _ _ _ hW, row_get e7]
                        have c15 : wr.cell? ⟨wo.heap.size, j - 15, none⟩ = some (.int .u32 (x15.toNat : Int)) := by rw [cell_of_row _ _ _ _ _ _ hW, row_get e15]
                        have c2 : wr.cell? ⟨wo.heap.size, j - 2, none⟩ = some (.int .u32 (x2.toNat : Int)) := by rw [cell_of_row _ _ _ _ _ _ hW, row_get e2']
                        have hnw : nextW l (sch l j) j = x16 + x7 + ssig0 x15 + ssig1 x2 := by
                          unfold nextW; rw [if_neg (by omega), d16, d7, d15, d2]
                        obtain ⟨s0, hs0⟩ : ∃ s0, s0 = xo (xo (rotr x15 7) (rotr x15 18)) (sr 3 x15) := ⟨_, rfl⟩
                        obtain ⟨s1, hs1⟩ : ∃ s1, s1 = xo (xo (rotr x2 17) (rotr x2 19)) (sr 10 x2) := ⟨_, rfl⟩
                        have hnw : (sch l 64)[j]? = some (ad (ad (ad x16 s0) x7) s1) := by
                          rw [sch_next l (by omega), hnw]
                          have q0 : ssig0 x15 = s0 := by rw [hs0]; rfl
                          have q1 : ssig1 x2 = s1 := by rw [hs1]; rfl
                          rw [q0, q1]
                          show some (x16 + x7 + s0 + s1) = some (x16 + s0 + x7 + s1)
                          rw [BitVec.add_assoc x16 x7 s0, BitVec.add_comm x7 s0, ← BitVec.add_assoc x16 s0 x7]
                        have i16 : IntKind.i64.wrap ((j : Int) - 16) = (j : Int) - 16 := IntWalk.i64_in _ (by omega)
                        have i7 : IntKind.i64.wrap ((j : Int) - 7) = (j : Int) - 7 := IntWalk.i64_in _ (by omega)
                        have i15 : IntKind.i64.wrap ((j : Int) - 15) = (j : Int) - 15 := IntWalk.i64_in _ (by omega)
                        have i2 : IntKind.i64.wrap ((j : Int) - 2) = (j : Int) - 2 := IntWalk.i64_in _ (by omega)
                        have n16 : ((j : Int) - 16).toNat = j - 16 := by omega
                        have n7 : ((j : Int) - 7).toNat = j - 7 := by omega
                        have n15 : ((j : Int) - 15).toNat = j - 15 := by omega
                        have n2 : ((j : Int) - 2).toNat = j - 2 := by omega
                        have l16 : (0 : Int) ≤ (j : Int) - 16 := by omega
                        have l7 : (0 : Int) ≤ (j : Int) - 7 := by omega
                        have l15 : (0 : Int) ≤ (j : Int) - 15 := by omega
                        have l2 : (0 : Int) ≤ (j : Int) - 2 := by omega
                        have k16 : (16 : Int) ≤ (j : Int) := by omega
                        have k15 : (15 : Int) ≤ (j : Int) := by omega
                        have k7 : (7 : Int) ≤ (j : Int) := by omega
                        have k2 : (2 : Int) ≤ (j : Int) := by omega
                        have m16 : (j : Int) - 16 < 64 := by omega
                        have m7 : (j : Int) - 7 < 64 := by omega
                        have m15 : (j : Int) - 15 < 64 := by omega
                        have m2 : (j : Int) - 2 < 64 := by omega
                        have HJ2 := hide (And.intro hW (And.intro hg (And.intro hsz (And.intro hnw (And.intro hj (And.intro hs0 hs1))))))
                        clear hW hg hsz hnw hj e16 d16 e7 d7 e15 d15 e2' d2 hs0 hs1
                        have r1 := rule_xo
                        have r2 := rule_ad
                        have r3 := rule_adw
                        have r4 : ∀ x : W32, (x.toNat : Int) / 8 = ((sr 3 x).toNat : Int) := rule_sr 3
                        have r5 : ∀ x : W32, (x.toNat : Int) / 1024 = ((sr 10 x).toNat : Int) := rule_sr 10
                        have HT := hide turn_m
                        go_wp2_with fail
                        go_quiet ((go_at_call 18; exact Calls.quiet_of (HT.out _ _ (by decide) (by decide) _)))
                        have hs0 := HJ2.out.2.2.2.2.2.1
                        rw [← hs0]
                        clear hs0
                        obtain ⟨wq, hwq⟩ : ∃ W, W = World.drewN wr (‹Nat› : Nat) := ⟨_, rfl⟩
                        rw [← hwq]
                        have c16 : wq.cell? ⟨wo.heap.size, j - 16, none⟩ = some (.int .u32 (x16.toNat : Int)) := by rw [hwq]; exact c16
                        have c7 : wq.cell? ⟨wo.heap.size, j - 7, none⟩ = some (.int .u32 (x7.toNat : Int)) := by rw [hwq]; exact c7
                        have c2 : wq.cell? ⟨wo.heap.size, j - 2, none⟩ = some (.int .u32 (x2.toNat : Int)) := by rw [hwq]; exact c2
                        have hcj : wq.cell? ⟨wo.heap.size, j, none⟩ = some (.int .u32 0) := by rw [hwq]; exact hcj
                        have hfj : wq.frozen? ⟨wo.heap.size, j, none⟩ = false := by rw [hwq]; exact hfj
                        have HWQ := hide (Exists.intro _ hwq : ∃ q, wq = wr.drewN q)
                        clear hwq
                        go_wp2_with fail
                        go_quiet ((go_at_call 18; exact Calls.quiet_of (HT.out _ _ (by decide) (by decide) _)))
                        have hs1 := HJ2.out.2.2.2.2.2.2
                        rw [← hs1]
                        clear hs1
                        go_wp2_with fail
                        obtain ⟨wp, hwp⟩ : ∃ W, W = World.drewN wq (‹Nat› : Nat) := ⟨_, rfl⟩
                        rw [← hwp]
                        have c16 : wp.cell? ⟨wo.heap.size, j - 16, none⟩ = some (.int .u32 (x16.toNat : Int)) := by rw [hwp]; exact c16
                        have c7 : wp.cell? ⟨wo.heap.size, j - 7, none⟩ = some (.int .u32 (x7.toNat : Int)) := by rw [hwp]; exact c7
                        have hcj : wp.cell? ⟨wo.heap.size, j, none⟩ = some (.int .u32 0) := by rw [hwp]; exact hcj
                        have hfj : wp.frozen? ⟨wo.heap.size, j, none⟩ = false := by rw [hwp]; exact hfj
                        have HWP := hide (Exists.intro _ hwp : ∃ q, wp = wq.drewN q)
                        clear hwp
                        refine wp_still_tail_g 15 (by as_aux_lemma => kernel_rfl) (by as_aux_lemma => kernel_rfl) (by as_aux_lemma => kernel_rfl) fun w4 hw4 R hR => ?_
                        simp only [List.take_succ_cons, List.take_zero]
                        have p16 : w4.cell? ⟨wo.heap.size, j - 16, none⟩ = some (.int .u32 (x16.toNat : Int)) := by rw [hw4]; exact c16
                        have p7 : w4.cell? ⟨wo.heap.size, j - 7, none⟩ = some (.int .u32 (x7.toNat : Int)) := by rw [hw4]; exact c7
                        have pj : w4.cell? ⟨wo.heap.size, j, none⟩ = some (.int .u32 0) := by rw [hw4]; exact hcj
                        have pf : w4.frozen? ⟨wo.heap.size, j, none⟩ = false := by rw [hw4]; exact hfj
                        have hw5 := after_draws HWQ.out HWP.out (⟨1, hw4⟩ : ∃ q, w4 = wp.drewN q)
                        have HW := hide hw5
                        have HRR := hide hR
                        clear hR hw4 hw5 c16 c7 c15 c2 hcj hfj
                        repeat still_step
                        refine wpStill_nil ?_
                        refine HRR.out _ ?_
                        simp only [List.drop_succ_cons, List.drop_zero]
                        go_wp2_with fail
                        go_roundw
                        case rel =>
                          refine ⟨j + 1, by omega, by omega, by go_num, ?_, grown_new (HW.out.2 wo none HJ2.out.2.1) (Nat.le_refl _), ?_⟩
                          · rw [heap_setCell_same _ _ _ _ _ _ (by rw [HW.out.1]; exact HJ2.out.1), row_set, fill_set HJ2.out.2.2.2.1]
                          · rw [World.size_setCell, HW.out.1]; exact HJ2.out.2.2.1
                        case measure => simp [intOf]; omega
                    · have ej : j = 64 := by omega
                      subst ej
                      rw [fill_all (sch l 64) 64 (by rw [sch_length]; omega)] at hW
                      have hH : wr.heap[w.heap.size + 2]? = some (.cells (u32s h.l).toArray 47 (0, 0)) := by rw [hg.block _ (lt_of_block H.out.2.1.2.2.1) (by simp)]; exact H.out.2.1.2.2.1
                      have hK : wr.heap[w.heap.size + 1]? = some (.cells (u32s K).toArray 46 (0, 0)) := by rw [hg.block _ (lt_of_block H.out.2.1.2.1) (by simp)]; exact H.out.2.1.2.1
                      have k5 := heap_alloc_new wr (.cells z8 47)
                      obtain ⟨wv, hwv⟩ : ∃ wv, wv = (wr.alloc (.cells z8 47)).setRow (wo.heap.size + 1) (u32s h.l).toArray := ⟨_, rfl⟩
                      have v1 : wv.heap[wo.heap.size + 1]? = some (.cells (u32s h.l).toArray 47 (0, 0)) := by rw [hwv, ← hsz]; exact setRow_heap _ _ _ _ _ _ k5
                      have v2 : wv.heap[wo.heap.size]? = some (.cells (u32s (sch l 64)).toArray 46 (0, 0)) := by rw [hwv, setRow_other _ _ _ _ (by omega), Below.heap_alloc _ _ _ (by omega)]; exact hW
                      have v3 : wv.heap[w.heap.size + 1]? = some (.cells (u32s K).toArray 46 (0, 0)) := by
                        have := lt_of_block H.out.2.1.2.1
                        rw [hwv, setRow_other _ _ _ _ (by omega), Below.heap_alloc _ _ _ (by omega)]; exact hK
                      have v4 : wv.heap[w.heap.size + 2]? = some (.cells (u32s h.l).toArray 47 (0, 0)) := by
                        have := lt_of_block H.out.2.1.2.2.1
                        rw [hwv, setRow_other _ _ _ _ (by omega), Below.heap_alloc _ _ _ (by omega)]; exact hH
                      have v5 : wo.grownBy wv none := by rw [hwv]; exact grown_row (grown_more hg) (by omega)
                      rw [hsz] at k5
                      have HJ3 := hide (And.intro hH (And.intro hwv (And.intro k5 hsz)))
                      have HV := hide (And.intro v1 (And.intro v2 (And.intro v3 (And.intro v4 v5))))
                      clear hW hg hsz hj hH hK k5 hwv v1 v2 v3 v4 v5
                      go_wp2_with (first
                        | ((with_reducible show wpList _ _ _ ({ dst := _, op := .load 47 _, type := _, pos := _, after := _, guard := _ } :: _) _ _); refine wpList_load_row rfl 47 _ rfl (w.heap.size + 2) rfl _ (u32s h.l).toArray (0, 0) (.array 8 45) HJ3.out.1 Try.underlying47 rfl (by as_aux_lemma => kernel_rfl) ?_)
                        | ((with_reducible show wpList _ _ _ ({ dst := _, op := .store 47 _ _, type := _, pos := _, after := _, guard := _ } :: _) _ _); (try rw [HJ3.out.2.2.2]); refine wpList_store_rowTo rfl 47 _ _ rfl rfl (wo.heap.size + 1) (u32s h.l).toArray rfl rfl 47 _ HJ3.out.2.2.1 (by as_aux_lemma => kernel_rfl) rfl (u32s_one _) ?_; rw [← HJ3.out.2.1]))
                      go_loopw [15] (fun s15 wx => ∃ i : Nat, i ≤ 64 ∧ s15 = .int .i64 i ∧ wx.heap[wo.heap.size + 1]? = some (.cells (u32s (rounds K (sch l 64) h i).l).toArray 47 (0, 0)) ∧ wx.heap[wo.heap.size]? = some (.cells (u32s (sch l 64)).toArray 46 (0, 0)) ∧ wx.heap[w.heap.size + 1]? = some (.cells (u32s K).toArray 46 (0, 0)) ∧ wx.heap[w.heap.size + 2]? = some (.cells (u32s h.l).toArray 47 (0, 0)) ∧ wo.grownBy wx none)
                        (fun s15 _ => 64 - (intOf s15).toNat)
                      case atStart => exact ⟨0, by omega, rfl, HV.out.1, HV.out.2.1, HV.out.2.2.1, HV.out.2.2.2.1, HV.out.2.2.2.2⟩
                      case round =>
                        obtain ⟨j, hj, rfl, hV, hW, hK, hH, hg⟩ := hrel
                        by_cases hlt3 : (j : Int) < 64
                        · obtain ⟨V, hVV⟩ : ∃ V, V = rounds K (sch l 64) h j := ⟨_, rfl⟩
                          as_aux_lemma =>
                            rw [← hVV] at hV
                            obtain ⟨kj, hkj⟩ : ∃ x, K[j]? = some x := ⟨_, List.getElem?_eq_getElem (by rw [K_length]; omega)⟩
                            obtain ⟨wj, hwj⟩ : ∃ x, (sch l 64)[j]? = some x := ⟨_, List.getElem?_eq_getElem (by rw [sch_length]; omega)⟩
                            have c0 : wr.cell? ⟨wo.heap.size + 1, 0, none⟩ = some (.int .u32 (V.a.toNat : Int)) := by rw [cell_of_row _ _ _ _ _ _ hV]; rfl
                            have c1 : wr.cell? ⟨wo.heap.size + 1, 1, none⟩ = some (.int .u32 (V.b.toNat : Int)) := by rw [cell_of_row _ _ _ _ _ _ hV]; rfl
                            have c2 : wr.cell? ⟨wo.heap.size + 1, 2, none⟩ = some (.int .u32 (V.c.toNat : Int)) := by rw [cell_of_row _ _ _ _ _ _ hV]; rfl
                            have c3 : wr.cell? ⟨wo.heap.size + 1, 3, none⟩ = some (.int .u32 (V.d.toNat : Int)) := by rw [cell_of_row _ _ _ _ _ _ hV]; rfl
                            have c4 : wr.cell? ⟨wo.heap.size + 1, 4, none⟩ = some (.int .u32 (V.e.toNat : Int)) := by rw [cell_of_row _ _ _ _ _ _ hV]; rfl
                            have c5 : wr.cell? ⟨wo.heap.size + 1, 5, none⟩ = some (.int .u32 (V.f.toNat : Int)) := by rw [cell_of_row _ _ _ _ _ _ hV]; rfl
                            have c6 : wr.cell? ⟨wo.heap.size + 1, 6, none⟩ = some (.int .u32 (V.g.toNat : Int)) := by rw [cell_of_row _ _ _ _ _ _ hV]; rfl
                            have c7 : wr.cell? ⟨wo.heap.size + 1, 7, none⟩ = some (.int .u32 (V.h.toNat : Int)) := by rw [cell_of_row _ _ _ _ _ _ hV]; rfl
                            have ck : wr.cell? ⟨w.heap.size + 1, j, none⟩ = some (.int .u32 (kj.toNat : Int)) := by rw [cell_of_row _ _ _ _ _ _ hK, row_get hkj]
                            have cw : wr.cell? ⟨wo.heap.size, j, none⟩ = some (.int .u32 (wj.toNat : Int)) := by rw [cell_of_row _ _ _ _ _ _ hW, row_get hwj]
                            have r1 := rule_xo
                            have r2 := rule_ad
                            have r3 := rule_adw
                            have r4 := rule_an
                            have r5 := rule_no
                            have HT := hide turn_m
                            obtain ⟨T1, hT1⟩ : ∃ T1, T1 = ad (ad (ad (ad V.h (xo (xo (rotr V.e 6) (rotr V.e 11)) (rotr V.e 25))) (xo (an V.e V.f) (an (no V.e) V.g))) kj) wj := ⟨_, rfl⟩
                            obtain ⟨T2, hT2⟩ : ∃ T2, T2 = ad (xo (xo (rotr V.a 2) (rotr V.a 13)) (rotr V.a 22)) (xo (xo (an V.a V.b) (an V.a V.c)) (an V.b V.c)) := ⟨_, rfl⟩
                            have HX6 := hide (And.intro hV (And.intro hW (And.intro hK (And.intro hH (And.intro hg (And.intro hVV (And.intro hkj (And.intro hwj (And.intro hT1 hT2)))))))))
                            clear hV hW hK hH hg hVV hkj hwj hT1 hT2
                            go_wp2_with fail
                            go_quiet ((go_at_call 18; exact Calls.quiet_of (HT.out _ _ (by decide) (by decide) _)))
                            have hT1 := HX6.out.2.2.2.2.2.2.2.2.1
                            rw [← hT1]
                            clear hT1
                            obtain ⟨wq, hwq⟩ : ∃ W, W = World.drewN wr (‹Nat› : Nat) := ⟨_, rfl⟩
                            rw [← hwq]
                            have c0 : wq.cell? ⟨wo.heap.size + 1, 0, none⟩ = some (.int .u32 (V.a.toNat : Int)) := by rw [hwq]; exact c0
                            have c1 : wq.cell? ⟨wo.heap.size + 1, 1, none⟩ = some (.int .u32 (V.b.toNat : Int)) := by rw [hwq]; exact c1
                            have c2 : wq.cell? ⟨wo.heap.size + 1, 2, none⟩ = some (.int .u32 (V.c.toNat : Int)) := by rw [hwq]; exact c2
                            have c3 : wq.cell? ⟨wo.heap.size + 1, 3, none⟩ = some (.int .u32 (V.d.toNat : Int)) := by rw [hwq]; exact c3
                            have c4 : wq.cell? ⟨wo.heap.size + 1, 4, none⟩ = some (.int .u32 (V.e.toNat : Int)) := by rw [hwq]; exact c4
                            have c5 : wq.cell? ⟨wo.heap.size + 1, 5, none⟩ = some (.int .u32 (V.f.toNat : Int)) := by rw [hwq]; exact c5
                            have c6 : wq.cell? ⟨wo.heap.size + 1, 6, none⟩ = some (.int .u32 (V.g.toNat : Int)) := by rw [hwq]; exact c6
                            have c7 : wq.cell? ⟨wo.heap.size + 1, 7, none⟩ = some (.int .u32 (V.h.toNat : Int)) := by rw [hwq]; exact c7
                            have HWQ := hide (Exists.intro _ hwq : ∃ q, wq = wr.drewN q)
                            clear hwq
                            go_wp2_with fail
                            go_quiet ((go_at_call 18; exact Calls.quiet_of (HT.out _ _ (by decide) (by decide) _)))
                            have hT2 := HX6.out.2.2.2.2.2.2.2.2.2
                            rw [← hT2]
                            clear hT2
                            obtain ⟨wp, hwp⟩ : ∃ W, W = World.drewN wq (‹Nat› : Nat) := ⟨_, rfl⟩
                            rw [← hwp]
                            have c0 : wp.cell? ⟨wo.heap.size + 1, 0, none⟩ = some (.int .u32 (V.a.toNat : Int)) := by rw [hwp]; exact c0
                            have c1 : wp.cell? ⟨wo.heap.size + 1, 1, none⟩ = some (.int .u32 (V.b.toNat : Int)) := by rw [hwp]; exact c1
                            have c2 : wp.cell? ⟨wo.heap.size + 1, 2, none⟩ = some (.int .u32 (V.c.toNat : Int)) := by rw [hwp]; exact c2
                            have c3 : wp.cell? ⟨wo.heap.size + 1, 3, none⟩ = some (.int .u32 (V.d.toNat : Int)) := by rw [hwp]; exact c3
                            have c4 : wp.cell? ⟨wo.heap.size + 1, 4, none⟩ = some (.int .u32 (V.e.toNat : Int)) := by rw [hwp]; exact c4
                            have c5 : wp.cell? ⟨wo.heap.size + 1, 5, none⟩ = some (.int .u32 (V.f.toNat : Int)) := by rw [hwp]; exact c5
                            have c6 : wp.cell? ⟨wo.heap.size + 1, 6, none⟩ = some (.int .u32 (V.g.toNat : Int)) := by rw [hwp]; exact c6
                            have c7 : wp.cell? ⟨wo.heap.size + 1, 7, none⟩ = some (.int .u32 (V.h.toNat : Int)) := by rw [hwp]; exact c7
                            have hw5 := after_draws HWQ.out (⟨_, hwp⟩ : ∃ q, wp = wq.drewN q) (⟨0, rfl⟩ : ∃ q, wp = wp.drewN q)
                            have HW5 := hide hw5
                            have e5 : wp.heap[wo.heap.size + 1]? = some (.cells (u32s V.l).toArray 47 (0, 0)) := by rw [hw5.1]; exact HX6.out.1
                            have HE5 := hide e5
                            clear hwp e5 hw5
                            go_wp2_with (first
                              | ((with_reducible show wpList _ _ _ ({ dst := _, op := .build 47 _, type := _, pos := _, after := _, guard := _ } :: _) _ _); refine wpList_buildTo rfl 47 _ rfl (some 246) rfl (u32s [ad T1 T2, V.a, V.b, V.c, ad V.d T1, V.e, V.f, V.g]).toArray (by as_aux_lemma => kernel_rfl) ?_)
                              | ((with_reducible show wpList _ _ _ ({ dst := _, op := .store 47 _ _, type := _, pos := _, after := _, guard := _ } :: _) _ _); refine wpList_store_rowTo rfl 47 _ _ rfl rfl (wo.heap.size + 1) (u32s [ad T1 T2, V.a, V.b, V.c, ad V.d T1, V.e, V.f, V.g]).toArray rfl rfl 47 _ HE5.out (by as_aux_lemma => kernel_rfl) rfl (u32s_one _) ?_))
                            go_roundw
                            case rel =>
                              have hK5 := lt_of_block H.out.2.1.2.1
                              have hH5 := lt_of_block H.out.2.1.2.2.1
                              refine ⟨j + 1, by omega, by go_num, ?_, ?_, ?_, ?_, grown_row (HW5.out.2 wo none HX6.out.2.2.2.2.1) (by omega)⟩
                              · rw [setRow_heap _ _ _ _ _ _ HE5.out, rounds_next HX6.out.2.2.2.2.2.2.1 HX6.out.2.2.2.2.2.2.2.1, ← HX6.out.2.2.2.2.2.1, HX6.out.2.2.2.2.2.2.2.2.1, HX6.out.2.2.2.2.2.2.2.2.2]; rfl
                              · rw [setRow_other _ _ _ _ (by omega), HW5.out.1]; exact HX6.out.2.1
                              · rw [setRow_other _ _ _ _ (by omega), HW5.out.1]; exact HX6.out.2.2.1
                              · rw [setRow_other _ _ _ _ (by omega), HW5.out.1]; exact HX6.out.2.2.2.1
                            case measure => simp [intOf]; omega
                        · have ej : j = 64 := by omega
                          subst ej
                          obtain ⟨V, hVV⟩ : ∃ V, V = rounds K (sch l 64) h 64 := ⟨_, rfl⟩
                          rw [← hVV] at hV
                          have HX6 := hide (And.intro hV (And.intro hH (And.intro (grown_row_any (row := some (w.heap.size + 2)) hg) hVV)))
                          clear hV hW hK hH hg hVV hj
                          go_wp2_with fail
                          go_loopw [18] (fun s18 wx => ∃ i : Nat, i ≤ 8 ∧ s18 = .int .i64 i ∧ wx.heap[wo.heap.size + 1]? = some (.cells (u32s V.l).toArray 47 (0, 0)) ∧ wx.heap[w.heap.size + 2]? = some (.cells (u32s (mix (add8 h V).l h.l i)).toArray 47 (0, 0)) ∧ wo.grownBy wx (some (w.heap.size + 2)))
                            (fun s18 _ => 8 - (intOf s18).toNat)
                          case atStart => exact ⟨0, by omega, rfl, HX6.out.1, HX6.out.2.1, HX6.out.2.2.1⟩
                          case round =>
                            obtain ⟨j, hj, rfl, hV, hH, hg⟩ := hrel
                            by_cases hlt8 : (j : Int) < 8
                            · obtain ⟨x, hx⟩ : ∃ x, h.l[j]? = some x := ⟨_, List.getElem?_eq_getElem (by rw [V8.l_length]; omega)⟩
                              as_aux_lemma =>
                                obtain ⟨y, hy⟩ : ∃ y, V.l[j]? = some y := ⟨_, List.getElem?_eq_getElem (by rw [V8.l_length]; omega)⟩
                                have hxy := add8_get hx hy
                                have cx : wr.cell? ⟨w.heap.size + 2, j, none⟩ = some (.int .u32 (x.toNat : Int)) := by rw [cell_of_row _ _ _ _ _ _ hH, row_get (by rw [mix_get (a := (add8 h V).l) (b := h.l) rfl (by rw [V8.l_length]; omega)]; exact hx)]
                                have cy : wr.cell? ⟨wo.heap.size + 1, j, none⟩ = some (.int .u32 (y.toNat : Int)) := by rw [cell_of_row _ _ _ _ _ _ hV, row_get hy]
                                have fx : wr.frozen? ⟨w.heap.size + 2, j, none⟩ = false := frozen_of_row _ _ _ _ _ hH
                                have r2 := rule_ad
                                have r3 := rule_adw
                                have HX7 := hide (And.intro hV (And.intro hH (And.intro hg (And.intro hxy (And.intro hx hy)))))
                                clear hV hH hg hxy hx hy
                                go_wp2_with fail
                                refine wp_still_tail_g 9 (by as_aux_lemma => kernel_rfl) (by as_aux_lemma => kernel_rfl) (by as_aux_lemma => kernel_rfl) fun w4 hw4 R hR => ?_
                                simp only [List.take_succ_cons, List.take_zero]
                                have px : w4.cell? ⟨w.heap.size + 2, j, none⟩ = some (.int .u32 (x.toNat : Int)) := by rw [hw4]; exact cx
                                have py : w4.cell? ⟨wo.heap.size + 1, j, none⟩ = some (.int .u32 (y.toNat : Int)) := by rw [hw4]; exact cy
                                have pf : w4.frozen? ⟨w.heap.size + 2, j, none⟩ = false := by rw [hw4]; exact fx
                                have HW4 := hide hw4
                                have HRR := hide hR
                                clear hw4 cx cy fx hR
                                repeat still_step
                                refine wpStill_nil ?_
                                refine HRR.out _ ?_
                                simp only [List.drop_succ_cons, List.drop_zero]
                                go_wp2_with fail
                                go_roundw
                                case rel =>
                                  have hV5 := lt_of_block H.out.2.1.2.2.1
                                  refine ⟨j + 1, by omega, by go_num, ?_, ?_, grown_setCell (by rw [HW4.out]; exact grown_drewN HX7.out.2.2.1 1)⟩
                                  · rw [heap_setCell_other _ _ _ _ (by show wo.heap.size + 1 ≠ w.heap.size + 2; omega), HW4.out]; exact HX7.out.1
                                  · rw [heap_setCell_same _ _ _ _ _ _ (by rw [HW4.out]; exact HX7.out.2.1), row_set, mix_set (a := (add8 h V).l) (b := h.l) rfl HX7.out.2.2.2.1]
                                case measure => simp [intOf]; omega
                            · rw [mix_all (a := (add8 h V).l) (b := h.l) rfl (by rw [V8.l_length]; omega)] at hH
                              have heat : add8 h V = eatN (J + 1) H0 (pad t) := by
                                have h2 := H.out.2.2.2.1
                                have h3 := H.out.2.2.2.2.2.1
                                rw [eatN_add, ← H.out.2.2.1, ← h3, eatN_one, ← h2, HX6.out.2.2.2]
                                exact eatB_eq h l
                              have HX8 := hide (And.intro hH (And.intro hg heat))
                              clear hV hH hg heat
                              go_wp2_with fail
                              go_roundw
                              case rel =>
                                have hc := H.out.2.1
                                refine ⟨J + 1, T + 64, by have := H.out.2.2.2.2.2.1; omega, by omega, by go_num, H.out.1.kept HX8.out.2.1 (.inr (H.out.1.other hc.2.2.1 (by decide))), ?_, ?_, ?_, ?_, ?_⟩
                                · rw [HX8.out.2.1.block _ (lt_of_block hc.1) (by simp)]; exact hc.1
                                · rw [HX8.out.2.1.block _ (lt_of_block hc.2.1) (by simp)]; exact hc.2.1
                                · rw [← HX8.out.2.2]; exact HX8.out.1
                                · exact hc.2.2.2.1.grown HX8.out.2.1 hc.2.2.2.2 (by intro q hq; injection hq with hq; omega)
                                · exact Nat.le_trans hc.2.2.2.2 HX8.out.2.1.size
                              case measure => simp [intOf]; omega
            · have eT : T = L := by omega
              as_aux_lemma =>
                obtain ⟨V, hVV⟩ : ∃ V, V = eat H0 (pad t) := ⟨_, rfl⟩
                have hJ : eatN J H0 (pad t) = V := by
                  rw [hVV]
                  unfold eat
                  rw [hown.1, ← eT, hTj, show 64 * J / 64 = J from by omega]
                rw [hJ] at hctx
                have HX := hide (And.intro hctx hVV)
                clear hown hctx hVV hJ hTj
                go_wp2_with fail
                go_loopw [20] (fun s20 wx => ∃ i : Nat, i ≤ 8 ∧ s20 = .int .i64 i ∧ wx.heap[wo.heap.size]? = some (.cells (u8s (bfill (out V.l) (4 * i))).toArray 24 (0, 0)) ∧ wo.grownBy wx none)
                  (fun s20 _ => 8 - (intOf s20).toNat)
                case atStart => exact ⟨0, by omega, rfl, by rw [Nat.mul_zero, bfill_zero, out_length, V8.l_length]; exact heap_alloc_new wo _, World.grownBy_alloc _ _ _⟩
                case round =>
                  obtain ⟨i, hi, rfl, hG, hg⟩ := hrel
                  by_cases hi8 : (i : Int) < 8
                  · obtain ⟨x, hx⟩ : ∃ x, V.l[i]? = some x := ⟨_, List.getElem?_eq_getElem (by rw [V8.l_length]; omega)⟩
                    have HI := hide (And.intro hG (And.intro hg (And.intro hx hi)))
                    clear hG hg hx hi
                    go_wp2_with fail
                    go_loopw [21] (fun s21 wx => ∃ j : Nat, j ≤ 4 ∧ s21 = .int .i64 j ∧ wx.heap[wo.heap.size]? = some (.cells (u8s (bfill (out V.l) (4 * i + j))).toArray 24 (0, 0)) ∧ wo.grownBy wx none)
                      (fun s21 _ => 4 - (intOf s21).toNat)
                    case atStart => exact ⟨0, by omega, rfl, HI.out.1, HI.out.2.1⟩
                    case round =>
                      obtain ⟨j, hj, rfl, hG, hg⟩ := hrel
                      by_cases hj4 : (j : Int) < 4
                      · obtain ⟨y, hy⟩ : ∃ y, (four x)[j]? = some y := ⟨_, List.getElem?_eq_getElem (by show j < 4; omega)⟩
                        have hoy := (out_get HI.out.2.2.1 (by omega : j < 4)).trans hy
                        have hyv := four_val hy
                        obtain ⟨P, hP⟩ : ∃ P, P = 24 - 8 * j := ⟨_, rfl⟩
                        rw [← hP] at hyv
                        have a1 : IntKind.i64.wrap (4 * (i : Int)) = 4 * (i : Int) := IntWalk.i64_in _ (by omega)
                        have a2 : IntKind.i64.wrap (4 * (i : Int) + (j : Int)) = 4 * (i : Int) + (j : Int) := IntWalk.i64_in _ (by omega)
                        have a3 : IntKind.i64.wrap (8 * (j : Int)) = 8 * (j : Int) := IntWalk.i64_in _ (by omega)
                        have a4 : IntKind.i64.wrap (24 - 8 * (j : Int)) = 24 - 8 * (j : Int) := IntWalk.i64_in _ (by omega)
                        have a5 : ¬ (24 - 8 * (j : Int) < 0) := by omega
                        have a6 : ¬ (24 < 8 * (j : Int)) := by omega
                        have a7 : min (24 - 8 * (j : Int)).toNat 32 = P := by omega
                        have a8 : (4 * (i : Int) + (j : Int)).toNat = 4 * i + j := by omega
                        have a9 : (0 : Int) ≤ 4 * (i : Int) + (j : Int) := by omega
                        have a10 : 4 * (i : Int) + (j : Int) < 32 := by omega
                        have b1 : (x.toNat : Int) / 2 ^ P % 256 = (y.toNat : Int) := hyv
                        have b2 : IntKind.u8.wrap ((x.toNat : Int) / 2 ^ P) = (y.toNat : Int) := by rw [IntKind.wrap_u8]; exact hyv
                        have hH : wr.heap[w.heap.size + 2]? = some (.cells (u32s V.l).toArray 47 (0, 0)) := by rw [hg.block _ (lt_of_block HX.out.1.2.2.1) (by simp)]; exact HX.out.1.2.2.1
                        have ch : wr.cell? ⟨w.heap.size + 2, i, none⟩ = some (.int .u32 (x.toNat : Int)) := by rw [cell_of_row _ _ _ _ _ _ hH, row_get HI.out.2.2.1]
                        have hlt := (List.getElem?_eq_some_iff.1 hoy).1
                        have cg : ∃ u, wr.cell? ⟨wo.heap.size, 4 * i + j, none⟩ = some u := by
                          rw [cell_of_row _ _ _ _ _ _ hG]
                          exact ⟨_, Array.getElem?_eq_getElem (by rw [List.size_toArray, u8s_length, bfill_length]; exact hlt)⟩
                        obtain ⟨ug, cg⟩ := cg
                        have fg : wr.frozen? ⟨wo.heap.size, 4 * i + j, none⟩ = false := frozen_of_row _ _ _ _ _ hG
                        have HJ := hide (And.intro hG (And.intro hg (And.intro hoy (And.intro hj hP))))
                        clear hG hg hoy hj hP hyv hy hH hlt
                        go_wp2_with fail
                        go_roundw
                        case rel =>
                          refine ⟨j + 1, by omega, by go_num, ?_, grown_new HJ.out.2.1 (Nat.le_refl _)⟩
                          rw [heap_setCell_same _ _ _ _ _ _ HJ.out.1, List.setIfInBounds_toArray, ← Nat.add_assoc, ← bfill_set HJ.out.2.2.1]
                          unfold u8s
                          rw [List.map_set, ← HJ.out.2.2.2.2, b1]
                        case measure => simp [intOf]; omega
                      · have ej : j = 4 := by omega
                        subst ej
                        have HJ := hide (And.intro hG hg)
                        clear hG hg hj
                        go_wp2_with fail
                        go_roundw
                        case rel => exact ⟨i + 1, by omega, by go_num, HJ.out.1, HJ.out.2⟩
                        case measure => simp [intOf]; omega
                  · have ei : i = 8 := by omega
                    subst ei
                    rw [bfill_all _ (by rw [out_length, V8.l_length])] at hG
                    have hsum : out V.l = sum t := by rw [HX.out.2]; rfl
                    rw [hsum] at hG
                    obtain ⟨cs, hcs⟩ : ∃ cs, cs = (u8s (sum t)).toArray := ⟨_, rfl⟩
                    have hcc := key_cells (sum_length t)
                    rw [← hcs] at hG hcc
                    have hR0 : wr.heap[w.heap.size]? = some (.cells z32 24 (0, 0)) := by rw [hg.block _ (lt_of_block HX.out.1.1) (by simp)]; exact HX.out.1.1
                    have hbel : Below w.heap.size w wr := HX.out.1.2.2.2.1.grown hg HX.out.1.2.2.2.2 (fun q hq => by cases hq)
                    have HW := hide (And.intro hG (And.intro hR0 (And.intro hbel (And.intro hcc hcs))))
                    clear hG hg hR0 hbel hcc hcs hsum hi
                    go_wp2_with (first
                      | ((with_reducible show wpList _ _ _ ({ dst := _, op := .load 24 _, type := _, pos := _, after := _, guard := _ } :: _) _ _); refine wpList_load_row rfl 24 _ rfl wo.heap.size rfl _ cs (0, 0) (.array 32 5) HW.out.1 Try.underlying24 rfl (by rw [HW.out.2.2.2.1.1]; kernel_rfl) ?_)
                      | ((with_reducible show wpList _ _ _ ({ dst := _, op := .store 24 _ _, type := _, pos := _, after := _, guard := _ } :: _) _ _); refine wpList_store_row rfl 24 _ _ rfl w.heap.size cs rfl rfl _ _ HW.out.2.1 (by rw [HW.out.2.2.2.1.1]; kernel_rfl) (by rw [HW.out.2.2.2.1.1]; rfl) HW.out.2.2.2.1.2 ?_))
                    exact bodyPost_ret (v := .agg cs) (results_cell_row Try.results11 _ _ w.heap.size 24 cs (0, 0) (.array 32 5) rfl (setRow_heap _ _ _ _ _ _ HW.out.2.1) Try.underlying24 rfl (by rw [HW.out.2.2.2.1.1]; kernel_rfl)) rfl
                      ⟨by rw [HW.out.2.2.2.2], below_setRow HW.out.2.2.1 (Nat.le_refl _) _⟩
    · have ht1 : ((r : Int) != 56) = true := by
        have := zs_lt (t := t.length) (i := i) (by omega)
        simp; omega
      have hq9 : q + 1 ≤ 1000000000 := by have := HR.out.2.2; omega
      have HX := hide (And.intro (hown.alloc (.cells #[.int .u8 0] 5)) (And.intro (hctx.alloc (.cells #[.int .u8 0] 5)) (And.intro hi (And.intro hg (And.intro hq hq9)))))
      clear hown hctx hi hg hl hq hr hz hq9
      go_wp2_with ((with_reducible show wpList _ _ _ ({ dst := _, op := .call { callee := .builtin .append, args := #[_, _], argTypes := #[_, _] }, type := _, pos := _, after := _, guard := _ } :: _) _ _); refine wpList_append_b rfl rfl HX.out.1 (rb_one 0 _ rfl rfl _) HX.out.2.2.2.2.2 HX.out.2.1.2.2.2.2 ?_; intro A6 c6 w6 hown6 hg6; have H6 := hide (And.intro hown6 (HX.out.2.1.append HX.out.1 (Nat.le_refl _) hg6)); clear hown6 hg6)
      go_roundg (gk - 1)
      case measure => omega
      case rel =>
        have hi := HX.out.2.2.1
        have hg := HX.out.2.2.2.1
        have e : tail t (zs t.length - (gk - 1)) = tail t i ++ [0] := by rw [show zs t.length - (gk - 1) = i + 1 from by omega, tail_next]
        have el : (tail t i ++ [(0 : UInt8)]).length = q + 1 := by rw [List.length_append, ← HX.out.2.2.2.2.1]; rfl
        rw [e, el]
        exact ⟨A6, c6, by omega, rfl, H6.out.1, H6.out.2⟩
end Go.Proofs.Ytmeilpehlkpofaa
