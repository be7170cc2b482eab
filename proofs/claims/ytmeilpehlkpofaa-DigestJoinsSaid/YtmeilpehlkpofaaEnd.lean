/-
  The walk of the digest's end.
-/
import Derived.Test.YtmeilpehlkpofaaTake
import Derived.Laws.CopyOwn
import Derived.Deep.RegionLaw
namespace Go.Proofs.Ytmeilpehlkpofaa
open Go.RowKit
open sha

/-- The bytes, 0x80 and i bytes 0. -/
def tail (t : List UInt8) (i : Nat) : List UInt8 := t ++ [0x80] ++ List.replicate i 0
theorem tail_length (t : List UInt8) (i : Nat) : (tail t i).length = t.length + 1 + i := by simp [tail]; omega
theorem tail_next (t : List UInt8) (i : Nat) : tail t i ++ [0] = tail t (i + 1) := by
  simp [tail, List.replicate_succ']
theorem zs_lt {t i : Nat} (h : i < zs t) : (t + 1 + i) % 64 ≠ 56 := by unfold zs at h; omega
theorem zs_at (t : Nat) : (t + 1 + zs t) % 64 = 56 := by unfold zs; omega
theorem be64_length (n : Nat) : (be64 n).length = 8 := rfl
theorem pad_eat (t : List UInt8) : eat H0 (pad t) = eatB (eat H0 (tail t (zs t.length))) (rest (tail t (zs t.length)) ++ be64 (8 * t.length)) := by
  have hl : (rest (tail t (zs t.length)) ++ be64 (8 * t.length)).length = 64 := by
    rw [List.length_append, rest_length, tail_length, zs_at, be64_length]
  have e : pad t = tail t (zs t.length) ++ be64 (8 * t.length) := rfl
  rw [e, ← eat_more, eat_block _ _ (by omega), List.take_of_length_le (by omega), List.drop_eq_nil_of_le (by omega), eat_short _ _ (by simp)]
theorem zs_le (n : Nat) : zs n < 64 := by unfold zs; omega
theorem small {n z i g : Nat} (h : n ≤ 999999000) (hz : z < 64) (hi : i = z - g) : n + 1 + i + 1 ≤ 1000000000 := by omega
theorem be64_take (n : Nat) : (be64 n).take 8 = be64 n := rfl
theorem be64_get (n : Nat) {j : Nat} (hj : j < 8) : (be64 n)[j]? = some (UInt8.ofNat (n / 2 ^ (56 - 8 * j) % 256)) := by
  match j, hj with
  | 0, _ => rfl
  | 1, _ => rfl
  | 2, _ => rfl
  | 3, _ => rfl
  | 4, _ => rfl
  | 5, _ => rfl
  | 6, _ => rfl
  | 7, _ => rfl
/-- append onto own bytes, as a step of a region that draws its order. -/
theorem step_append_b {ops : Array Oper} {o : Oper} {a : Act} {w : World} {Kt : Act → World → Prop} {Q : Exit → Act → World → Prop} {E : Prop} (hgd : o.guard = none) (s x : Operand)
    (ho : o.op = .call { callee := .builtin .append, args := #[s, x], argTypes := #[22, 22] }) {base : Nat}
    {A C : Option Addr} {n c m d B : Nat} {l l2 : List UInt8} (hs : a.eval s = .slice A n c) (hx : a.eval x = .slice C m d)
    (hown : OwnB w base (.slice A n c) n l) (hr : Rb w B C m l2) (hl : n + m ≤ 1000000000) (hbase : base ≤ w.heap.size)
    (h : ∀ A' c' w', OwnB w' base (.slice A' (n + m) c') (n + m) (l ++ l2) → w.grownBy w' (Value.slice A n c).ownBlock → Kt (a.put o.dst (.slice A' (n + m) c')) w') :
    if Region.wanted o (yielded ops a.tmps) = true then Oper.wp Try.prog o a w Kt Q else E := by
  have hw : Region.wanted o (yielded ops a.tmps) = true := by simp [Region.wanted, hgd]
  rw [if_pos hw]
  obtain ⟨A', c', w', hrun, h2, h3⟩ := run_append_b (rt := o.type) (d := d) hown hr hl hbase
  unfold Oper.wp
  simp only [execOp, ho, resolve, invoke, builtin, Sem.run_bind, Sem.run_pure, Result.andThen_ok, List.map_toArray, List.map_cons, List.map_nil, hs, hx]
  rw [hrun]
  exact h A' c' w' h2 h3
def z32 : Array Value := (u8s (List.replicate 32 0)).toArray
theorem rb_one {W : World} {B : Nat} (x : UInt8) (u : Value) (hu : u = .int .u8 (x.toNat : Int)) (hB : W.heap.size = B) (T : TypeId) : Rb (W.alloc (.cells #[u] T)) (B + 1) (some ⟨B, 0, none⟩) 1 [x] := by
  subst hu hB
  exact Rd.one W _ T
theorem Try.infoU32 : (Try.prog.info? 45).map (fun i => (i.zero, i.size, i.bytes)) = some (some (.int .u32 0), 1, 4) := by kernel_rfl
theorem run_index_w (w : World) {cs : Array Value} {j : Nat} {u : Value} (hj : (j : Int) < 8) (hu : cs[j]? = some u) : (Instr.index 47 (.agg cs) (.int .i64 (j : Int))).run Try.prog w = .ok u w := by
  obtain ⟨i, hi, _, hsize, _⟩ := info_parts Try.infoU32
  have hj' : j < 8 := by omega
  simp [Instr.index, run_underlying Try.underlying47, run_underlying Try.underlying45, asIntOf, part, isAgg, sizeOf, typeInfo, hi, hsize, hj', hu]
def b8 (x : W32) : UInt8 := UInt8.ofNat (x.toNat % 256)
theorem b8_int (x : W32) : (x.toNat : Int) % 256 = ((b8 x).toNat : Int) := by
  have : x.toNat % 256 < 256 := Nat.mod_lt _ (by decide)
  rw [b8, UInt8.toNat_ofNat', Nat.mod_eq_of_lt (by simpa using this)]
  simp
theorem b8_wrap (x : W32) : IntKind.u8.wrap (x.toNat : Int) = ((b8 x).toNat : Int) := by rw [IntKind.wrap_u8]; exact b8_int x
def four (x : W32) : List UInt8 := [b8 (sr 24 x), b8 (sr 16 x), b8 (sr 8 x), b8 x]
theorem out_snoc (l : List W32) (x : W32) : out (l ++ [x]) = out l ++ four x := by
  unfold out; rw [List.flatMap_append]; rfl
theorem out_length (l : List W32) : (out l).length = 4 * l.length := by
  induction l with
  | nil => rfl
  | cons x l ih =>
    have : out (x :: l) = four x ++ out l := rfl
    rw [this, List.length_append, ih]
    show 4 + _ = _
    rw [List.length_cons]; omega
def kb (l : List W32) (j : Nat) : List UInt8 := out (l.take j) ++ List.replicate (32 - 4 * j) 0
theorem kb_splice {l : List W32} {j : Nat} {x : W32} (hl : l.length = 8) (hx : l[j]? = some x) : splice (u8s (kb l j)) (4 * j) (u8s (four x)) = u8s (kb l (j + 1)) := by
  have hj : j < 8 := by rw [← hl]; exact (List.getElem?_eq_some_iff.1 hx).1
  have ho : (out (l.take j)).length = 4 * j := by rw [out_length, List.length_take]; omega
  unfold splice
  rw [u8s_length, u8s_take, u8s_drop, ← u8s_append, ← u8s_append]
  congr 1
  unfold kb
  rw [take_snoc hx, out_snoc, List.take_append_of_le_length (by omega), List.take_of_length_le (by omega), List.drop_append, List.drop_eq_nil_of_le (by rw [ho]; omega), ho, List.nil_append, List.drop_replicate, List.append_assoc]
  congr 3
  show 32 - 4 * j - (4 * j + 4 - 4 * j) = _
  omega
theorem kb_length {l : List W32} {j : Nat} (hl : l.length = 8) (hj : j ≤ 8) : (kb l j).length = 32 := by
  unfold kb; rw [List.length_append, out_length, List.length_take, List.length_replicate]; omega
theorem kb_all {l : List W32} {j : Nat} (hl : l.length = 8) (hj : j = 8) : kb l j = out l := by
  subst hj; unfold kb; rw [List.take_of_length_le (by omega)]; simp
set_option maxRecDepth 100000 in
set_option maxHeartbeats 1600000 in
theorem end_any {w : World} {S base : Nat} {t : List UInt8} (hH : Holds w S base t.length (eat H0 t) (rest t)) (hbS : base ≤ S) (ht : t.length ≤ 999999000) :
    Calls Try.prog 21 #[.pointer (some ⟨S, 0, none⟩)] w fun e w' => e = .returned (.agg (u8s (sum t)).toArray) ∧ Below base w w' := by
  have hSl := hH.lt
  have hH1 := hH.grown (World.grownBy_alloc w (.cells z32 25) none)
  have hz : ∀ w : World, (zeroValue 25).run Try.prog w = .ok (.agg z32) w := fun w => by kernel_rfl
  have c73 : w.cell? ⟨S, 73, none⟩ = some (.int .u64 (t.length : Int)) := hH.cN
  have i1 : IntKind.u64.wrap (8 * (t.length : Int)) = 8 * (t.length : Int) := by rw [IntKind.wrap_u64]; omega
  have hb1 : Below base w (w.alloc (.cells z32 25)) := (Below.refl _ _).alloc (by omega) _
  have hR1 : (w.alloc (.cells z32 25)).heap[w.heap.size]? = some (.cells z32 25 (0, 0)) := heap_alloc_new w _
  have HB := hide hbS
  have HT := hide ht
  have H1 := hide (And.intro hH1 (And.intro hb1 hR1))
  clear hH hH1 hb1 hR1 hbS ht
  go_enter Try.func21, Try.ntmps21
  go_wp2_with fail
  refine (take_h 1 (H1.out.1.grown (World.grownBy_alloc _ _ none)) (rb_one 0x80 _ rfl (by simp) _) HB.out (by have := HT.out; omega) (by rw [rest_length]; omega)).mono ?_
  rintro e w2 ⟨rfl, hH2, hb2, ho2⟩
  have hR2 : w2.heap[w.heap.size]? = some (.cells z32 25 (0, 0)) := ho2 _ _ _ _ (by rw [Below.heap_alloc _ _ _ (by simp)]; exact H1.out.2.2) (by decide) (by omega)
  have hb2 := (H1.out.2.1.trans ((Below.refl base _).alloc (by have := HB.out; simp; omega) _)).trans hb2
  rw [eat_more, rest_more] at hH2
  have H2 := hide (And.intro hH2 (And.intro hb2 hR2))
  clear hH2 hb2 ho2 hR2 H1 c73
  go_wp2_with fail
  go_loopg [] (zs t.length) (fun g wr => g ≤ zs t.length ∧ Holds wr S base (t.length + 1 + (zs t.length - g)) (eat H0 (tail t (zs t.length - g))) (rest (tail t (zs t.length - g))) ∧ Below base w wr ∧ wr.heap[w.heap.size]? = some (.cells z32 25 (0, 0)))
  case atStart =>
    refine ⟨Nat.le_refl _, ?_, H2.out.2.1, H2.out.2.2⟩
    rw [Nat.sub_self]
    have := H2.out.1
    simpa [tail] using this
  case round =>
    obtain ⟨hg, hH, hb, hR⟩ := hrel
    obtain ⟨i, hi⟩ : ∃ i, i = zs t.length - gk := ⟨_, rfl⟩
    rw [← hi] at hH
    obtain ⟨A, c, c72, f72, hS, hown⟩ := hH.cL
    have hrl := rest_length (tail t i)
    rw [tail_length] at hrl
    rcases Nat.eq_zero_or_pos gk with h0 | h0
    · have ht1 : (((rest (tail t i)).length : Int) != 56) = false := by
        have := zs_at t.length
        have : i = zs t.length := by omega
        subst this
        simp; omega
      have hti : tail t i = tail t (zs t.length) := by rw [show i = zs t.length from by omega]
      obtain ⟨N', hN'⟩ : ∃ N', N' = t.length + 1 + i := ⟨_, rfl⟩
      rw [hti, ← hN'] at hH
      rw [hti] at hrl ht1 c72
      have hrl : (rest (tail t (zs t.length))).length = 56 := by rw [hrl, show i = zs t.length from by omega]; exact zs_at _
      have HR := hide (And.intro hH (And.intro hb (And.intro hR hrl)))
      obtain ⟨n, hn⟩ : ∃ n, n = (rest (tail t (zs t.length))).length := ⟨_, rfl⟩
      rw [← hn] at c72 ht1
      clear hn
      clear hH hb hR hi hg hrl hS hown hti hN' H2 h0
      go_wp2_with fail
      go_loopw [4] (fun s4 wx => ∃ j : Nat, j ≤ 8 ∧ s4 = .int .i64 (56 - 8 * (j : Int)) ∧ Holds wx S base N' (eat H0 (tail t (zs t.length))) (rest (tail t (zs t.length)) ++ (be64 (8 * t.length)).take j) ∧ Below base w wx ∧ wx.heap[w.heap.size]? = some (.cells z32 25 (0, 0)))
        (fun s4 _ => (intOf s4 + 8).toNat)
      case atStart => exact ⟨0, by omega, rfl, by simpa using HR.out.1, HR.out.2.1, HR.out.2.2.1⟩
      case round =>
        obtain ⟨j, hj, rfl, hH, hb, hR⟩ := hrel
        by_cases hlt : (0 : Int) ≤ 56 - 8 * (j : Int)
        · obtain ⟨A3, c3, c72, f72, hS, hown⟩ := hH.cL
          obtain ⟨n3, hn3⟩ : ∃ n3, n3 = (rest (tail t (zs t.length)) ++ (be64 (8 * t.length)).take j).length := ⟨_, rfl⟩
          rw [← hn3] at c72 hS hown
          obtain ⟨p, hp⟩ : ∃ p : Int, p = 56 - 8 * (j : Int) := ⟨_, rfl⟩
          rw [← hp] at hlt ⊢
          have j1 : ¬ (p < 0) := by omega
          have j2 : IntKind.i64.wrap (p - 8) = p - 8 := IntWalk.i64_in _ (by omega)
          obtain ⟨P, hP⟩ : ∃ P, P = 56 - 8 * j := ⟨_, rfl⟩
          have j3 : min p.toNat 64 = P := by omega
          obtain ⟨x, hx⟩ : ∃ x, x = UInt8.ofNat (8 * t.length / 2 ^ P % 256) := ⟨_, rfl⟩
          have hbe := be64_get (8 * t.length) (j := j) (by omega)
          rw [← hP, ← hx] at hbe
          have hxn : (8 * (t.length : Int) / 2 ^ P) % 256 = (x.toNat : Int) := by
            rw [hx, UInt8.toNat_ofNat']
            have : 8 * t.length / 2 ^ P % 256 < 256 := Nat.mod_lt _ (by decide)
            rw [Nat.mod_eq_of_lt (by simpa using this)]
            simp
          have j4 : (8 * (t.length : Int) / 2 ^ P) % 256 = (x.toNat : Int) := hxn
          have j5 : IntKind.u8.wrap (8 * (t.length : Int) / 2 ^ P) = (x.toNat : Int) := by rw [IntKind.wrap_u8]; exact hxn
          have hown5 := hown.kept (grown_more (o := .cells #[.int .u8 (x.toNat : Int)] 5) (World.grownBy.refl wr none)) (by
            cases hv : (Value.slice A3 n3 c3).ownBlock with
            | none => exact .inl rfl
            | some k => exact .inr (by simp))
          have HX := hide (And.intro hH (And.intro hb (And.intro hR (And.intro hS (And.intro hown (And.intro hp (And.intro hj (And.intro hn3 (And.intro hbe hown5)))))))))
          clear hH hb hR hS hown hp hj hn3 hbe hown5 hx hP hxn
          have hl3 : n3 + 1 ≤ 1000000000 := by
            have h1 := HX.out.2.2.2.2.2.2.2.1
            have h2 := HR.out.2.2.2
            rw [List.length_append, List.length_take, h2, be64_length] at h1
            omega
          have H5 := hide (And.intro (HX.out.2.2.2.2.2.2.2.2.2 : OwnB ((wr.alloc (.cells #[.int .u8 (x.toNat : Int)] 5)).drew) base (.slice A3 n3 c3) n3 _) (And.intro hl3 (And.intro (by
            show (wr.alloc (.cells #[.int .u8 (x.toNat : Int)] 5)).heap[S]? = _
            rw [Below.heap_alloc _ _ _ (lt_of_block HX.out.2.2.2.1)]; exact HX.out.2.2.2.1 :
            ((wr.alloc (.cells #[.int .u8 (x.toNat : Int)] 5)).drew).heap[S]? = some (.cells (stz (eat H0 (tail t (zs t.length))).l K (.slice A3 n3 c3) N') 58 (0, 0)))
            (by have := HB.out; have := lt_of_block HX.out.2.2.2.1; show base ≤ (wr.alloc (.cells #[.int .u8 (x.toNat : Int)] 5)).heap.size; simp; omega : base ≤ ((wr.alloc (.cells #[.int .u8 (x.toNat : Int)] 5)).drew).heap.size))))
          clear hl3
          have c72a : (wr.alloc (.cells #[.int .u8 (x.toNat : Int)] 5)).cell? ⟨S, 72, none⟩ = some (.slice A3 n3 c3) := by rw [World.cell?_alloc_lt _ _ _ (World.block_lt_of_cell? wr ⟨S, 72, none⟩ c72)]; exact c72
          go_wp2_with fail
          go_region_law ((refine step_append_b (by rfl) (.tmp 33) (.tmp 38) (by rfl) (by rfl) (by rfl) (by exact H5.out.1) (Rb.drew (rb_one x _ rfl rfl _)) H5.out.2.1 (by exact H5.out.2.2.2) ?_; intro A6 c6 w6 hown6 hg6; have ST6 := state_after H5.out.2.2.1 (H5.out.1.other H5.out.2.2.1 (by decide)) hg6; have c72 := ST6.1; have f72 := ST6.2.1; have H6 := hide (And.intro hown6 (And.intro hg6 ST6.2.2)); clear ST6 hown6 hg6))
          all_goals
            go_wp2_with fail
            have hot : Others wr (w6.setCell ⟨S, 72, none⟩ (.slice A6 (n3 + 1) c6)) S :=
              ((show Others wr (wr.alloc (.cells #[.int .u8 (x.toNat : Int)] 5)).drew S from Others.of_new (grown_drewN (World.grownBy_alloc wr _ none) 1)).trans (Others.of_append H5.out.1 H6.out.2.1)).trans (Others.set w6 S 72 _)
            refine ⟨⟨j + 1, by have := HX.out.2.2.2.2.2.1; omega, congrArg (Value.int .i64) (by have := HX.out.2.2.2.2.2.1; omega), ⟨A6, n3 + 1, c6, ?_, ?_⟩, ?_, hot _ _ _ _ HX.out.2.2.1 (by decide) (by omega)⟩, by simp [intOf]; omega⟩
            · rw [heap_setCell_same _ _ _ _ _ _ H6.out.2.2, stz_setV (V8.l_length _) K_length]
            · rw [take_snoc HX.out.2.2.2.2.2.2.2.2.1, ← List.append_assoc]
              exact H6.out.1.setCell H6.out.2.2 (by decide)
            · exact (((HX.out.2.1.alloc (by have := HB.out; have := lt_of_block HX.out.2.2.2.1; omega) _).drew).grown H6.out.2.1 H5.out.2.2.2 (fun q hq => (H5.out.1.lt q hq).1)).setCell HB.out _
        · obtain ⟨A3, c3, c72, f72, hS, hown⟩ := hH.cL
          have ej : j = 8 := by omega
          obtain ⟨p, hp⟩ : ∃ p : Int, p = 56 - 8 * (j : Int) := ⟨_, rfl⟩
          rw [← hp] at hlt ⊢
          clear hp
          subst ej
          rw [be64_take] at c72 hS hown
          have hl64 : (rest (tail t (zs t.length)) ++ be64 (8 * t.length)).length = 64 := by rw [List.length_append, HR.out.2.2.2, be64_length]
          rw [hl64] at c72 hS hown
          obtain ⟨g, o, rfl⟩ := hown.addr (by omega)
          have hcap := hown.cap
          have hHX := hide (And.intro hS (And.intro hown (And.intro hb (And.intro hR hcap))))
          clear hH hb hR hS hown hcap hl64 hj HR
          go_wp2_with fail
          refine (block_any c3 hHX.out.1 hHX.out.2.1.rb (Nat.le_refl _) hHX.out.2.2.2.2.1).mono ?_
          rintro e w7 ⟨rfl, hS7, hg7⟩
          rw [← pad_eat] at hS7
          have hb7 := hHX.out.2.2.1.trans (below_grown hg7 HB.out (lt_of_block hHX.out.1))
          have hR7 := (Others.of_grown hg7) _ _ _ _ hHX.out.2.2.2.1 (by decide) (by omega)
          have hr7 : w7.rangeAt S 0 (u32s (eat H0 (pad t)).l) := fun i u hu => by
            rw [Nat.zero_add, cell_of_row _ _ _ _ _ _ hS7]
            simp only [stz, List.getElem?_toArray]
            rw [List.append_assoc, List.getElem?_append_left (List.getElem?_eq_some_iff.1 hu).1]
            exact hu
          obtain ⟨V, hV⟩ : ∃ V, V = eat H0 (pad t) := ⟨_, rfl⟩
          rw [← hV] at hr7
          have H7 := hide (And.intro hb7 (And.intro hR7 (And.intro hV (by
            have hr8 : (w7.alloc (.cells z32 25)).rangeAt S 0 (u32s V.l) := fun i u hu => by
              have := hr7 i u hu
              rw [World.cell?_alloc_lt _ _ _ (World.block_lt_of_cell? w7 _ this)]
              exact this
            exact hr8 : (w7.alloc (.cells z32 25)).rangeAt S 0 (u32s V.l)))))
          clear hb7 hR7 hV hr7 hS7 hg7 c72 f72
          go_wp2_with ((with_reducible show wpList _ _ _ ({ dst := _, op := .load 47 _, type := _, pos := _, after := _, guard := _ } :: _) _ _); refine wpList_load_mid rfl 47 _ rfl S 0 rfl (u32s V.l) (.array 8 45) H7.out.2.2.2 Try.underlying47 rfl (by kernel_rfl) ?_)
          clear hz
          go_loopw [52] (fun i wr => ∃ j : Nat, j ≤ 8 ∧ i = .int .i64 j ∧ wr.heap[w7.heap.size]? = some (.cells (u8s (kb V.l j)).toArray 25 (0, 0)) ∧ Below w7.heap.size w7 wr)
            (fun i _ => 8 - (intOf i).toNat)
          case atStart => exact ⟨0, by omega, rfl, heap_alloc_new w7 _, (Below.refl _ _).alloc (Nat.le_refl _) _⟩
          case round =>
            obtain ⟨j, hj, rfl, hK, hb⟩ := hrel
            by_cases hlt : (j : Int) < 8
            · obtain ⟨x, hx⟩ : ∃ x, V.l[j]? = some x := ⟨_, List.getElem?_eq_getElem (by rw [V8.l_length]; omega)⟩
              have hidx : ∀ w, (Instr.index 47 (.agg (u32s V.l).toArray) (.int .i64 (j : Int))).run Try.prog w = .ok (.int .u32 (x.toNat : Int)) w := fun w => run_index_w w hlt (row_get hx)
              have i4 : IntKind.i64.wrap (4 * (j : Int)) = 4 * (j : Int) := IntWalk.i64_in _ (by omega)
              have i5 : ¬ (32 = 4 * j) := by omega
              have i6 : (0 : Int) ≤ 4 * (j : Int) := by omega
              have i7 : 4 * (j : Int) ≤ 32 := by omega
              have i8 : (4 * (j : Int)).toNat = 4 * j := by omega
              have q1 : ∀ x : W32, (x.toNat : Int) / 16777216 = ((sr 24 x).toNat : Int) := rule_sr 24
              have q2 : ∀ x : W32, (x.toNat : Int) / 65536 = ((sr 16 x).toNat : Int) := rule_sr 16
              have q3 : ∀ x : W32, (x.toNat : Int) / 256 = ((sr 8 x).toNat : Int) := rule_sr 8
              have q4 := b8_int
              have q5 := b8_wrap
              have HX := hide (And.intro hK (And.intro hb (And.intro hx hj)))
              clear hK hb hx hj
              have hK1 : (wr.alloc (.cells (u8s (four x)).toArray 5)).heap[w7.heap.size]? = some (.cells (u8s (kb V.l j)).toArray 25 (0, 0)) := by
                rw [Below.heap_alloc _ _ _ (lt_of_block HX.out.1)]; exact HX.out.1
              have HX1 := hide (And.intro hK1 (And.intro (HX.out.2.1.alloc HX.out.2.1.size _ : Below w7.heap.size w7 (wr.alloc (.cells (u8s (four x)).toArray 5))) (World.news_of_block (heap_alloc_new wr (.cells (u8s (four x)).toArray 5)))))
              clear hK1
              go_wp2_with ((with_reducible show wpList _ _ _ ({ dst := _, op := .call { callee := .builtin .copy, args := #[_, _], argTypes := #[_, _] }, type := _, pos := _, after := _, guard := _ } :: _) _ _); refine wpList_copy_splice rfl _ _ _ _ rfl 5 Try.underlying22 (by kernel_rfl) _ _ _ _ _ _ rfl rfl w7.heap.size (4 * j) (u8s (kb V.l j)) 25 HX1.out.1 (u8s (four x)) ?c2 ?c3 ?c4 (u8s_one _) w7.heap.size w7 HX1.out.2.1 (Nat.le_refl _) ?_; (case c2 => (show 4 = min 4 (32 - 4 * j); omega)); (case c3 => exact (fun _ => ⟨rfl, _, rfl, HX1.out.2.2⟩)); (case c4 => (rw [u8s_length, u8s_length, kb_length (V8.l_length V) (by omega)]; show 4 * j + 4 ≤ 32; omega)); intro w9 hk9 hb9; have HB9 := hide hb9; clear hb9)
              go_roundw
              case rel => exact ⟨j + 1, by omega, by go_num, by rw [hk9.out, kb_splice (V8.l_length V) HX.out.2.2.1], HB9.out⟩
              case measure => simp [intOf]; omega
            · have ej : j = 8 := by omega
              have hK2 : wr.heap[w7.heap.size]? = some (.cells (u8s (out V.l)).toArray 25 (0, 0)) := by rw [hK, kb_all (V8.l_length V) ej]
              have hR2 : wr.heap[w.heap.size]? = some (.cells z32 25 (0, 0)) := by rw [hb.block _ (lt_of_block H7.out.2.1)]; exact H7.out.2.1
              have hl32 : (u8s (out V.l)).toArray.size = 32 := by rw [List.size_toArray, u8s_length, out_length]; rfl
              have hsum : out V.l = sum t := by rw [H7.out.2.2.1]; rfl
              rw [hsum] at hK2 hl32
              obtain ⟨cs, hcs⟩ : ∃ cs, cs = (u8s (sum t)).toArray := ⟨_, rfl⟩
              have h1 : cs.all (·.oneCell') = true := by
                rw [hcs, Array.all_eq_true_iff_forall_mem]
                intro u hu
                exact u8s_one _ u (by simpa using hu)
              rw [← hcs] at hK2 hl32
              have HE := hide (And.intro hK2 (And.intro hR2 (And.intro hl32 (And.intro h1 ((H7.out.1).trans (hb.mono (by have := HB.out; have := lt_of_block hHX.out.1; have := H7.out.1.size; omega)))))))
              have HC := hide hcs
              clear hK hb hK2 hR2 hl32 h1 hsum hcs
              go_wp2_with (first
                | ((with_reducible show wpList _ _ _ ({ dst := _, op := .load 25 _, type := _, pos := _, after := _, guard := _ } :: _) _ _); refine wpList_load_row rfl 25 _ rfl _ rfl _ cs (0, 0) (.array 32 5) HE.out.1 Try.underlying25 rfl (by rw [HE.out.2.2.1]; kernel_rfl) ?_)
                | ((with_reducible show wpList _ _ _ ({ dst := _, op := .store 25 _ _, type := _, pos := _, after := _, guard := _ } :: _) _ _); refine wpList_store_row rfl 25 _ _ rfl _ cs rfl rfl _ _ HE.out.2.1 (by rw [HE.out.2.2.1]; kernel_rfl) (by rw [HE.out.2.2.1]; rfl) HE.out.2.2.2.1 ?_))
              exact bodyPost_ret (v := .agg cs) (results_cell_row Try.results21 _ _ w.heap.size 25 cs (0, 0) (.array 32 5) rfl (setRow_heap _ _ _ _ _ _ HE.out.2.1) Try.underlying25 rfl (by rw [HE.out.2.2.1]; kernel_rfl)) rfl
                ⟨by rw [HC.out], below_setRow HE.out.2.2.2.2 (by have := HB.out; omega) _⟩
    · have ht1 : (((rest (tail t i)).length : Int) != 56) = true := by
        have := zs_lt (t := t.length) (i := i) (by omega)
        simp; omega
      have HR := hide (And.intro hH (And.intro hb (And.intro hR (And.intro hi (And.intro hg hrl)))))
      clear hH hb hR hi hg hrl hS hown
      obtain ⟨n, hn⟩ : ∃ n, n = (rest (tail t i)).length := ⟨_, rfl⟩
      rw [← hn] at c72 ht1
      clear hn
      go_wp2_with fail
      refine (take_h 1 (HR.out.1.grown (World.grownBy_alloc _ _ none)) (rb_one 0 _ rfl rfl _) HB.out (small HT.out (zs_le _) HR.out.2.2.2.1) (by rw [rest_length]; omega)).mono ?_
      rintro e w4 ⟨rfl, hH4, hb4, ho4⟩
      rw [eat_more, rest_more, tail_next] at hH4
      have hR4 : w4.heap[w.heap.size]? = some (.cells z32 25 (0, 0)) := ho4 _ _ _ _ (by rw [Below.heap_alloc _ _ _ (lt_of_block HR.out.2.2.1)]; exact HR.out.2.2.1) (by decide) (by omega)
      have hb4 := (HR.out.2.1.alloc (by have := HB.out; have := HR.out.1.lt; omega) _).trans hb4
      have H4 := hide (And.intro hH4 (And.intro hb4 hR4))
      clear hH4 hb4 hR4 ho4
      go_wp2_with fail
      go_roundg (gk - 1)
      case measure => omega
      case rel =>
        have hi := HR.out.2.2.2.1
        have hg := HR.out.2.2.2.2.1
        refine ⟨by omega, ?_, H4.out.2.1, H4.out.2.2⟩
        rw [show zs t.length - (gk - 1) = i + 1 from by omega]
        exact H4.out.1
end Go.Proofs.Ytmeilpehlkpofaa
