/-
  The walk of the law FrameWrites.
-/
import Derived.Test.YtpglncaigmnjcaaTurnWalk2
namespace Go.Proofs.Ytpglncaigmnjcaa
open Go.RowKit

theorem run_append_rdg {P : Program} {w : World} {base : Nat} {t rt e : TypeId} {i : TypeInfo} {z : Value} {k bytes : Nat} (ht : P.underlying t = some (.slice e)) (hi : P.info? e = some i) (hz : i.zero = some z)
    (hsize : i.size = k) (hby : i.bytes = bytes) (hzs : z.cells.size = k) (hk : 0 < k)
    {A C : Option Addr} {n c m d B : Nat} {xs news : List Value} (hown : w.ownsRow base e k (.slice A n c) n xs) (hr : Rd w B k C m news) (h1 : ∀ u ∈ news, u.oneCell' = true)
    (h63 : n + m ≤ maxLen) (hbytes : (n + m) * bytes ≤ 140737488355328) (hbase : base ≤ w.heap.size) :
    ∃ A' c' w', (Builtin.append_ #[t, t] rt #[.slice A n c, .slice C m d]).run P w = .ok (.slice A' (n + m) c') w' ∧ w'.ownsRow base e k (.slice A' (n + m) c') (n + m) (xs ++ news) ∧ w.grownBy w' (Value.slice A n c).ownBlock := by
  rcases C with _ | ad
  · have hn := hr.none_len
    subst hn
    have hm : m = 0 := by
      have := hr.len
      rcases Nat.eq_zero_or_pos m with h | h
      · exact h
      · have := Nat.mul_pos h hk
        have h2 := hr.len
        simp at h2
        omega
    subst hm
    refine ⟨A, c, w, ?_, by simpa using hown, World.grownBy.refl w _⟩
    rcases hown.2 with ⟨hv, rfl⟩ | ⟨g, cap, cur, hv, _, hg, hnc, _⟩
    · cases hv
      simp [Builtin.append_, run_underlying ht, sizeOf, typeInfo, hi, Builtin.lenOf, Builtin.firstCells]
    · cases hv
      simp [Builtin.append_, run_underlying ht, sizeOf, typeInfo, hi, Builtin.lenOf, Builtin.firstCells, hnc, storeCells]
  · obtain ⟨v', w', hrun, h2, h3, _, _⟩ := run_append_own_at (P := P) w base t rt e i z k bytes ht hi hz hsize hby hzs hk _ n xs hown ad m d news hr.len hr.adds h1 h63 hbytes hbase
    rcases h2.2 with ⟨hv, h0⟩ | ⟨g, cap, cur, hv, _⟩
    · subst hv
      exact ⟨none, 0, w', by rw [hrun, h0], by rw [h0] at h2 ⊢; exact h2, h3⟩
    · subst hv
      exact ⟨some ⟨g, 0, none⟩, cap, w', hrun, h2, h3⟩
theorem wpList_append_u8g {ops : Array Oper} {rest : List Oper} {a : Act} {Q : Exit → Act → World → Prop} {w : World} {dst : Option Tmp} {ty : TypeId} {pos : String} {af : Array Edge} {s x : Operand} {base : Nat}
    {A C : Option Addr} {n c m d B : Nat} {xs : List Value} {l : List UInt8} (hs : a.eval s = .slice A n c) (hx : a.eval x = .slice C m d)
    (hown : w.ownsRow base 5 1 (.slice A n c) n xs) (hr : Rb w B C m l) (hl : n + m ≤ 1000000000) (hbase : base ≤ w.heap.size)
    (h : ∀ A' c' w', w'.ownsRow base 5 1 (.slice A' (n + m) c') (n + m) (xs ++ u8s l) → w.grownBy w' (Value.slice A n c).ownBlock → wpList Try.prog ops Q rest (a.put dst (.slice A' (n + m) c')) w') :
    wpList Try.prog ops Q ({ dst := dst, op := .call { callee := .builtin .append, args := #[s, x], argTypes := #[30, 30] }, type := ty, pos := pos, after := af, guard := none } :: rest) a w :=
  wpList_plain rfl fun _ hK => by
    obtain ⟨i0, hi, hz0, hz1, hz2⟩ := info_parts Try.infoU8
    obtain ⟨A', c', w', hrun, h2, h3⟩ := run_append_rdg (P := Try.prog) (rt := ty) (d := d) Try.underlying30 hi hz0 hz1 hz2 rfl (by decide) hown hr (u8s_one l) (by unfold maxLen; omega) (by omega) hbase
    unfold Oper.wp execOp
    simp only [resolve, invoke, builtin, Sem.run_bind, Sem.run_pure, Result.andThen_ok, List.map_toArray, List.map_cons, List.map_nil, hs, hx]
    rw [hrun]
    exact hK _ _ (h A' c' w' h2 h3)

set_option maxRecDepth 100000 in
set_option maxHeartbeats 800000 in
theorem framewrites_no {w : World} {B n : Nat} {A : Option Addr} {ps : List (List UInt8)} (c : Nat) (kind : Int) (hr : Rp w B A n ps) (hn : n ≤ maxLen) (hc : ¬ (n ≤ 50 ∧ (tot ps : Int) ≤ 9000)) :
    Calls Try.prog 5 #[.int .i64 kind, .slice A n c] w fun e w' => e = .returned (.bool true) ∧ Below w.heap.size w w' := by
  have H := hide (And.intro hr (And.intro hn hc))
  clear hr hn hc
  go_enter Try.func5, Try.ntmps5
  go_wp2_with fail
  refine (joined_no _ _ H.out.1 H.out.2.1 (by omega) (by omega) H.out.2.2).mono ?_
  rintro e w1 ⟨rfl, rfl⟩
  go_wp2_with fail
  refine (awake_any _).mono ?_
  rintro e w1 ⟨rfl, hb1⟩
  go_wp2_with fail
  refine (awake_any _).mono ?_
  rintro e w2 ⟨rfl, hb2⟩
  have H3 := hide (hb1.trans (hb2.mono hb1.size))
  clear hb1 hb2
  go_wp2_with fail
  go_ret
  exact ⟨rfl, H3.out⟩

set_option maxRecDepth 100000 in
set_option maxHeartbeats 800000 in
theorem framewrites_bad {w : World} {B n : Nat} {A : Option Addr} {ps : List (List UInt8)} (c : Nat) (kind : Int) (hr : Rp w B A n ps) (hB : B ≤ w.heap.size) (hc : n ≤ 50 ∧ (tot ps : Int) ≤ 9000) (hbad : kind < 1 ∨ 9 < kind ∨ 8192 < tot ps) :
    Calls Try.prog 5 #[.int .i64 kind, .slice A n c] w fun e w' => e = .returned (.bool true) ∧ Below w.heap.size w w' := by
  have H := hide (And.intro hr (And.intro hB hc))
  have hll : ps.flatten.length ≤ 1000000 := by unfold tot at hc; omega
  have HB := hide hbad
  have HL := hide hll
  clear hr hB hc hbad hll
  go_enter Try.func5, Try.ntmps5
  go_wp2_with fail
  refine (joined_yes _ _ H.out.1 H.out.2.2.1 (by omega) H.out.2.2.2).mono ?_
  rintro e w1 ⟨rfl, rfl⟩
  go_wp2_with fail
  refine (awake_any _).mono ?_
  rintro e w1 ⟨rfl, hb1⟩
  have hs1 := hb1.size
  have hr1 := (H.out.1.more H.out.2.1).below hb1
  have hnil := Rb.nil' w1 0 none
  have H1 := hide (And.intro hr1 hb1)
  clear hr1 hb1 hs1
  go_wp2_with fail
  by_cases hk : kind < 1 ∨ 9 < kind
  · refine (encode_range _ _ hk).mono ?_
    rintro e w2 ⟨rfl, rfl⟩
    go_wp2_with fail
    refine (refencode_range _ _ hk).mono ?_
    rintro e w2 ⟨rfl, rfl⟩
    clear hk
    go_wp2_with ((with_reducible show wpList _ _ _ ({ dst := _, op := .convert 30 9 _, type := _, pos := _, after := _, guard := _ } :: _) _ _); refine wpList_bytes_string_g Try.underlying30 Try.underlying5 Try.underlying9 rfl rfl hnil ?_)
    go_ret
    exact ⟨rfl, H1.out.2⟩
  · have hk1 : ¬ kind < 1 := by omega
    have hk9 : ¬ 9 < kind := by omega
    have ht : 8192 < tot ps := by have := HB.out; omega
    refine (encode_long _ _ (by omega) (by omega) H1.out.1 (by have := H.out.2.2.1; unfold maxLen; omega) ht).mono ?_
    rintro e w2 ⟨rfl, rfl⟩
    have HK := hide (And.intro hk1 (And.intro hk9 ht))
    clear hk hk1 hk9 ht
    go_wp2_with fail
    refine (refencode_long _ _ (by have := HK.out; omega) (by have := HK.out; omega) (by have := HK.out.2.2; unfold tot at this; exact this) HL.out).mono ?_
    rintro e w2 ⟨rfl, rfl⟩
    go_wp2_with ((with_reducible show wpList _ _ _ ({ dst := _, op := .convert 30 9 _, type := _, pos := _, after := _, guard := _ } :: _) _ _); refine wpList_bytes_string_g Try.underlying30 Try.underlying5 Try.underlying9 rfl rfl hnil ?_)
    go_ret
    exact ⟨rfl, H1.out.2⟩

set_option maxRecDepth 100000 in
set_option maxHeartbeats 1600000 in
theorem framewrites_ok {w : World} {B n : Nat} {A : Option Addr} {ps : List (List UInt8)} (c : Nat) (kind : Nat) (hr : Rp w B A n ps) (hB : B ≤ w.heap.size) (hc : n ≤ 50 ∧ (tot ps : Int) ≤ 9000) (hk1 : 1 ≤ kind) (hk9 : kind ≤ 9) (ht : tot ps ≤ 8192) :
    Calls Try.prog 5 #[.int .i64 (kind : Int), .slice A n c] w fun e w' => e = .returned (.bool true) ∧ Below w.heap.size w w' := by
  have H := hide (And.intro hr (And.intro hB hc))
  have hll : ps.flatten.length ≤ 8192 := ht
  have HL := hide (And.intro hll (And.intro hk1 hk9))
  clear hr hB hc hll hk1 hk9 ht
  go_enter Try.func5, Try.ntmps5
  go_wp2_with fail
  refine (joined_yes _ _ H.out.1 H.out.2.2.1 (by omega) H.out.2.2.2).mono ?_
  rintro e w1 ⟨rfl, rfl⟩
  go_wp2_with fail
  refine (awake_any _).mono ?_
  rintro e w1 ⟨rfl, hb1⟩
  have hr1 := (H.out.1.more H.out.2.1).below hb1
  have H1 := hide (And.intro hr1 (And.intro hb1 hb1.size))
  clear hr1 hb1
  go_wp2_with fail
  refine (encode_ok c kind HL.out.2.1 HL.out.2.2 H1.out.1 H1.out.2.2 (by have := H.out.2.2.1; unfold maxLen; omega) HL.out.1).mono ?_
  rintro e w2 ⟨Bv, cb, rfl, hown2, hb2⟩
  have hcap := owns_cap hown2
  obtain ⟨m, hm⟩ : ∃ m, m = tot ps := ⟨_, rfl⟩
  obtain ⟨l, hl⟩ : ∃ l, l = ps.flatten := ⟨_, rfl⟩
  have hlm : l.length = m := by rw [hl, hm]; rfl
  rw [← hm, ← hl] at hown2
  rw [← hm] at hcap
  rw [← hm, ← hl]
  rw [← hl] at HL
  have hb2w := H1.out.2.1.trans (hb2.mono H1.out.2.2)
  have hrb2 := Rb.of_own hown2
  have H2 := hide (And.intro hrb2 (And.intro hb2w (And.intro hcap (And.intro hlm hb2w.size))))
  have hmi : (m : Int) ≤ 8192 := by have := HL.out.1; omega
  clear H1 hown2 hb2 hcap hm hl hlm hb2w hrb2 H
  go_wp2_with fail
  refine (refencode_ok l kind HL.out.2.1 HL.out.2.2 HL.out.1).mono ?_
  rintro e w3 ⟨rfl, hb3⟩
  have hrb3 := (H2.out.1.below hb3).more hb3.size
  have hb3w := H2.out.2.1.trans (hb3.mono H2.out.2.2.2.2)
  have H3 := hide (And.intro hrb3 (And.intro hb3w (And.intro H2.out.2.2.1 (And.intro H2.out.2.2.2.1 hb3w.size))))
  have hEB : Rb w3 w3.heap.size Bv (m + 9) (enc kind l) := hrb3
  clear hb3 hrb3 hb3w H2
  go_wp2_with ((with_reducible show wpList _ _ _ ({ dst := _, op := .convert 30 9 _, type := _, pos := _, after := _, guard := _ } :: _) _ _); refine wpList_bytes_string_g Try.underlying30 Try.underlying5 Try.underlying9 rfl rfl (by assumption) ?_)
  refine (decode_list cb (dec_enc kind l HL.out.2.1 HL.out.2.2 HL.out.1) H3.out.1 (Nat.le_refl _) H3.out.2.2.1.1 (by unfold maxLen; omega)).mono ?_
  rintro e w4 ⟨P, cP, rfl, hown4, hb4⟩
  rw [H3.out.2.2.2.1] at hown4 ⊢
  obtain ⟨F, hF⟩ : ∃ F, F = w4.heap.size := ⟨_, rfl⟩
  have hpay := (Rb.of_own hown4).alloc (Nat.le_refl _) (.cells #[.int .i64 (kind : Int), .slice P m cP] 40)
  have hblk : (w4.alloc (.cells #[.int .i64 (kind : Int), .slice P m cP] 40)).heap[F]? = some (.cells #[.int .i64 (kind : Int), .slice P m cP] 40 (0, 0)) := by rw [hF]; exact heap_alloc_new w4 _
  have hPF : ∀ g, (Value.slice P m cP).ownBlock = some g → g < F := fun g hg => by rw [hF]; exact (hown4.lt g hg).2
  have h35 : Below w3.heap.size w3 (w4.alloc (.cells #[.int .i64 (kind : Int), .slice P m cP] 40)) := hb4.alloc hb4.size _
  have hFl : w3.heap.size ≤ F := by rw [hF]; exact hb4.size
  have H5 := hide (And.intro (hown4.alloc (.cells #[.int .i64 (kind : Int), .slice P m cP] 40)) (And.intro hblk (And.intro h35 (And.intro hPF hFl))))
  have hF0 := hF
  clear hown4 hb4 hblk h35 hPF hEB hFl
  go_wp2_with ((with_reducible show wpList _ _ _ ({ dst := _, op := .convert 30 9 _, type := _, pos := _, after := _, guard := _ } :: _) _ _); refine wpList_bytes_string_g Try.underlying30 Try.underlying5 Try.underlying9 rfl rfl hpay ?_)
  rw [← hF]
  obtain ⟨W5, hW5⟩ : ∃ W, W = w4.alloc (.cells #[.int .i64 (kind : Int), .slice P m cP] 40) := ⟨_, rfl⟩
  rw [← hW5] at H5 ⊢
  clear hW5 hF hF0 hpay
  go_loopw [13, 72] (fun _ i wr => ∃ (k : Nat) (l' : List UInt8), k ≤ m ∧ i = .int .i64 k ∧ wr.ownsRow w3.heap.size 5 1 (.slice P m cP) m (u8s l') ∧ wr.heap[F]? = some (.cells #[.int .i64 (kind : Int), .slice P m cP] 40 (0, 0)) ∧ Below w3.heap.size w3 wr) (fun _ i _ => m - (intOf i).toNat)
  case atStart => exact ⟨0, l, Nat.zero_le _, rfl, H5.out.1, H5.out.2.1, H5.out.2.2.1⟩
  case round =>
    obtain ⟨k, l', hk, rfl, hown, hblk, hbel⟩ := hrel
    have hc1 : wr.cell? ⟨F, 1, none⟩ = some (.slice P m cP) := by rw [cell_of_row _ _ _ _ _ _ hblk]; rfl
    by_cases hlt : k < m
    · obtain ⟨g, cap, hv, hg, hgl⟩ := hown.form (by omega)
      cases hv
      have hgF := H5.out.2.2.2.1 g rfl
      obtain ⟨x, hx⟩ : ∃ x, l'[k]? = some x := ⟨_, List.getElem?_eq_getElem (by have := (Rb.of_own hown).len; omega)⟩
      have hcx : wr.cell? ⟨g, k, none⟩ = some (.int .u8 (x.toNat : Int)) := by
        rw [hown.cellAt _ (by omega)]
        unfold u8s
        rw [List.getElem?_map, hx]; rfl
      have hfx := hown.frozenAt k
      have hki : (k : Int) < (m : Int) := by omega
      have hst := fun u => hown.stored k u
      have hset : ∀ y : UInt8, (u8s l').set k (.int .u8 (y.toNat : Int)) = u8s (l'.set k y) := fun y => by unfold u8s; rw [List.map_set]
      obtain ⟨y, hy1⟩ : ∃ y : UInt8, ((x.toNat : Int) + 1) % 256 = (y.toNat : Int) := ⟨UInt8.ofNat (((x.toNat : Int) + 1) % 256).toNat, by simp; omega⟩
      have hy2 : IntKind.u8.wrap ((x.toNat : Int) + 1) = (y.toNat : Int) := by rw [IntKind.wrap_u8]; exact hy1
      have HR := hide (And.intro hst (And.intro hset (And.intro hblk (And.intro hbel (And.intro hg hgF)))))
      clear hst hset hblk hbel hg hgF hown hx hgl
      go_wp2
      go_roundw
      case rel =>
        obtain ⟨h1, h2⟩ := HR.out.1 (.int .u8 (y.toNat : Int))
        rw [HR.out.2.1 y] at h1
        refine ⟨k + 1, l'.set k y, by omega, by go_num, h1, ?_, HR.out.2.2.2.1.setCell HR.out.2.2.2.2.1 _⟩
        rw [Below.heap_setCell _ _ _ _ (by have := HR.out.2.2.2.2.2; show F ≠ g; omega)]
        exact HR.out.2.2.1
      case measure => simp [intOf]; omega
    · have hrd : Rb (wr.alloc (.cells #[.int .u8 1] 5)) (wr.heap.size + 1) (some ⟨wr.heap.size, 0, none⟩) 1 [1] := Rb.lit wr [1] 5 (0, 0)
      have hFs : F < wr.heap.size := by
        rcases Nat.lt_or_ge F wr.heap.size with h | h
        · exact h
        · rw [Array.getElem?_eq_none h] at hblk; cases hblk
      have HO := hide (And.intro (hown.alloc (.cells #[.int .u8 1] 5)) (And.intro hrd (And.intro hblk (And.intro hbel hFs))))
      have hki : ¬ (k : Int) < (m : Int) := by omega
      clear hown hblk hbel hrd hFs hlt hk
      go_wp2_with (first
        | ((with_reducible show wpList _ _ _ ({ dst := _, op := .call { callee := .builtin .append, args := #[_, _], argTypes := #[30, 30] }, type := _, pos := _, after := _, guard := _ } :: _) _ _); refine wpList_append_u8g rfl rfl HO.out.1 HO.out.2.1 (by omega) (by have := HO.out.2.2.2.1.size; simp; omega) ?_; intro P2 c2 w6 hown6 hg6; have hb6 := hg6.block F (by simp; have := HO.out.2.2.2.2; omega) (fun e => by have := H5.out.2.2.2.1 F e.symm; omega); rw [Below.heap_alloc _ _ _ HO.out.2.2.2.2, HO.out.2.2.1] at hb6; have z1 := cell_of_row w6 F 1 _ _ _ hb6; have f1 := frozen_of_row w6 F 1 _ _ hb6; have hbw6 : Below w3.heap.size w3 (w6.setCell ⟨F, 1, none⟩ (.slice P2 (m + 1) c2)) := (((HO.out.2.2.2.1.alloc HO.out.2.2.2.1.size _).grown hg6 (by have := HO.out.2.2.2.1.size; simp; omega) (fun q hq => (HO.out.1.lt q hq).1)).setCell H5.out.2.2.2.2 _); have HB6 := hide hbw6; have hEB := H3.out.1.below hbw6; clear hown6 hg6 hb6 hbw6)
        | ((with_reducible show wpList _ _ _ ({ dst := _, op := .convert 30 9 _, type := _, pos := _, after := _, guard := _ } :: _) _ _); refine wpList_bytes_string_g Try.underlying30 Try.underlying5 Try.underlying9 rfl rfl (by assumption) ?_))
      go_ret
      exact ⟨rfl, H3.out.2.1.trans (Below.mono (by assumption : Hid _).out H3.out.2.2.2.2)⟩
end Go.Proofs.Ytpglncaigmnjcaa
