/-
  The walks of the reference's lexer, the fourth part: Encode, escape, text.
-/
import Derived.Test.YtlpmnnkijdbopaaGreatDoorLexC
import Derived.Deep.QuietTactic
namespace Go.Proofs.YtlpmnnkijdbopaaGreatDoor
open Go.RowKit Go.Maps

theorem rb_ints (w : World) (xs : List Int) (t : TypeId) (f : Nat × Nat) (h : ∀ x ∈ xs, 0 ≤ x ∧ x ≤ 255) : ∃ l : Bs, l.length = xs.length ∧ Rb (w.alloc (.cells (xs.map (Value.int .u8)).toArray t f)) (w.heap.size + 1) (some ⟨w.heap.size, 0, none⟩) xs.length l := by
  refine ⟨xs.map fun x => UInt8.ofNat x.toNat, by simp, ?_⟩
  have e : u8s (xs.map fun x => UInt8.ofNat x.toNat) = xs.map (Value.int .u8) := by
    unfold u8s
    rw [List.map_map]
    refine List.map_congr_left fun x hx => ?_
    have := h x hx
    show Value.int .u8 ((UInt8.ofNat x.toNat).toNat : Int) = _
    rw [UInt8.toNat_ofNat', Nat.mod_eq_of_lt (by omega)]
    congr 1
    omega
  unfold Rb
  rw [e]
  refine ⟨by simp, fun j u hu => ⟨w.heap.size, 0, rfl, by omega, ?_⟩⟩
  rw [Nat.zero_add]
  unfold World.cell?
  rw [heap_alloc_new]
  simp only
  rw [← hu]
  simp
theorem wpList_bytes_ints {ops : Array Oper} {rest : List Oper} {a : Act} {Q : Exit → Act → World → Prop} {w W : World} {dst : Option Tmp} {ty : TypeId} {pos : String} {af : Array Edge} {x : Operand} {s d e t : TypeId} {f : Nat × Nat} {n c : Nat} (xs : List Int)
    (hs : Tryz.prog.underlying s = some (.slice e)) (he : Tryz.prog.underlying e = some (.int .u8)) (hd : Tryz.prog.underlying d = some .string) (hw : w = W.alloc (.cells (xs.map (Value.int .u8)).toArray t f)) (hx : a.eval x = .slice (some ⟨W.heap.size, 0, none⟩) n c) (hn : n = xs.length) (hb : ∀ x ∈ xs, 0 ≤ x ∧ x ≤ 255)
    (h : ∀ l : Bs, l.length = xs.length → wpList Tryz.prog ops Q rest (a.put dst (.string ⟨l.toArray⟩)) w) :
    wpList Tryz.prog ops Q ({ dst := dst, op := .convert s d x, type := ty, pos := pos, after := af, guard := none } :: rest) a w := by
  obtain ⟨l, hl, hr⟩ := rb_ints W xs t f hb
  rw [← hw, ← hn] at hr
  exact wpList_bytes_string hs he hd hx hr (h l hl)
/-- two texts, one behind the other -/
theorem wpList_catB {P : Program} {ops : Array Oper} {rest : List Oper} {a : Act} {Q : Exit → Act → World → Prop} {w : World} {dst : Option Tmp} {ty t t2 : TypeId} {pos : String} {af : Array Edge} {x y : Operand} {b c : ByteArray}
    (hx : a.eval x = .string b) (hy : a.eval y = .string c) (hl : b.size + c.size ≤ 9223372036854775807) (h : wpList P ops Q rest (a.put dst (.string (b ++ c))) w) :
    wpList P ops Q ({ dst := dst, op := .binOp .add t x y t2, type := ty, pos := pos, after := af, guard := none } :: rest) a w :=
  wpList_plain rfl fun _ hK => by
    have hrun : (binOp .add t (.string b) (.string c)).run P w = .ok (.string (b ++ c)) w := run_string_add_sum w b c hl
    unfold Oper.wp execOp
    simp only [hx, hy, eqGuard_add, Sem.run_bind, Sem.run_pure, hrun, Result.andThen_ok]
    exact hK _ _ h
theorem extract_le (b : ByteArray) (i j : Nat) : (b.extract i j).size ≤ j - i := by
  rw [ByteArray.size_extract]
  omega
def TxPost (m : Nat) (w : World) (e : Ending) (w' : World) : Prop := ∃ b : ByteArray, e = .returned (.string b) ∧ b.size ≤ m ∧ Below w.heap.size w w'
set_option maxHeartbeats 800000 in
theorem encode_any (r : Int) (w : World) (h0 : 0 ≤ r) (h1 : r ≤ 65535) : Calls Tryz.prog 130 #[.int .i64 r] w (TxPost 4 w) := by
  by_cases q1 : r < 128
  · go_enter Tryz.func130, Tryz.ntmps130
    go_wp2_with ((with_reducible show wpList _ _ _ ({ dst := _, op := .convert 152 9 _, type := _, pos := _, after := _, guard := _ } :: _) _ _); refine wpList_bytes_ints [_] Tryz.underlying152 Tryz.underlying5 Tryz.underlying9 rfl rfl rfl ?_ ?_)
    · first | (simp; omega) | omega
    · intro l hl
      go_wp2
      go_ret
      exact ⟨_, rfl, by show l.toArray.size ≤ 4; simp [hl], (Below.refl _ _).alloc (Nat.le_refl _) _⟩
  · by_cases q2 : r < 2048
    · go_enter Tryz.func130, Tryz.ntmps130
      go_wp2_with ((with_reducible show wpList _ _ _ ({ dst := _, op := .convert 152 9 _, type := _, pos := _, after := _, guard := _ } :: _) _ _); refine wpList_bytes_ints [_, _] Tryz.underlying152 Tryz.underlying5 Tryz.underlying9 rfl rfl rfl ?_ ?_)
      · first | (simp; omega) | omega
      · intro l hl
        go_wp2
        go_ret
        exact ⟨_, rfl, by show l.toArray.size ≤ 4; simp [hl], (Below.refl _ _).alloc (Nat.le_refl _) _⟩
    · go_enter Tryz.func130, Tryz.ntmps130
      go_wp2_with ((with_reducible show wpList _ _ _ ({ dst := _, op := .convert 152 9 _, type := _, pos := _, after := _, guard := _ } :: _) _ _); refine wpList_bytes_ints [_, _, _] Tryz.underlying152 Tryz.underlying5 Tryz.underlying9 rfl rfl rfl ?_ ?_)
      · first | (simp; omega) | omega
      · intro l hl
        go_wp2
        go_ret
        exact ⟨_, rfl, by show l.toArray.size ≤ 4; simp [hl], (Below.refl _ _).alloc (Nat.le_refl _) _⟩
theorem hexm_any (w : World) : Calls Tryz.prog 129 #[.int .i64 (-1)] w fun e w' => e = .returned (.int .i64 (-1)) ∧ w = w' := by
  go_enter Tryz.func129, Tryz.ntmps129
  go_wp2
  go_ret
  exact ⟨rfl, rfl⟩
abbrev FROM : ByteArray := ⟨#[34, 92, 47, 98, 102, 110, 114, 116]⟩
theorem run_from : ∀ {n : Nat}, n < 8 → ∃ x : Int, (∀ w, (Instr.index 9 (.string FROM) (.int .i64 (n : Int))).run Tryz.prog w = .ok (.int .u8 x) w) ∧ 0 ≤ x ∧ x ≤ 255
  | 0, _ => ⟨34, fun w => by kernel_rfl, by decide, by decide⟩
  | 1, _ => ⟨92, fun w => by kernel_rfl, by decide, by decide⟩
  | 2, _ => ⟨47, fun w => by kernel_rfl, by decide, by decide⟩
  | 3, _ => ⟨98, fun w => by kernel_rfl, by decide, by decide⟩
  | 4, _ => ⟨102, fun w => by kernel_rfl, by decide, by decide⟩
  | 5, _ => ⟨110, fun w => by kernel_rfl, by decide, by decide⟩
  | 6, _ => ⟨114, fun w => by kernel_rfl, by decide, by decide⟩
  | 7, _ => ⟨116, fun w => by kernel_rfl, by decide, by decide⟩
  | n + 8, h => by omega
def EscPost (s : Bs) (k : Int) (w : World) (e : Ending) (w' : World) : Prop := ∃ (b : ByteArray) (n : Int), e = .returned (.tuple #[.string b, .int .i64 n]) ∧ b.size ≤ 4 ∧ 0 ≤ n ∧ (n = 0 ∨ 2 ≤ n ∧ k + n ≤ s.length) ∧ Below w.heap.size w w'
theorem below_drewN {w wr : World} (h : Below w.heap.size w wr) (n : Nat) : Below w.heap.size w (wr.drewN n) := ⟨h.os, h.tape, h.output, h.size, h.block⟩
/-- at most so much, behind so many digits -/
def HexB (m : Nat) (x : Int) : Prop := 0 ≤ x ∧ (m = 2 → x = 0) ∧ (m = 3 → x ≤ 15) ∧ (m = 4 → x ≤ 255) ∧ (m = 5 → x ≤ 4095) ∧ x ≤ 65535
set_option maxRecDepth 20000 in
set_option maxHeartbeats 3200000 in
theorem escape_any (s : Bs) (k : Int) (w : World) (h0 : 0 ≤ k) (hk : k < s.length) (hs : s.length ≤ 100000) : Calls Tryz.prog 123 #[tx s, .int .i64 k] w (EscPost s k w) := by
  have i1 : (s.length : Int) ≤ 100000 := by omega
  have HS := hide (And.intro hs (show s.length ≤ maxLen by unfold maxLen; omega))
  obtain ⟨v, hv⟩ : ∃ v, v = oneV s (k + 1) := ⟨_, rfl⟩
  have vb := oneV_b s (k + 1)
  rw [← hv] at vb
  obtain ⟨vb1, vb2⟩ := vb
  have C := hide (And.intro (fun w => by have := one_any s (k + 1) w (by omega) HS.out.2; rw [← hv] at this; exact this.mono fun e w' h => ⟨h.1, h.2.symm⟩ : ∀ w, Calls Tryz.prog 119 #[tx s, .int .i64 (k + 1)] w fun e w' => e = .returned (.int .i64 v) ∧ w' = w) (fun h => by have := oneV_lt (s := s) (k := k + 1) (by omega); omega : 0 ≤ v → k + 2 ≤ s.length))
  clear hv hs
  go_enter Tryz.func123, Tryz.ntmps123
  go_wp2
  go_loopw [8] (fun i wr => Below w.heap.size w wr ∧ ∃ m : Nat, m ≤ 8 ∧ i = .int .i64 m) (fun i _ => 8 - (intOf i).toNat)
  case atStart => exact ⟨Below.refl _ _, 0, by omega, rfl⟩
  case round =>
    obtain ⟨hbel, m, hm, rfl⟩ := hrel
    have HB := hide hbel
    clear hbel
    by_cases hlt : (m : Int) < 8
    · obtain ⟨x, hidx, hx0, hx1⟩ := run_from (n := m) (by omega)
      have wk : IntKind.i64.wrap (k + 1) = k + 1 := IntWalk.i64_in _ (by omega)
      have wx : IntKind.i64.wrap x = x := IntWalk.i64_in _ (by omega)
      by_cases hvx : v = x
      · have hb : (v == x) = true := by simp [hvx]
        have hn : 0 ≤ v := by omega
        have HE := hide (C.out.2 hn)
        clear hvx hn
        go_wp2_with fail
        go_quiet ((go_at_call 119; exact Calls.quiet_of_same (C.out.1 _)))
        go_wp2
        go_ret2
        exact ⟨_, 2, rfl, by have := extract_le ⟨#[34, 92, 47, 8, 12, 10, 13, 9]⟩ m (m + 1); omega, by omega, .inr ⟨by omega, HE.out⟩, below_drewN HB.out _⟩
      · have hb : (v == x) = false := by simpa using hvx
        clear hvx
        go_wp2_with fail
        go_quiet ((go_at_call 119; exact Calls.quiet_of_same (C.out.1 _)))
        go_wp2
        go_roundw
        case rel => exact ⟨below_drewN HB.out _, m + 1, by omega, by go_num⟩
        case measure => simp [intOf]; omega
    · by_cases hv : v = 117
      · have hb : (v != 117) = false := by simp [hv]
        have HE := hide (C.out.2 (by omega))
        clear hv
        go_wp2_with (with_reducible refine (C.out.1 _).mono ?_; rintro e w' ⟨rfl, rfl⟩)
        go_loopw [9, 10] (fun r i wr => ∃ (m : Nat) (x : Int), 2 ≤ m ∧ m ≤ 6 ∧ i = .int .i64 m ∧ r = .int .i64 x ∧ Hid (HexB m x) ∧ Hid (k + m ≤ s.length ∧ Below w.heap.size w wr)) (fun _ i _ => 6 - (intOf i).toNat)
        case atStart => exact ⟨2, 0, by omega, by omega, rfl, rfl, hide ⟨by omega, fun _ => rfl, fun _ => by omega, fun _ => by omega, fun _ => by omega, by omega⟩, hide ⟨HE.out, HB.out⟩⟩
        case round =>
          obtain ⟨j, x, hj2, hj6, rfl, rfl, HX, HK⟩ := hrel
          have hx0 := HX.out.1
          by_cases hlt6 : (j : Int) < 6
          · have hx1 : x ≤ 4095 := by obtain ⟨_, a, b, c, d, _⟩ := HX.out; omega
            obtain ⟨y, hy⟩ : ∃ y, y = oneV s (k + j) := ⟨_, rfl⟩
            have cy := one_any s (k + j) wr (by omega) HS.out.2
            have yb := oneV_b s (k + j)
            rw [← hy] at cy yb
            obtain ⟨yb1, yb2⟩ := yb
            have CY := hide (And.intro cy (fun h => by have := oneV_lt (s := s) (k := k + j) (by omega); omega : 0 ≤ y → k + j + 1 ≤ s.length))
            clear cy hy
            have K1 := HK.out.1
            by_cases hyn : y < 0
            · have hym : y = -1 := by omega
              subst hym
              go_wp2_with (with_reducible refine CY.out.1.mono ?_; rintro e w' ⟨rfl, rfl⟩)
              refine (hexm_any _).mono ?_
              rintro e w' ⟨rfl, rfl⟩
              go_wp2
              go_ret2
              exact ⟨_, 0, rfl, by decide, by omega, .inl rfl, HK.out.2⟩
            · have K2 := CY.out.2 (by omega)
              go_wp2_with (with_reducible refine CY.out.1.mono ?_; rintro e w' ⟨rfl, rfl⟩)
              refine (hex_any y _ (by omega) (by omega)).mono ?_
              rintro e w' ⟨h, rfl, h0', h1', rfl⟩
              go_wp2
              all_goals first
                | (go_ret2; exact ⟨_, 0, rfl, by decide, by omega, .inl rfl, HK.out.2⟩)
                | (go_roundw
                   case rel => exact ⟨j + 1, x * 16 + h, by omega, by omega, by go_num, by go_num, hide (by obtain ⟨_, a, b, c, d, _⟩ := HX.out; refine ⟨by omega, fun _ => by omega, fun _ => by omega, fun _ => by omega, fun _ => by omega, by omega⟩), hide ⟨by omega, HK.out.2⟩⟩
                   case measure => simp [intOf]; omega)
          · have hj : j = 6 := by omega
            subst hj
            have hx1 := HX.out.2.2.2.2.2
            go_wp2_with (refine (encode_any x _ hx0 hx1).mono ?_; rintro e w' ⟨b, rfl, hb1, hb2⟩)
            all_goals go_ret2
            all_goals first
              | exact ⟨_, 0, rfl, by decide, by omega, .inl rfl, HK.out.2⟩
              | exact ⟨b, 6, rfl, hb1, by omega, .inr ⟨by omega, HK.out.1⟩, HK.out.2.trans (hb2.mono HK.out.2.size)⟩
      · have hb : (v != 117) = true := by simpa using hv
        clear hv
        go_wp2_with (with_reducible refine (C.out.1 _).mono ?_; rintro e w' ⟨rfl, rfl⟩)
        go_ret2
        exact ⟨_, 0, rfl, by decide, by omega, .inl rfl, HB.out⟩
end Go.Proofs.YtlpmnnkijdbopaaGreatDoor
