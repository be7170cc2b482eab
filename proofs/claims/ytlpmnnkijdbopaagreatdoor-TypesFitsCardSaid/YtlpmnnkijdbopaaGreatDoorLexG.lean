/-
  The walk of the reference's lexer, the seventh part: block.
-/
import Derived.Test.YtlpmnnkijdbopaaGreatDoorLexF
import Derived.Test.YtlpmnnkijdbopaaGreatDoorPoss
namespace Go.Proofs.YtlpmnnkijdbopaaGreatDoor
open Go.RowKit Go.Maps

theorem tx_of (b : ByteArray) : Value.string b = tx b.data.toList := by
  cases b; simp
theorem len_tx (b : ByteArray) : b.data.toList.length = b.size := by
  cases b; simp [ByteArray.size]
theorem sz_tx (l : Bs) : (ByteArray.mk l.toArray).size = l.length := by show l.toArray.size = _; simp
theorem wpList_append_line {ops : Array Oper} {rest : List Oper} {a : Act} {Q : Exit → Act → World → Prop} {w W : World} {dst : Option Tmp} {ty : TypeId} {pos : String} {af : Array Edge} {s x : Operand} {base n c : Nat} {B : Option Addr} {xs : List Value} {u : Value}
    (hw : w = W.alloc (.cells #[u] 9)) (hs : a.eval s = .slice B n c) (hx : a.eval x = .slice (some ⟨W.heap.size, 0, none⟩) 1 1) (hown : W.ownsRow base 9 1 (.slice B n c) n xs) (h1 : u.oneCell' = true) (hn : n ≤ 5000) (hbase : base ≤ W.heap.size)
    (h : ∀ A' c' w', w'.ownsRow base 9 1 (.slice A' (n + 1) c') (n + 1) (xs ++ [u]) → Below base W w' → wpList Tryz.prog ops Q rest (a.put dst (.slice A' (n + 1) c')) w') :
    wpList Tryz.prog ops Q ({ dst := dst, op := .call { callee := .builtin .append, args := #[s, x], argTypes := #[31, 31] }, type := ty, pos := pos, after := af, guard := none } :: rest) a w := by
  subst hw
  obtain ⟨i0, hi, hz0, hz1, hz2⟩ := info_parts Tryz.infoS
  exact wpList_append_rd Tryz.underlying31 hi hz0 hz1 hz2 rfl (by decide) hs hx (hown.alloc _) (Rd.one W u _) (by intro v hv; rw [List.mem_singleton.1 hv]; exact h1) (by unfold maxLen; omega) (by omega) (by simp; omega) fun A' c' w' h2 h3 => h A' c' w' h2 (((Below.refl base W).alloc hbase _).trans h3)
theorem ok_snoc {l : List Bs} {x : Bs} (h : ∀ y ∈ l, y.length ≤ 5000) (hx : x.length ≤ 5000) : ∀ y ∈ l ++ [x], y.length ≤ 5000 := by
  intro y hy
  rcases List.mem_append.1 hy with hy | hy
  · exact h y hy
  · rw [List.mem_singleton.1 hy]; exact hx
set_option maxRecDepth 20000 in
set_option maxHeartbeats 1600000 in
theorem block_any (s : Bs) (k : Int) (w : World) (h0 : 0 ≤ k) (hk : k + 3 ≤ s.length) (hs : s.length ≤ 4096) : Calls Tryz.prog 113 #[tx s, .int .i64 k] w (TextPost s k w) := by
  have i1 : (s.length : Int) ≤ 4096 := by omega
  have HS := hide (And.intro (show s.length ≤ 100000 by omega) (show s.length ≤ maxLen by unfold maxLen; omega))
  obtain ⟨k, rfl⟩ := Int.eq_ofNat_of_zero_le h0
  clear hs h0
  go_enter Tryz.func113, Tryz.ntmps113
  go_wp2
  go_loopw [1, 6, 7] (fun i v o wr => ∃ (m : Nat) (A : Option Addr) (c : Nat) (bl : List Bs) (ln : Bs), k < m ∧ (m : Int) ≤ s.length ∧ i = .int .i64 m ∧ v = .slice A bl.length c ∧ o = tx ln ∧ Hid (ln.length ≤ m ∧ bl.length ≤ m ∧ (∀ y ∈ bl, y.length ≤ 5000) ∧ wr.ownsRow w.heap.size 9 1 (.slice A bl.length c) bl.length (bl.map tx) ∧ Below w.heap.size w wr)) (fun i _ _ _ => s.length - (intOf i).toNat)
  case atStart => exact ⟨k + 3, none, 0, [], [], by omega, by omega, by go_num, rfl, rfl, hide ⟨by simp, by simp, by simp, World.ownsRow_nil _ _ _ _, Below.refl _ _⟩⟩
  case round =>
    obtain ⟨m, A, c, bl, ln, hkm, hm, rfl, rfl, rfl, HR⟩ := hrel
    by_cases hlt : m < s.length
    · have hsz : m < (ByteArray.mk s.toArray).size := by show m < s.toArray.size; simpa using hlt
      go_wp2_with fail
      refine (three_any s m _ (by omega) (by omega) HS.out.1).mono ?_
      rintro e w1 ⟨q, rfl, hq, rfl⟩
      cases q with
      | true =>
        have h3 : (m : Int) + 3 ≤ s.length := hq (by trivial)
        clear hq
        go_wp2_with ((with_reducible show wpList _ _ _ ({ dst := _, op := .call { callee := .builtin .append, args := #[_, _], argTypes := #[31, 31] }, type := _, pos := _, after := _, guard := _ } :: _) _ _); refine wpList_append_line rfl rfl rfl HR.out.2.2.2.1 rfl (by have := HR.out.2.1; omega) HR.out.2.2.2.2.size ?_; intro A' c' w1 hown hb1; have HO := hide (And.intro hown (HR.out.2.2.2.2.trans hb1)); clear hown hb1)
        have HLn := lines_any (w := w1) (S := fun b => w.heap.size ≤ b ∧ b < w1.heap.size) (l := bl ++ [ln]) c' ((Row.of_own (l := bl ++ [ln]) (c := c') (by simpa using HO.out.1)).sl (fun b h1 h2 => ⟨h1, h2⟩)) (fun b hb => hb.2) ⟨by simp; have := HR.out.2.1; omega, fun y hy => by have := ok_snoc HR.out.2.2.1 (x := ln) (by have := HR.out.1; omega) y hy; omega⟩
        rw [show (bl ++ [ln]).length = bl.length + 1 by simp] at HLn
        refine HLn.mono ?_
        rintro e w2 ⟨b, rfl, _, hb2⟩
        have H2 := hide (HO.out.2.trans (hb2.mono HO.out.2.size))
        clear hb2
        go_wp2
        go_ret2
        exact ⟨b, m + 3, rfl, .inr (by omega), by omega, by omega, H2.out⟩
      | false =>
        clear hq
        by_cases h92 : (((ByteArray.mk s.toArray)[m]).toNat : Int) = 92
        · have b92 : ((((ByteArray.mk s.toArray)[m]).toNat : Int) == 92) = true := by simpa using h92
          have b10 : ((((ByteArray.mk s.toArray)[m]).toNat : Int) == 10) = false := by rw [h92]; rfl
          have b13 : ((((ByteArray.mk s.toArray)[m]).toNat : Int) == 13) = false := by rw [h92]; rfl
          clear h92
          go_wp2_with fail
          refine (three_any s ((m : Int) + 1) _ (by omega) (by omega) HS.out.1).mono ?_
          rintro e w1 ⟨q, rfl, hq, rfl⟩
          cases q with
          | true =>
            have h3 : (m : Int) + 1 + 3 ≤ s.length := hq (by trivial)
            clear hq
            go_wp2_with ((with_reducible show wpList _ _ _ ({ dst := _, op := .binOp .add 9 _ _ 9, type := _, pos := _, after := _, guard := _ } :: _) _ _); refine wpList_catB rfl rfl (by have := HR.out.1; have := sz_tx ln; have h4 : (ByteArray.mk #[34, 34, 34]).size = 3 := rfl; omega) ?_)
            go_roundw
            case rel => exact ⟨m + 4, A, c, bl, _, by omega, by omega, by go_num, rfl, tx_of _, hide ⟨by rw [len_tx, ByteArray.size_append]; have := HR.out.1; have := sz_tx ln; have h4 : (ByteArray.mk #[34, 34, 34]).size = 3 := rfl; omega, by have := HR.out.2.1; omega, HR.out.2.2⟩⟩
            case measure => simp [intOf]; omega
          | false =>
            clear hq
            go_wp2_with fail
            refine (rune_any s m _ (by omega) (by omega) HS.out.1).mono ?_
            rintro e w1 ⟨r, n, rfl, n0, n1, n2, rfl⟩
            obtain ⟨n, rfl⟩ := Int.eq_ofNat_of_zero_le n0
            by_cases hn : n = 0
            · subst hn
              go_wp2
              all_goals (go_ret2; exact ⟨_, 0, rfl, .inl rfl, by omega, by omega, HR.out.2.2.2.2⟩)
            · have hn1 : (m : Int) + n ≤ s.length := n1 (by omega)
              have hnb : ((n : Int) == 0) = false := by simp; omega
              clear n1
              go_wp2_with ((with_reducible show wpList _ _ _ ({ dst := _, op := .binOp .add 9 _ _ 9, type := _, pos := _, after := _, guard := _ } :: _) _ _); refine wpList_catB rfl rfl (by have := HR.out.1; have := sz_tx ln; have := extract_le ⟨s.toArray⟩ m (m + n); omega) ?_)
              all_goals first
                | (go_ret2; exact ⟨_, 0, rfl, .inl rfl, by omega, by omega, HR.out.2.2.2.2⟩)
                | (go_roundw
                   case rel => exact ⟨m + n, A, c, bl, _, by omega, by omega, by go_num, rfl, tx_of _, hide ⟨by rw [len_tx, ByteArray.size_append]; have := HR.out.1; have := sz_tx ln; have := extract_le ⟨s.toArray⟩ m (m + n); omega, by have := HR.out.2.1; omega, HR.out.2.2⟩⟩
                   case measure => simp [intOf]; omega)
        · have b92 : ((((ByteArray.mk s.toArray)[m]).toNat : Int) == 92) = false := by simpa using h92
          clear h92
          by_cases h10 : (((ByteArray.mk s.toArray)[m]).toNat : Int) = 10
          · have b10 : ((((ByteArray.mk s.toArray)[m]).toNat : Int) == 10) = true := by rw [h10]; rfl
            have b13 : ((((ByteArray.mk s.toArray)[m]).toNat : Int) == 13) = false := by rw [h10]; rfl
            clear h10
            go_wp2_with ((with_reducible show wpList _ _ _ ({ dst := _, op := .call { callee := .builtin .append, args := #[_, _], argTypes := #[31, 31] }, type := _, pos := _, after := _, guard := _ } :: _) _ _); refine wpList_append_line rfl rfl rfl HR.out.2.2.2.1 rfl (by have := HR.out.2.1; omega) HR.out.2.2.2.2.size ?_; intro A' c' w1 hown hb1; have HO := hide (And.intro hown (HR.out.2.2.2.2.trans hb1)); clear hown hb1)
            go_roundw
            case rel => exact ⟨m + 1, A', c', bl ++ [ln], [], by omega, by omega, by go_num, by simp, rfl, hide ⟨by simp, by simp; have := HR.out.2.1; omega, ok_snoc HR.out.2.2.1 (by have := HR.out.1; omega), by simpa using HO.out.1, HO.out.2⟩⟩
            case measure => simp [intOf]; omega
          · have b10 : ((((ByteArray.mk s.toArray)[m]).toNat : Int) == 10) = false := by simpa using h10
            clear h10
            by_cases h13 : (((ByteArray.mk s.toArray)[m]).toNat : Int) = 13
            · have b13 : ((((ByteArray.mk s.toArray)[m]).toNat : Int) == 13) = true := by rw [h13]; rfl
              clear h13
              obtain ⟨v, hv⟩ : ∃ v, v = oneV s ((m : Int) + 1) := ⟨_, rfl⟩
              have c0 := one_any s ((m : Int) + 1) wr (by omega) HS.out.2
              rw [← hv] at c0
              have C := hide (And.intro c0 (show v = 10 → (m : Int) + 2 ≤ s.length from fun h => by have := oneV_lt (s := s) (k := (m : Int) + 1) (by omega); omega))
              clear hv c0
              by_cases hv10 : v = 10
              · subst hv10
                have h2 := C.out.2 rfl
                go_wp2_with (first | (with_reducible refine C.out.1.mono ?_; rintro e w' ⟨rfl, rfl⟩) | ((with_reducible show wpList _ _ _ ({ dst := _, op := .call { callee := .builtin .append, args := #[_, _], argTypes := #[31, 31] }, type := _, pos := _, after := _, guard := _ } :: _) _ _); refine wpList_append_line rfl rfl rfl HR.out.2.2.2.1 rfl (by have := HR.out.2.1; omega) HR.out.2.2.2.2.size ?_; intro A' c' w1 hown hb1; have HO := hide (And.intro hown (HR.out.2.2.2.2.trans hb1)); clear hown hb1))
                go_roundw
                case rel => exact ⟨m + 1 + 1, A', c', bl ++ [ln], [], by omega, by omega, by go_num, by simp, rfl, hide ⟨by simp, by simp; have := HR.out.2.1; omega, ok_snoc HR.out.2.2.1 (by have := HR.out.1; omega), by simpa using HO.out.1, HO.out.2⟩⟩
                case measure => simp [intOf]; omega
              · have vb : (v == 10) = false := by simpa using hv10
                clear hv10
                go_wp2_with (first | (with_reducible refine C.out.1.mono ?_; rintro e w' ⟨rfl, rfl⟩) | ((with_reducible show wpList _ _ _ ({ dst := _, op := .call { callee := .builtin .append, args := #[_, _], argTypes := #[31, 31] }, type := _, pos := _, after := _, guard := _ } :: _) _ _); refine wpList_append_line rfl rfl rfl HR.out.2.2.2.1 rfl (by have := HR.out.2.1; omega) HR.out.2.2.2.2.size ?_; intro A' c' w1 hown hb1; have HO := hide (And.intro hown (HR.out.2.2.2.2.trans hb1)); clear hown hb1))
                go_roundw
                case rel => exact ⟨m + 1, A', c', bl ++ [ln], [], by omega, by omega, by go_num, by simp, rfl, hide ⟨by simp, by simp; have := HR.out.2.1; omega, ok_snoc HR.out.2.2.1 (by have := HR.out.1; omega), by simpa using HO.out.1, HO.out.2⟩⟩
                case measure => simp [intOf]; omega
            · have b13 : ((((ByteArray.mk s.toArray)[m]).toNat : Int) == 13) = false := by simpa using h13
              clear h13
              go_wp2_with fail
              refine (rune_any s m _ (by omega) (by omega) HS.out.1).mono ?_
              rintro e w1 ⟨r, n, rfl, n0, n1, n2, rfl⟩
              obtain ⟨n, rfl⟩ := Int.eq_ofNat_of_zero_le n0
              by_cases hn : n = 0
              · subst hn
                go_wp2
                all_goals (go_ret2; exact ⟨_, 0, rfl, .inl rfl, by omega, by omega, HR.out.2.2.2.2⟩)
              · have hn1 : (m : Int) + n ≤ s.length := n1 (by omega)
                have hnb : ((n : Int) == 0) = false := by simp; omega
                clear n1
                go_wp2_with ((with_reducible show wpList _ _ _ ({ dst := _, op := .binOp .add 9 _ _ 9, type := _, pos := _, after := _, guard := _ } :: _) _ _); refine wpList_catB rfl rfl (by have := HR.out.1; have := sz_tx ln; have := extract_le ⟨s.toArray⟩ m (m + n); omega) ?_)
                all_goals first
                  | (go_ret2; exact ⟨_, 0, rfl, .inl rfl, by omega, by omega, HR.out.2.2.2.2⟩)
                  | (go_roundw
                     case rel => exact ⟨m + n, A, c, bl, _, by omega, by omega, by go_num, rfl, tx_of _, hide ⟨by rw [len_tx, ByteArray.size_append]; have := HR.out.1; have := sz_tx ln; have := extract_le ⟨s.toArray⟩ m (m + n); omega, by have := HR.out.2.1; omega, HR.out.2.2⟩⟩
                     case measure => simp [intOf]; omega)
    · go_wp2
      go_ret2
      exact ⟨_, 0, rfl, .inl rfl, by omega, by omega, HR.out.2.2.2.2⟩
end Go.Proofs.YtlpmnnkijdbopaaGreatDoor
