/-
  The walks of the reference's lexer, the fifth part: text, Lines.
-/
import Derived.Test.YtlpmnnkijdbopaaGreatDoorLexD

namespace Go.Proofs.YtlpmnnkijdbopaaGreatDoor
open Go.RowKit Go.Maps

/-- a text and a place behind, or 0 -/
def TextPost (s : Bs) (k : Int) (w : World) (e : Ending) (w' : World) : Prop := ∃ (b : ByteArray) (m : Int), e = .returned (.tuple #[.string b, .int .i64 m]) ∧ (m = 0 ∨ k < m) ∧ 0 ≤ m ∧ m ≤ s.length ∧ Below w.heap.size w w'
set_option maxRecDepth 20000 in
set_option maxHeartbeats 3200000 in
theorem text_any (s : Bs) (k : Int) (w : World) (h0 : 0 ≤ k) (hk : k < s.length) (hs : s.length ≤ 100000) : Calls Tryz.prog 114 #[tx s, .int .i64 k] w (TextPost s k w) := by
  have i1 : (s.length : Int) ≤ 100000 := by omega
  have HS := hide hs
  obtain ⟨k, rfl⟩ := Int.eq_ofNat_of_zero_le h0
  have hk' : k < s.length := by omega
  clear hs h0 hk
  go_enter Tryz.func114, Tryz.ntmps114
  go_wp2
  go_loopw [1, 6] (fun i o wr => ∃ (m : Nat) (b : ByteArray), k < m ∧ m ≤ s.length ∧ i = .int .i64 m ∧ o = .string b ∧ Hid (b.size ≤ 4 * m ∧ Below w.heap.size w wr)) (fun i _ _ => s.length - (intOf i).toNat)
  case atStart => exact ⟨k + 1, ⟨#[]⟩, by omega, by omega, by go_num, rfl, hide ⟨by show 0 ≤ _; omega, Below.refl _ _⟩⟩
  case round =>
    obtain ⟨m, b, hkm, hm, rfl, rfl, HR⟩ := hrel
    by_cases hlt : m < s.length
    · have hsz : m < (ByteArray.mk s.toArray).size := by show m < s.toArray.size; simpa using hlt
      by_cases h34 : (((ByteArray.mk s.toArray)[m]).toNat : Int) = 34
      · go_wp2
        go_ret2
        exact ⟨b, m + 1, rfl, .inr (by omega), by omega, by omega, HR.out.2⟩
      · have b34 : ((((ByteArray.mk s.toArray)[m]).toNat : Int) == 34) = false := by simpa using h34
        by_cases h92 : (((ByteArray.mk s.toArray)[m]).toNat : Int) = 92
        · have b92 : ((((ByteArray.mk s.toArray)[m]).toNat : Int) == 92) = true := by simpa using h92
          go_wp2_with fail
          refine (escape_any s m _ (by omega) (by omega) HS.out).mono ?_
          rintro e w1 ⟨eb, n, rfl, he1, n0, hn, hb1⟩
          obtain ⟨n, rfl⟩ := Int.eq_ofNat_of_zero_le n0
          have HB := hide (And.intro he1 (HR.out.2.trans (hb1.mono HR.out.2.size)))
          clear he1 hb1
          by_cases hn0 : n = 0
          · subst hn0
            go_wp2
            go_ret2
            exact ⟨_, 0, rfl, .inl rfl, by omega, by omega, HB.out.2⟩
          · have hn2 : 2 ≤ n ∧ m + n ≤ s.length := by omega
            have hnb : ((n : Int) == 0) = false := by simp; omega
            obtain ⟨hn3, hn4⟩ := hn2
            clear hn
            go_wp2_with ((with_reducible show wpList _ _ _ ({ dst := _, op := .binOp .add 9 _ _ 9, type := _, pos := _, after := _, guard := _ } :: _) _ _); refine wpList_catB rfl rfl ?_ ?_)
            · have := HR.out.1; have := HB.out.1; omega
            go_wp2
            go_roundw
            case rel => exact ⟨m + n, b ++ eb, by omega, by omega, by go_num, rfl, hide ⟨by rw [ByteArray.size_append]; have := HR.out.1; have := HB.out.1; omega, HB.out.2⟩⟩
            case measure => simp [intOf]; omega
        · have b92 : ((((ByteArray.mk s.toArray)[m]).toNat : Int) == 92) = false := by simpa using h92
          go_wp2_with fail
          refine (rune_any s m _ (by omega) (by omega) HS.out).mono ?_
          rintro e w1 ⟨r, n, rfl, n0, n1, n2, rfl⟩
          obtain ⟨n, rfl⟩ := Int.eq_ofNat_of_zero_le n0
          by_cases hn : n = 0
          · subst hn
            go_wp2
            all_goals (go_ret2; exact ⟨_, 0, rfl, .inl rfl, by omega, by omega, HR.out.2⟩)
          · have hn1 : (m : Int) + n ≤ s.length := n1 (by omega)
            have hnb : ((n : Int) == 0) = false := by simp; omega
            clear n1
            go_wp2_with ((with_reducible show wpList _ _ _ ({ dst := _, op := .binOp .add 9 _ _ 9, type := _, pos := _, after := _, guard := _ } :: _) _ _); refine wpList_catB rfl rfl ?_ ?_)
            all_goals first
              | (go_ret2; exact ⟨_, 0, rfl, .inl rfl, by omega, by omega, HR.out.2⟩)
              | (have := HR.out.1; have := extract_le ⟨s.toArray⟩ m (m + n); omega)
              | (go_wp2
                 go_roundw
                 case rel => exact ⟨m + n, b ++ (ByteArray.mk s.toArray).extract m (m + n), by omega, by omega, by go_num, rfl, hide ⟨by rw [ByteArray.size_append]; have := HR.out.1; have := extract_le ⟨s.toArray⟩ m (m + n); omega, HR.out.2⟩⟩
                 case measure => simp [intOf]; omega)
    · go_wp2
      go_ret2
      exact ⟨_, 0, rfl, .inl rfl, by omega, by omega, HR.out.2⟩
end Go.Proofs.YtlpmnnkijdbopaaGreatDoor
