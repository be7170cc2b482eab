/-
  The walk of the law FrameParts.
-/
import Derived.Test.YtpglncaigmnjcaaWords2
namespace Go.Proofs.Ytpglncaigmnjcaa
open Go.RowKit

theorem IntKind.wrap_u64 (n : Int) : IntKind.u64.wrap n = n % 18446744073709551616 := by simp [IntKind.wrap, IntKind.bits, IntKind.signed]
theorem encode_ok' {w : World} {B n : Nat} {A : Option Addr} {ps : List (List UInt8)} (c : Nat) (kind : Int) (kk : Nat) (hk : kind = (kk : Int)) (hk1 : 1 ≤ kk) (hk9 : kk ≤ 9) (hr : Rp w B A n ps) (hB : B ≤ w.heap.size) (hn : n ≤ maxLen) (ht : tot ps ≤ 8192) :
    Calls Try.prog 14 #[.int .i64 kind, .slice A n c] w fun e w' => ∃ A' c', e = .returned (.tuple #[.slice A' (tot ps + 9) c', .int .i64 0]) ∧ w'.ownsRow w.heap.size 5 1 (.slice A' (tot ps + 9) c') (tot ps + 9) (u8s (enc kk ps.flatten)) ∧ Below w.heap.size w w' := by
  subst hk
  exact encode_ok c kk hk1 hk9 hr hB hn ht
theorem encode_one {w : World} {B n : Nat} {A : Option Addr} {l : List UInt8} (c0 : Nat) (kind : Int) (kk : Nat) (hk : kind = (kk : Int)) (hk1 : 1 ≤ kk) (hk9 : kk ≤ 9) (hr : Rb w B A n l) (hB : B ≤ w.heap.size) (ht : n ≤ 8192) :
    Calls Try.prog 14 #[.int .i64 kind, .slice (some ⟨w.heap.size, 0, none⟩) 1 1] (w.alloc (.cells #[.slice A n c0] 30)) fun e w' => ∃ A' c', e = .returned (.tuple #[.slice A' (n + 9) c', .int .i64 0]) ∧ w'.ownsRow w.heap.size 5 1 (.slice A' (n + 9) c') (n + 9) (u8s (enc kk l)) ∧ Below w.heap.size w w' := by
  have hl : tot [l] = n := by simp [tot, hr.len]
  refine (encode_ok' 1 kind kk hk hk1 hk9 (Rp.one 30 hr hB (by unfold maxLen; omega)) (by simp) (by unfold maxLen; omega) (by omega)).mono ?_
  rintro e w' ⟨A', c', rfl, hown, hb⟩
  rw [hl, show ([l] : List (List UInt8)).flatten = l from by simp] at hown
  rw [hl]
  rw [World.size_alloc] at hb hown
  refine ⟨A', c', rfl, ⟨hown.1, ?_⟩, ((Below.refl _ _).alloc (Nat.le_refl _) _).trans (hb.mono (by omega))⟩
  rcases hown.2 with h | ⟨g, cap, cur, hv, hg, r⟩
  · exact .inl h
  · exact .inr ⟨g, cap, cur, hv, by omega, r⟩

theorem enc_inj {k k' : Nat} {l l' : List UInt8} (h : enc k l = enc k' l') : UInt8.ofNat k = UInt8.ofNat k' ∧ l = l' := by
  have hl : l.length = l'.length := by
    have := congrArg List.length h
    rw [enc_length, enc_length] at this
    omega
  unfold enc at h
  have h1 := (List.append_inj h (by simp [inner, four_length, hl])).1
  have h2 := (List.append_inj h1 (by rw [four_length, four_length])).2
  unfold inner at h2
  exact ⟨(List.cons.inj h2).1, (List.cons.inj h2).2⟩
theorem kind_ne {k k' : Nat} (h : k < 256) (h' : k' < 256) (hne : k ≠ k') : UInt8.ofNat k ≠ UInt8.ofNat k' := by
  intro e
  have := congrArg UInt8.toNat e
  simp only [UInt8.toNat_ofNat'] at this
  omega
theorem encode_three {w : World} {B na q : Nat} {A1 C : Option Addr} {la : List UInt8} (c1 c3 : Nat) (kind : Int) (kk : Nat) (hk : kind = (kk : Int)) (hk1 : 1 ≤ kk) (hk9 : kk ≤ 9) (ha : Rb w B A1 na la) (hq : q ≤ na) (hC : q < na → C = A1.map (·.add q)) (hB : B ≤ w.heap.size) (hna : na ≤ 1000) :
    Calls Try.prog 14 #[.int .i64 kind, .slice (some ⟨w.heap.size, 0, none⟩) 3 3] (w.alloc (.cells #[.slice A1 q c1, .slice none 0 0, .slice C (na - q) c3] 30)).drew fun e w' => ∃ A' c', e = .returned (.tuple #[.slice A' (na + 9) c', .int .i64 0]) ∧ w'.ownsRow w.heap.size 5 1 (.slice A' (na + 9) c') (na + 9) (u8s (enc kk la)) ∧ Below w.heap.size w w' := by
  have hf : ([la.take q, [], la.drop q] : List (List UInt8)).flatten = la := by simp
  have hl : tot [la.take q, [], la.drop q] = na := by unfold tot; rw [hf, ha.len]
  refine (encode_ok' 3 kind kk hk hk1 hk9 (Rp.three 30 (ha.take hq) (Rb.nil' w B none) (ha.drop hC) hB (by unfold maxLen; omega) (by unfold maxLen; omega) (by unfold maxLen; omega)).drew (by show _ ≤ (w.alloc _).heap.size; simp) (by unfold maxLen; omega) (by omega)).mono ?_
  rintro e w' ⟨A', c', rfl, hown, hb⟩
  rw [hl, hf] at hown
  rw [hl]
  have hsz : (w.alloc (.cells #[.slice A1 q c1, .slice none 0 0, .slice C (na - q) c3] 30)).drew.heap.size = w.heap.size + 1 := by show (w.alloc _).heap.size = _; simp
  rw [hsz] at hb hown
  refine ⟨A', c', rfl, ⟨hown.1, ?_⟩, (((Below.refl _ _).alloc (Nat.le_refl _) _).drew).trans (hb.mono (by omega))⟩
  rcases hown.2 with h | ⟨g, cap, cur, hv, hg, r⟩
  · exact .inl h
  · exact .inr ⟨g, cap, cur, hv, by omega, r⟩

set_option maxRecDepth 100000 in
set_option maxHeartbeats 800000 in
theorem frameparts_any {w : World} {B na nb : Nat} {A1 A2 : Option Addr} {la lb : List UInt8} (ca cb : Nat) (k0 k1 : Int) (ha : Rb w B A1 na la) (hb : Rb w B A2 nb lb) (hB : B ≤ w.heap.size) (hca : na ≤ ca) (h1 : na ≤ 1000) (h2 : nb ≤ 1000) :
    Calls Try.prog 4 #[.slice A1 na ca, .slice A2 nb cb, .agg #[.int .i64 k0, .int .i64 k1]] w fun e w' => e = .returned (.bool true) ∧ Below w.heap.size w w' := by
  have i1 : (na : Int) ≤ 1000 := by omega
  have i2 : (nb : Int) ≤ 1000 := by omega
  obtain ⟨u0, hu0⟩ : ∃ u0 : Nat, IntKind.u64.wrap k0 = (u0 : Int) := ⟨(IntKind.u64.wrap k0).toNat, by rw [Go.Proofs.Ytpglncaigmnjcaa.IntKind.wrap_u64]; omega⟩
  obtain ⟨u1, hu1⟩ : ∃ u1 : Nat, IntKind.u64.wrap k1 = (u1 : Int) := ⟨(IntKind.u64.wrap k1).toNat, by rw [Go.Proofs.Ytpglncaigmnjcaa.IntKind.wrap_u64]; omega⟩
  obtain ⟨r, hr9, hr8⟩ : ∃ r : Nat, (u0 : Int) % 9 = (r : Int) ∧ r ≤ 8 := ⟨u0 % 9, by omega, by omega⟩
  obtain ⟨q, hq, hqt, hqn⟩ : ∃ q : Nat, (u1 : Int) % ((na : Int) + 1) = (q : Int) ∧ (u1 : Int).tmod ((na : Int) + 1) = (q : Int) ∧ q ≤ na := by
    refine ⟨u1 % (na + 1), by simp, ?_, by have := Nat.mod_lt u1 (show 0 < na + 1 by omega); omega⟩
    rw [Int.tmod_eq_emod_of_nonneg (by omega)]; simp
  have hr8i : (r : Int) ≤ 8 := by omega
  have hqi : (q : Int) ≤ (na : Int) := by omega
  have hqc : (q : Int) ≤ (ca : Int) := by omega
  have hcq : q < na → (if ca = q then A1 else Option.map (fun x => x.add q) A1) = A1.map (·.add q) := fun h => by rw [if_neg (by omega)]
  obtain ⟨C, hite⟩ : ∃ C, (if ca = q then A1 else Option.map (fun x => x.add q) A1) = C := ⟨_, rfl⟩
  rw [hite] at hcq
  have HC := hide hcq
  clear hca hcq
  have H := hide (And.intro ha (And.intro hb (And.intro hB (And.intro hr8 hqn))))
  clear hr8 hqn
  clear ha hb hB h1 h2
  go_enter Try.func4, Try.ntmps4
  go_wp2_with fail
  go_quiet (fail)
  go_wp2_with fail
  refine (awake_any _).mono ?_
  rintro e w1 ⟨rfl, hb1⟩
  go_wp2_with fail
  have hb1' : Below w.heap.size w w1 := (((Below.refl w.heap.size w).alloc (Nat.le_refl _) _).trans ⟨rfl, rfl, rfl, Nat.le_refl _, fun _ _ => rfl⟩ : Below w.heap.size w (World.drewN (w.alloc (.cells #[.int .i64 k0, .int .i64 k1] 31)) nq)).trans (hb1.mono (Nat.le_of_lt (by show w.heap.size < (w.alloc _).heap.size; simp)))
  have ha1 := (H.out.1.more H.out.2.2.1).below hb1'
  have hb1b := (H.out.2.1.more H.out.2.2.1).below hb1'
  have hs1 := hb1'.size
  have H1 := hide (And.intro ha1 (And.intro hb1b (And.intro hb1' (And.intro H.out.2.2.2.1 H.out.2.2.2.2))))
  clear hb1 hb1' ha1 hb1b H hu0 hu1 hr9 hq hqt
  refine (encode_one ca _ (r + 1) (by omega) (by omega) (by have := H1.out.2.2.2.1; omega) H1.out.1 hs1 (by omega)).mono ?_
  rintro e w2 ⟨X, cx, rfl, hx2, hb2⟩
  have hbw2 := H1.out.2.2.1.trans (hb2.mono hs1)
  have ha2 := H1.out.1.below (hb2.mono hs1)
  have hbb2 := H1.out.2.1.below (hb2.mono hs1)
  have hs2 := hbw2.size
  have H2 := hide (And.intro ha2 (And.intro hbb2 (And.intro hbw2 (And.intro (Rb.of_own hx2) (And.intro H1.out.2.2.2.1 H1.out.2.2.2.2)))))
  clear hbw2 ha2 hbb2 hx2 hb2 H1 hs1
  go_wp2_with fail
  have H3 := hide (encode_three ca (ca - q) ((r : Int) + 1) (r + 1) (by omega) (by omega) (by have := H2.out.2.2.2.2.1; omega) H2.out.1 H2.out.2.2.2.2.2 HC.out hs2 (by omega))
  go_region_with (go_at_call 14; refine H3.out.mono ?_; rintro e w3 ⟨Y, cy, rfl, hy3, hb3⟩)
  have hs3 := hb3.size
  have hbw3 := H2.out.2.2.1.trans (hb3.mono hs2)
  have ha3 := H2.out.1.below (hb3.mono hs2)
  have hbb3 := H2.out.2.1.below (hb3.mono hs2)
  have hx3 := (H2.out.2.2.2.1.below hb3).more hs3
  have hs3w := Nat.le_trans hs2 hs3
  have H4 := hide (And.intro ha3 (And.intro hbb3 (And.intro hbw3 (And.intro hx3 (And.intro (Rb.of_own hy3) H2.out.2.2.2.2.1)))))
  clear hbw3 ha3 hbb3 hx3 hy3 hb3 H2 H3 hite
  go_wp2_with fail
  refine (encode_one ca _ ((r + 1) % 9 + 1) (by omega) (by omega) (by omega) H4.out.1 hs3w (by omega)).mono ?_
  rintro e w4 ⟨Z, cz, rfl, hz4, hb4⟩
  have hs4 := hb4.size
  have hbw4 := H4.out.2.2.1.trans (hb4.mono hs3w)
  have ha4 := H4.out.1.below (hb4.mono hs3w)
  have hbb4 := H4.out.2.1.below (hb4.mono hs3w)
  have hx4 := (H4.out.2.2.2.1.below hb4).more hs4
  have hy4 := (H4.out.2.2.2.2.1.below hb4).more hs4
  have hs4w := Nat.le_trans hs3w hs4
  have H5 := hide (And.intro ha4 (And.intro hbb4 (And.intro hbw4 (And.intro hx4 (And.intro hy4 (And.intro (Rb.of_own hz4) H4.out.2.2.2.2.2))))))
  clear hbw4 ha4 hbb4 hx4 hy4 hz4 hb4 H4
  go_wp2_with fail
  refine (encode_one cb _ (r + 1) (by omega) (by omega) (by have := H5.out.2.2.2.2.2.2; omega) H5.out.2.1 hs4w (by omega)).mono ?_
  rintro e w5 ⟨V, cv, rfl, hv5, hb5⟩
  have hs5 := hb5.size
  have hbw5 := H5.out.2.2.1.trans (hb5.mono hs4w)
  have ha5 := H5.out.1.below (hb5.mono hs4w)
  have hbb5 := H5.out.2.1.below (hb5.mono hs4w)
  have hx5 := (H5.out.2.2.2.1.below hb5).more hs5
  have hy5 := (H5.out.2.2.2.2.1.below hb5).more hs5
  have hz5 := (H5.out.2.2.2.2.2.1.below hb5).more hs5
  have hv5' := Rb.of_own hv5
  have hr8 := H5.out.2.2.2.2.2.2
  have hneq : (enc (r + 1) la == enc ((r + 1) % 9 + 1) la) = false := by
    rw [beq_eq_false_iff_ne]
    intro e
    exact kind_ne (by omega) (by omega) (by omega) (enc_inj e).1
  obtain ⟨EX, hEX⟩ : ∃ E, E = enc (r + 1) la := ⟨_, rfl⟩
  obtain ⟨EZ, hEZ⟩ : ∃ E, E = enc ((r + 1) % 9 + 1) la := ⟨_, rfl⟩
  obtain ⟨EV, hEV⟩ : ∃ E, E = enc (r + 1) lb := ⟨_, rfl⟩
  have hdec : (la = lb ∧ EV = EX) ∨ ((la == lb) = false ∧ (EX == EV) = false) := by
    by_cases e : la = lb
    · subst e; exact .inl ⟨rfl, by rw [hEV, hEX]⟩
    · refine .inr ⟨by rw [beq_eq_false_iff_ne]; exact e, ?_⟩
      rw [beq_eq_false_iff_ne, hEX, hEV]
      intro h
      exact e (enc_inj h).2
  rw [← hEX] at hx5 hy5 hneq
  rw [← hEZ] at hz5 hneq
  rw [← hEV] at hv5'
  have HB := hide hbw5
  clear hbw5 hb5 hv5 H5 hEX hEZ hEV hr8
  rcases hdec with ⟨e1, e2⟩ | ⟨e1, e2⟩
  · subst e1
    subst e2
    go_wp2_with ((with_reducible show wpList _ _ _ ({ dst := _, op := .convert 30 9 _, type := _, pos := _, after := _, guard := _ } :: _) _ _); refine wpList_bytes_string_g Try.underlying30 Try.underlying5 Try.underlying9 rfl rfl (by assumption) ?_)
    go_ret
    exact ⟨rfl, HB.out⟩
  · go_wp2_with ((with_reducible show wpList _ _ _ ({ dst := _, op := .convert 30 9 _, type := _, pos := _, after := _, guard := _ } :: _) _ _); refine wpList_bytes_string_g Try.underlying30 Try.underlying5 Try.underlying9 rfl rfl (by assumption) ?_)
    go_ret
    exact ⟨rfl, HB.out⟩

set_option maxRecDepth 100000 in
set_option maxHeartbeats 800000 in
theorem frameparts_long {w : World} {na nb : Nat} {A1 A2 : Option Addr} (ca cb : Nat) (k0 k1 : Int) (h : 1000 < na ∨ 1000 < nb) :
    Calls Try.prog 4 #[.slice A1 na ca, .slice A2 nb cb, .agg #[.int .i64 k0, .int .i64 k1]] w fun e w' => e = .returned (.bool true) ∧ Below w.heap.size w w' := by
  by_cases h1 : 1000 < na
  all_goals
    first
      | have i1 : (1000 : Int) < (na : Int) := by omega
      | (have i1 : (na : Int) ≤ 1000 := by omega
         have i2 : (1000 : Int) < (nb : Int) := by omega)
    clear h h1
    go_enter Try.func4, Try.ntmps4
    go_wp2_with fail
    go_quiet (fail)
    go_wp2_with fail
    refine (awake_any _).mono ?_
    rintro e w1 ⟨rfl, hb1⟩
    have hb1' : Below w.heap.size w w1 := (((Below.refl w.heap.size w).alloc (Nat.le_refl _) _).trans ⟨rfl, rfl, rfl, Nat.le_refl _, fun _ _ => rfl⟩ : Below w.heap.size w (World.drewN (w.alloc (.cells #[.int .i64 k0, .int .i64 k1] 31)) nq)).trans (hb1.mono (Nat.le_of_lt (by show w.heap.size < (w.alloc _).heap.size; simp)))
    have H := hide hb1'
    clear hb1 hb1'
    go_wp2_with fail
    refine (awake_any _).mono ?_
    rintro e w2 ⟨rfl, hb2⟩
    have H2 := hide (H.out.trans (hb2.mono H.out.size))
    clear hb2 H
    go_wp2_with fail
    go_ret
    exact ⟨rfl, H2.out⟩
end Go.Proofs.Ytpglncaigmnjcaa
