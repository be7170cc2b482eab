/-
  The walk of the reference's lexer, the ninth part: next.
-/
import Derived.Test.YtlpmnnkijdbopaaGreatDoorLexH
namespace Go.Proofs.YtlpmnnkijdbopaaGreatDoor
open Go.RowKit Go.Maps

theorem Tryz.sizeTk : (Tryz.prog.info? 93).map (·.size) = some 3 := by kernel_rfl
/-- a token in the making: two blocks -/
structure Nx (w wr : World) (q : Int) (b : ByteArray) (k : Int) : Prop where
  out : wr.heap[w.heap.size]? = some (.cells #[.int .i64 0, .string ⟨#[]⟩, .int .i64 0] 93 (0, 0))
  tok : wr.heap[w.heap.size + 1]? = some (.cells #[.int .i64 q, .string b, .int .i64 k] 93 (0, 0))
  below : Below w.heap.size w wr
theorem Nx.more {w wr w2 : World} {q k : Int} {b : ByteArray} (h : Nx w wr q b k) (hb : Below wr.heap.size wr w2) : Nx w w2 q b k :=
  ⟨by rw [hb.block _ (lt_of_block h.out)]; exact h.out, by rw [hb.block _ (lt_of_block h.tok)]; exact h.tok, h.below.trans (hb.mono h.below.size)⟩
theorem Nx.c0 {w wr : World} {q k : Int} {b : ByteArray} (h : Nx w wr q b k) : wr.cell? ⟨w.heap.size + 1, 0, none⟩ = some (.int .i64 q) := by rw [cell_of_row _ _ _ _ _ _ h.tok]; rfl
theorem Nx.c1 {w wr : World} {q k : Int} {b : ByteArray} (h : Nx w wr q b k) : wr.cell? ⟨w.heap.size + 1, 1, none⟩ = some (.string b) := by rw [cell_of_row _ _ _ _ _ _ h.tok]; rfl
theorem Nx.f {w wr : World} {q k : Int} {b : ByteArray} (h : Nx w wr q b k) (j : Nat) : wr.frozen? ⟨w.heap.size + 1, j, none⟩ = false := frozen_of_row _ _ _ _ _ h.tok
theorem Nx.set0 {w wr : World} {q k : Int} {b : ByteArray} (h : Nx w wr q b k) (q' : Int) : Nx w (wr.setCell ⟨w.heap.size + 1, 0, none⟩ (.int .i64 q')) q' b k :=
  ⟨by rw [heap_setCell_other _ _ _ _ (by simp)]; exact h.out, heap_setCell_same _ _ 0 _ _ _ h.tok, h.below.setCell (by simp) _⟩
theorem Nx.set1 {w wr : World} {q k : Int} {b : ByteArray} (h : Nx w wr q b k) (b' : ByteArray) : Nx w (wr.setCell ⟨w.heap.size + 1, 1, none⟩ (.string b')) q b' k :=
  ⟨by rw [heap_setCell_other _ _ _ _ (by simp)]; exact h.out, heap_setCell_same _ _ 1 _ _ _ h.tok, h.below.setCell (by simp) _⟩
theorem Nx.range {w wr : World} {q k : Int} {b : ByteArray} (h : Nx w wr q b k) : wr.rangeAt (w.heap.size + 1) 0 [.int .i64 q, .string b, .int .i64 k] := fun j u hu => by
  rw [cell_of_row _ _ _ _ _ _ h.tok, Nat.zero_add]
  simpa using hu
theorem results_row_tmp {P : Program} {fn : Func} {p u : Tmp} {ty : TypeId} (h : fn.results = #[.cell p ty, .tmp u]) (tmps : Array Value) (w : World) (g : Nat) (t : TypeId) (cs : Array Value) (fr : Nat × Nat) (d : TypeDesc) {x : Value}
    (hp : tmps.getD p undef = .pointer (some ⟨g, 0, none⟩)) (hx : tmps.getD u undef = x) (hg : w.heap[g]? = some (.cells cs t fr))
    (hu : P.underlying ty = some d) (hd : (match d with | .struct _ | .array _ _ => true | _ => false) = true) (hi : (P.info? ty).map (·.size) = some cs.size) :
    (results fn tmps).run P w = .ok (.tuple #[.agg cs, x]) w := by
  rw [results_cell_tmp h, hp, hx]
  simp [asAddr, run_loadVar_row w g t ty cs fr d hg hu hd hi]
def TokPost (s : Bs) (k : Int) (w : World) (e : Ending) (w' : World) : Prop := ∃ (q en : Int) (b : ByteArray), e = .returned (.tuple #[.agg #[.int .i64 q, .string b, .int .i64 k], .int .i64 en]) ∧ 0 ≤ en ∧ en ≤ s.length ∧ (en = 0 ∨ k < en) ∧ (q = 1 → 0 < en → good b.data.toList ∧ b.size ≤ s.length) ∧ Below w.heap.size w w'
/-- the bytes between two places -/
def mid (s : Bs) (i j : Nat) : Bs := (s.drop i).take (j - i)
theorem mid_snoc {s : Bs} {k m : Nat} (hk : k ≤ m) (hm : m < s.length) : mid s k (m + 1) = mid s k m ++ [s[m]] := by
  unfold mid
  rw [show m + 1 - k = (m - k) + 1 by omega, List.take_succ_eq_append_getElem (by simp; omega), List.getElem_drop]
  simp only [show k + (m - k) = m by omega]
theorem mid_ok {s : Bs} {k m : Nat} (hk : k ≤ m) (hm : m < s.length) (h : ∀ c ∈ mid s k m, okc (c.toNat : Int)) (hc : okc ((s[m]).toNat : Int)) : ∀ c ∈ mid s k (m + 1), okc (c.toNat : Int) := by
  intro c hx
  rw [mid_snoc hk hm] at hx
  rcases List.mem_append.1 hx with hx | hx
  · exact h c hx
  · rw [List.mem_singleton.1 hx]; exact hc
theorem mid_good {s : Bs} {k m : Nat} (hk : k < m) (hm : m ≤ s.length) (h : ∀ c ∈ mid s k m, okc (c.toNat : Int)) : good (mid s k m) := by
  refine ⟨fun e => ?_, h⟩
  have := congrArg List.length e
  unfold mid at this
  simp at this
  omega
theorem mid_extract (s : Bs) (i j : Nat) : ((ByteArray.mk s.toArray).extract i j).data.toList = mid s i j := by
  unfold mid
  simp [ByteArray.extract, ByteArray.copySlice]
theorem tok_one (q k : Int) (b : ByteArray) : (#[.int .i64 q, .string b, .int .i64 k] : Array Value).all (·.oneCell') = true := by simp [Value.oneCell']
/-- the token is handed back -/
theorem next_ret {s : Bs} {k : Nat} {w wr : World} {a : Act} {q en : Int} {b : ByteArray} (hN : Nx w wr q b k) (hp : a.tmps.getD 4 undef = .pointer (some ⟨w.heap.size, 0, none⟩)) (hx : a.tmps.getD 5 undef = .int .i64 en) (hd : a.defers = [])
    (h1 : 0 ≤ en) (h2 : en ≤ s.length) (h3 : en = 0 ∨ (k : Int) < en) (h4 : q = 1 → 0 < en → good b.data.toList ∧ b.size ≤ s.length) :
    bodyPost Tryz.prog Tryz.f94 (TokPost s k w) .ret a (wr.setRow w.heap.size #[.int .i64 q, .string b, .int .i64 k]) :=
  bodyPost_ret (results_row_tmp (u := 5) Tryz.results94 _ _ w.heap.size 93 #[.int .i64 q, .string b, .int .i64 k] (0, 0) _ hp hx (setRow_heap _ _ _ _ _ _ hN.out) Tryz.underlying93 rfl Tryz.sizeTk) hd
    ⟨q, en, b, rfl, h1, h2, h3, h4, below_setRow hN.below (Nat.le_refl _) _⟩
abbrev SIGNS : ByteArray := ⟨#[33, 36, 38, 40, 41, 58, 61, 64, 91, 93, 123, 124, 125]⟩
theorem run_signs : ∀ {n : Nat}, n < 13 → ∃ x : Int, (∀ w, (Instr.index 9 (.string SIGNS) (.int .i64 (n : Int))).run Tryz.prog w = .ok (.int .u8 x) w) ∧ 0 ≤ x ∧ x ≤ 255
  | 0, _ => ⟨33, fun w => by kernel_rfl, by decide, by decide⟩
  | 1, _ => ⟨36, fun w => by kernel_rfl, by decide, by decide⟩
  | 2, _ => ⟨38, fun w => by kernel_rfl, by decide, by decide⟩
  | 3, _ => ⟨40, fun w => by kernel_rfl, by decide, by decide⟩
  | 4, _ => ⟨41, fun w => by kernel_rfl, by decide, by decide⟩
  | 5, _ => ⟨58, fun w => by kernel_rfl, by decide, by decide⟩
  | 6, _ => ⟨61, fun w => by kernel_rfl, by decide, by decide⟩
  | 7, _ => ⟨64, fun w => by kernel_rfl, by decide, by decide⟩
  | 8, _ => ⟨91, fun w => by kernel_rfl, by decide, by decide⟩
  | 9, _ => ⟨93, fun w => by kernel_rfl, by decide, by decide⟩
  | 10, _ => ⟨123, fun w => by kernel_rfl, by decide, by decide⟩
  | 11, _ => ⟨124, fun w => by kernel_rfl, by decide, by decide⟩
  | 12, _ => ⟨125, fun w => by kernel_rfl, by decide, by decide⟩
  | n + 13, h => by omega
def CutOk (s : Bs) (k : Nat) (w wx : World) (en q : Int) : Prop := Nx w wx q ⟨#[]⟩ k ∧ (q = 1 → 0 < en → good (mid s k en.toNat))
set_option maxRecDepth 20000 in
set_option maxHeartbeats 1600000 in
theorem next_any (s : Bs) (k : Int) (w : World) (h0 : 0 ≤ k) (hk : k < s.length) (hs : s.length ≤ 4096) : Calls Tryz.prog 94 #[tx s, .int .i64 k] w (TokPost s k w) := by
  have i1 : (s.length : Int) ≤ 4096 := by omega
  have HS := hide (And.intro (show s.length ≤ 100000 by omega) (And.intro (show s.length ≤ maxLen by unfold maxLen; omega) hs))
  obtain ⟨k, rfl⟩ := Int.eq_ofNat_of_zero_le h0
  have hk' : k < s.length := by omega
  have hsz : k < (ByteArray.mk s.toArray).size := by show k < s.toArray.size; simpa using hk'
  obtain ⟨cb, hcb⟩ : ∃ cb, cb = (ByteArray.mk s.toArray)[k] := ⟨_, rfl⟩
  have hc0 : 0 ≤ (cb.toNat : Int) := by omega
  have hc1 : (cb.toNat : Int) ≤ 255 := by have := cb.toNat_lt; omega
  have HC := hide hcb
  obtain ⟨lq, hlq⟩ : ∃ lq, lq = letterV (cb.toNat : Int) := ⟨_, rfl⟩
  have HL := hide (And.intro hlq (show ∀ w, Calls Tryz.prog 109 #[.int .u8 (cb.toNat : Int)] w fun e w' => e = .returned (.bool lq) ∧ w = w' from fun w => by rw [hlq]; exact letter_exact _ _ hc0 hc1))
  clear hs h0 hk hcb hlq
  go_enter Tryz.func94, Tryz.ntmps94
  go_wp2_with fail
  rw [← HC.out]
  refine (HL.out.2 _).mono ?_
  rintro e w1 ⟨rfl, rfl⟩
  go_upto_if 17 with fail
  obtain ⟨wz, hwz⟩ : ∃ wz, wz = (w.alloc (.cells #[.int .i64 0, .string ⟨#[]⟩, .int .i64 0] 93)).alloc (.cells #[.int .i64 0, .string ⟨#[]⟩, .int .i64 (k : Int)] 93) := ⟨_, rfl⟩
  rw [← hwz]
  have hN : Nx w wz 0 ⟨#[]⟩ k := by
    have h1 := heap_alloc_new (w.alloc (.cells #[.int .i64 0, .string ⟨#[]⟩, .int .i64 0] 93)) (.cells #[.int .i64 0, .string ⟨#[]⟩, .int .i64 (k : Int)] 93)
    rw [World.size_alloc] at h1
    rw [hwz]
    exact ⟨by rw [((Below.refl (w.alloc (.cells #[.int .i64 0, .string ⟨#[]⟩, .int .i64 0] 93)).heap.size _).alloc (Nat.le_refl _) _).block _ (by simp)]; exact heap_alloc_new w _, h1, ((Below.refl _ _).alloc (Nat.le_refl _) _).alloc (by simp) _⟩
  clear hwz
  have HN := hide hN
  clear hN
  go_cut [8] (fun s8 wx => ∃ en q : Int, s8 = .int .i64 en ∧ 0 ≤ en ∧ en ≤ s.length ∧ (en = 0 ∨ k < en) ∧ Hid (CutOk s k w wx en q))
  case first =>
    cases lq with
    | true =>
      have c0 := HN.out.c0
      have f0 := HN.out.f 0
      go_wp2_with fail
      go_loop [8] (fun i => ∃ m : Nat, k ≤ m ∧ m ≤ s.length ∧ i = .int .i64 m ∧ Hid (∀ c ∈ mid s k m, okc (c.toNat : Int))) (fun i => s.length - (intOf i).toNat)
      case atStart => exact ⟨k, Nat.le_refl _, by omega, rfl, hide (by unfold mid; simp)⟩
      case round =>
        obtain ⟨m, hkm, hm, rfl, HO⟩ := hrel
        by_cases hlt : m < s.length
        · go_wp2_with fail
          obtain ⟨x, hx⟩ : ∃ x, x = (ByteArray.mk s.toArray)[m]'(by show m < s.toArray.size; simpa using hlt) := ⟨_, rfl⟩
          have HX := hide hx
          clear hx
          rw [← HX.out]
          refine (letter_exact _ _ (by omega) (by have := x.toNat_lt; omega)).mono ?_
          rintro e w1 ⟨rfl, rfl⟩
          generalize hq : letterV (x.toNat : Int) = q
          have HQ := hide hq
          clear hq
          cases q with
          | true =>
            go_wp2
            go_round
            case rel => exact ⟨m + 1, by omega, by omega, by go_num, hide (mid_ok hkm hlt HO.out (by have := letterV_ok HQ.out; rw [HX.out] at this; exact this))⟩
            case measure => simp [intOf]; omega
          | false =>
            go_wp2_with fail
            rw [← HX.out]
            refine (digit_u8 _ _).mono ?_
            rintro e w1 ⟨q2, rfl, hq2, rfl⟩
            have HQ2 := hide hq2
            clear hq2
            cases q2 with
            | true =>
              go_wp2
              go_round
              case rel => exact ⟨m + 1, by omega, by omega, by go_num, hide (mid_ok hkm hlt HO.out (by have := HQ2.out (by trivial); rw [HX.out] at this; exact this))⟩
              case measure => simp [intOf]; omega
            | false =>
              have hkm2 : k < m := by
                rcases Nat.lt_or_ge k m with h | h
                · exact h
                · have e : k = m := by omega
                  subst e
                  have h1 := HL.out.1
                  rw [HC.out] at h1
                  have h2 := HQ.out
                  rw [HX.out, ← h1] at h2
                  cases h2
              go_wp2_with fail
              go_meet
              exact ⟨m, 1, rfl, by omega, by omega, .inr (by omega), hide ⟨HN.out.set0 1, fun _ _ => mid_good hkm2 hm HO.out⟩⟩
        · go_wp2_with fail
          go_meet
          exact ⟨m, 1, rfl, by omega, by omega, .inr (by omega), hide ⟨HN.out.set0 1, fun _ _ => mid_good (by omega) hm HO.out⟩⟩
    | false =>
      have c0 := HN.out.c0
      have f0 := HN.out.f 0
      by_cases h45 : (cb.toNat : Int) = 45
      · have b45 : ((cb.toNat : Int) == 45) = true := by rw [h45]; rfl
        clear h45
        go_wp2_with fail
        refine (number_any s k _ (by omega) (by omega) HS.out.1).mono ?_
        rintro e w1 ⟨q, m, rfl, hq, hm, m0, m1, rfl⟩
        go_wp2_with fail
        go_meet
        exact ⟨m, q, rfl, m0, m1, by omega, hide ⟨HN.out.set0 q, fun h => absurd h hq⟩⟩
      · have b45 : ((cb.toNat : Int) == 45) = false := by simpa using h45
        clear h45
        go_wp2_with fail
        refine (digit_u8 _ _).mono ?_
        rintro e w1 ⟨q2, rfl, hq2, rfl⟩
        clear hq2
        cases q2 with
        | true =>
          go_wp2_with fail
          refine (number_any s k _ (by omega) (by omega) HS.out.1).mono ?_
          rintro e w1 ⟨q, m, rfl, hq, hm, m0, m1, rfl⟩
          go_wp2_with fail
          go_meet
          exact ⟨m, q, rfl, m0, m1, by omega, hide ⟨HN.out.set0 q, fun h => absurd h hq⟩⟩
        | false =>
          go_wp2_with fail
          refine (three_any s k _ (by omega) (by omega) HS.out.1).mono ?_
          rintro e w1 ⟨q3, rfl, hq3, rfl⟩
          have H3 := hide hq3
          clear hq3
          cases q3 with
          | true =>
            have h3 : (k : Int) + 3 ≤ s.length := H3.out (by trivial)
            go_wp2_with fail
            refine (block_any s k _ (by omega) (by omega) HS.out.2.2).mono ?_
            rintro e w1 ⟨b, m, rfl, hm, m0, m1, hb⟩
            have HM := hide ((HN.out.set0 4).more hb)
            clear hb c0 f0
            have c1 := HM.out.c1
            have f1 := HM.out.f 1
            have hr := (HM.out.set1 b).range
            go_wp2_with (first
                    | ((with_reducible show wpList _ _ _ ({ dst := _, op := .load 93 _, type := _, pos := _, after := _, guard := _ } :: _) _ _); refine wpList_loadE rfl hr Tryz.underlying93 rfl Tryz.sizeTk rfl ?_)
                    | ((with_reducible show wpList _ _ _ ({ dst := _, op := .store 93 _ _, type := _, pos := _, after := _, guard := _ } :: _) _ _); refine wpList_store_row rfl 93 _ _ rfl w.heap.size #[.int .i64 4, .string b, .int .i64 (k : Int)] rfl rfl 93 _ (HM.out.set1 b).out Tryz.sizeTk rfl (tok_one _ _ _) ?_))
            refine next_ret (HM.out.set1 b) ?_ ?_ ?_ m0 m1 hm (fun h _ => absurd h (by decide))
            all_goals rfl
          | false =>
            by_cases h34 : (cb.toNat : Int) = 34
            · have b34 : ((cb.toNat : Int) == 34) = true := by rw [h34]; rfl
              clear h34
              go_wp2_with fail
              refine (text_any s k _ (by omega) (by omega) HS.out.1).mono ?_
              rintro e w1 ⟨b, m, rfl, hm, m0, m1, hb⟩
              have HM := hide ((HN.out.set0 4).more hb)
              clear hb c0 f0
              have c1 := HM.out.c1
              have f1 := HM.out.f 1
              have hr := (HM.out.set1 b).range
              go_wp2_with (first
                      | ((with_reducible show wpList _ _ _ ({ dst := _, op := .load 93 _, type := _, pos := _, after := _, guard := _ } :: _) _ _); refine wpList_loadE rfl hr Tryz.underlying93 rfl Tryz.sizeTk rfl ?_)
                      | ((with_reducible show wpList _ _ _ ({ dst := _, op := .store 93 _ _, type := _, pos := _, after := _, guard := _ } :: _) _ _); refine wpList_store_row rfl 93 _ _ rfl w.heap.size #[.int .i64 4, .string b, .int .i64 (k : Int)] rfl rfl 93 _ (HM.out.set1 b).out Tryz.sizeTk rfl (tok_one _ _ _) ?_))
              refine next_ret (HM.out.set1 b) ?_ ?_ ?_ m0 m1 hm (fun h _ => absurd h (by decide))
              all_goals rfl
            · have b34 : ((cb.toNat : Int) == 34) = false := by simpa using h34
              clear h34 H3
              go_upto_region 19 with fail
              go_cut [88] (fun s88 wx => wz = wx ∧ ∃ b : Bool, s88 = .bool b ∧ (b = true → (k : Int) + 3 ≤ s.length))
              case first =>
                by_cases h3 : (k : Int) + 3 ≤ s.length
                · have H3 := hide h3
                  go_wp2
                  all_goals go_meet
                  all_goals exact ⟨rfl, _, rfl, fun _ => H3.out⟩
                · go_wp2
                  all_goals go_meet
                  all_goals exact ⟨rfl, _, rfl, fun h => by cases h⟩
              case rest =>
                obtain ⟨rfl, b, rfl, hb⟩ := hcut
                cases b with
                | true =>
                  have h3 := hb rfl
                  clear hb
                  go_wp2_with fail
                  go_meet
                  exact ⟨(k : Int) + 3, 5, rfl, by omega, by omega, by omega, hide ⟨HN.out.set0 5, fun h => absurd h (by decide)⟩⟩
                | false =>
                  clear hb c0 f0
                  go_wp2_with fail
                  go_loopw [8, 10] (fun e i wr => ∃ (m : Nat) (en q : Int), m ≤ 13 ∧ i = .int .i64 m ∧ e = .int .i64 en ∧ (en = 0 ∨ en = (k : Int) + 1) ∧ Hid (Nx w wr q ⟨#[]⟩ k ∧ q ≠ 1)) (fun _ i _ => 13 - (intOf i).toNat)
                  case atStart => exact ⟨0, 0, 0, by omega, rfl, rfl, .inl rfl, hide ⟨HN.out, by decide⟩⟩
                  case round =>
                    obtain ⟨m, en, q, hm, rfl, rfl, hen, HR⟩ := hrel
                    by_cases hlt : (m : Int) < 13
                    · obtain ⟨x, hidx, hx0, hx1⟩ := run_signs (n := m) (by omega)
                      have c0 := HR.out.1.c0
                      have f0 := HR.out.1.f 0
                      by_cases hxc : x = (cb.toNat : Int)
                      · have hb : (x == (cb.toNat : Int)) = true := by simp [hxc]
                        clear hxc
                        go_wp2_with fail
                        go_roundw
                        case rel => exact ⟨m + 1, (k : Int) + 1, 5, by omega, by go_num, rfl, .inr rfl, hide ⟨HR.out.1.set0 5, by decide⟩⟩
                        case measure => simp [intOf]; omega
                      · have hb : (x == (cb.toNat : Int)) = false := by simpa using hxc
                        clear hxc
                        go_wp2_with fail
                        go_roundw
                        case rel => exact ⟨m + 1, en, q, by omega, by go_num, rfl, hen, hide HR.out⟩
                        case measure => simp [intOf]; omega
                    · go_wp2_with fail
                      go_meet
                      exact ⟨en, q, rfl, by omega, by omega, by omega, hide ⟨HR.out.1, fun h => absurd h HR.out.2⟩⟩
  case rest =>
    obtain ⟨en, q, rfl, hen0, hen1, hen2, HR⟩ := hcut
    obtain ⟨en, rfl⟩ := Int.eq_ofNat_of_zero_le hen0
    by_cases hz : en = 0
    · subst hz
      have hr := HR.out.1.range
      go_wp2_with (first
        | ((with_reducible show wpList _ _ _ ({ dst := _, op := .load 93 _, type := _, pos := _, after := _, guard := _ } :: _) _ _); refine wpList_loadE rfl hr Tryz.underlying93 rfl Tryz.sizeTk rfl ?_)
        | ((with_reducible show wpList _ _ _ ({ dst := _, op := .store 93 _ _, type := _, pos := _, after := _, guard := _ } :: _) _ _); refine wpList_store_row rfl 93 _ _ rfl w.heap.size #[.int .i64 q, .string ⟨#[]⟩, .int .i64 (k : Int)] rfl rfl 93 _ HR.out.1.out Tryz.sizeTk rfl (tok_one _ _ _) ?_))
      refine next_ret HR.out.1 ?_ ?_ ?_ (by omega) (by omega) hen2 (fun _ h => by omega)
      all_goals rfl
    · have c1 := HR.out.1.c1
      have f1 := HR.out.1.f 1
      have HZ := hide (HR.out.1.set1 ((ByteArray.mk s.toArray).extract k en))
      have hr := HZ.out.range
      go_wp2_with (first
        | ((with_reducible show wpList _ _ _ ({ dst := _, op := .load 93 _, type := _, pos := _, after := _, guard := _ } :: _) _ _); refine wpList_loadE rfl hr Tryz.underlying93 rfl Tryz.sizeTk rfl ?_)
        | ((with_reducible show wpList _ _ _ ({ dst := _, op := .store 93 _ _, type := _, pos := _, after := _, guard := _ } :: _) _ _); refine wpList_store_row rfl 93 _ _ rfl w.heap.size #[.int .i64 q, .string ((ByteArray.mk s.toArray).extract k en), .int .i64 (k : Int)] rfl rfl 93 _ HZ.out.out Tryz.sizeTk rfl (tok_one _ _ _) ?_))
      refine next_ret HZ.out ?_ ?_ ?_ (by omega) (by omega) hen2 (fun hq h0 => ⟨by rw [mid_extract]; exact HR.out.2 hq h0, by have := extract_lt ⟨s.toArray⟩ k en; have := sz_tx s; omega⟩)
      all_goals rfl
end Go.Proofs.YtlpmnnkijdbopaaGreatDoor
