/-
  The walk of Overlap.
-/
import Derived.Test.YtlpmnnkijdbopaaPoss
namespace Go.Proofs.Ytlpmnnkijdbopaa
open Go.RowKit Go.Maps

theorem over1_any {w : World} {S : Nat → Prop} {A : Option Addr} {l : List Bs} {s : Bs} {g c : Nat} (hg : w.cell? ⟨g, 0, none⟩ = some (.slice A l.length c)) (h : Sl w S 1 A RS l) (hl : l.length ≤ 1000000) :
    Calls Try.prog 38 #[tx s, .pointer (some ⟨g, 0, none⟩)] w fun e w' => e = .returned (.bool (decide (s ∈ l))) ∧ w = w' := by
  have H := hide (And.intro h hl)
  clear h hl
  go_enter Try.func38, Try.ntmps38
  go_wp2_with fail
  refine (containsS_any c H.out.1 H.out.2).mono ?_
  rintro e w' ⟨rfl, rfl⟩
  go_wp2
  go_ret
  exact ⟨rfl, rfl⟩
def IxfPost (l l2 : List Bs) (w : World) (e : Ending) (w' : World) : Prop := ∃ i : Int, e = .returned (.int .i64 i) ∧ (0 ≤ i ↔ ∃ x ∈ l, x ∈ l2) ∧ -1 ≤ i ∧ i ≤ 1000000 ∧ w = w'
set_option maxHeartbeats 800000 in
theorem indexF_any {w : World} {S S2 : Nat → Prop} {A A2 : Option Addr} {l l2 : List Bs} {g c2 : Nat} (c : Nat) (h : Sl w S 1 A RS l) (hl : l.length ≤ 1000000) (hg : w.cell? ⟨g, 0, none⟩ = some (.slice A2 l2.length c2)) (h2 : Sl w S2 1 A2 RS l2) (hl2 : l2.length ≤ 1000000) :
    Calls Try.prog 54 #[.slice A l.length c, .func (.func 38) #[] #[.pointer (some ⟨g, 0, none⟩)]] w (IxfPost l l2 w) := by
  have i1 : (l.length : Int) ≤ 1000000 := by omega
  have H := hide (And.intro h (And.intro hg (And.intro h2 hl2)))
  clear h hl hg h2 hl2
  go_enter Try.func54, Try.ntmps54
  go_wp2
  go_loop [8] (fun i => ∃ k : Nat, k ≤ l.length ∧ i = .int .i64 k ∧ Hid (∀ x ∈ l.take k, x ∉ l2)) (fun i => l.length - (intOf i).toNat)
  case atStart => exact ⟨0, Nat.zero_le _, rfl, hide (by simp)⟩
  case round =>
    obtain ⟨k, hk, rfl, HR⟩ := hrel
    by_cases hlt : k < l.length
    · obtain ⟨b, o, hA, _, hc⟩ := rs_at H.out.1 hlt
      obtain ⟨x, hx⟩ : ∃ x, x = l[k] := ⟨_, rfl⟩
      rw [← hx] at hc
      have C := over1_any (s := x) H.out.2.1 H.out.2.2.1 H.out.2.2.2
      have HA := hide (And.intro hA hx)
      clear hA hx
      cases hq : decide (x ∈ l2) with
      | true =>
        have Q := hide hq
        rw [hq] at C
        have HC := hide C
        clear hq C
        go_wp2_with (first | ((with_reducible show wpList _ _ _ ({ dst := _, op := .indexAddr 31 _ _, type := _, pos := _, after := _, guard := _ } :: _) _ _); refine wpList_index Try.underlying31 Try.sizeS rfl rfl HA.out.1 hlt rfl ?_) | (go_at_call 38; refine HC.out.mono ?_; rintro e w' ⟨rfl, rfl⟩))
        go_ret
        exact ⟨k, rfl, ⟨fun _ => ⟨x, by rw [HA.out.2]; exact List.getElem_mem _, by simpa using Q.out⟩, fun _ => by omega⟩, by omega, by omega, rfl⟩
      | false =>
        have Q := hide hq
        rw [hq] at C
        have HC := hide C
        clear hq C
        go_wp2_with (first | ((with_reducible show wpList _ _ _ ({ dst := _, op := .indexAddr 31 _ _, type := _, pos := _, after := _, guard := _ } :: _) _ _); refine wpList_index Try.underlying31 Try.sizeS rfl rfl HA.out.1 hlt rfl ?_) | (go_at_call 38; refine HC.out.mono ?_; rintro e w' ⟨rfl, rfl⟩))
        go_round
        case rel => exact ⟨k + 1, by omega, by go_num, hide (fun y hy => by
          rw [List.take_succ_eq_append_getElem hlt] at hy
          rcases List.mem_append.1 hy with hy | hy
          · exact HR.out y hy
          · rw [List.mem_singleton.1 hy, ← HA.out.2]; simpa using Q.out)⟩
        case measure => simp [intOf]; omega
    · go_wp2
      go_ret
      exact ⟨-1, rfl, ⟨fun h => by omega, fun ⟨x, hx, hx2⟩ => absurd hx2 (HR.out x (by rw [List.take_of_length_le (by omega)]; exact hx))⟩, by omega, by omega, rfl⟩
/-- have two lists a text in common? -/
def common (l l2 : List Bs) : Bool := l.any fun x => decide (x ∈ l2)
theorem containsF_any {w : World} {S S2 : Nat → Prop} {A A2 : Option Addr} {l l2 : List Bs} {g c2 : Nat} (c : Nat) (h : Sl w S 1 A RS l) (hl : l.length ≤ 1000000) (hg : w.cell? ⟨g, 0, none⟩ = some (.slice A2 l2.length c2)) (h2 : Sl w S2 1 A2 RS l2) (hl2 : l2.length ≤ 1000000) :
    Calls Try.prog 37 #[.slice A l.length c, .func (.func 38) #[] #[.pointer (some ⟨g, 0, none⟩)]] w fun e w' => e = .returned (.bool (common l l2)) ∧ w = w' := by
  have H := hide (And.intro h (And.intro hl (And.intro hg (And.intro h2 hl2))))
  clear h hl hg h2 hl2
  go_enter Try.func37, Try.ntmps37
  go_wp2_with fail
  refine (indexF_any c H.out.1 H.out.2.1 H.out.2.2.1 H.out.2.2.2.1 H.out.2.2.2.2).mono ?_
  rintro e w1 ⟨i, rfl, hi, i1, i2, rfl⟩
  have hcm : common l l2 = true ↔ ∃ x ∈ l, x ∈ l2 := by unfold common; simp
  by_cases hm : common l l2 = true
  · have h0 := hi.2 (hcm.1 hm)
    have HM := hide hm
    clear hi hm hcm
    go_wp2
    go_ret
    exact ⟨by simp [HM.out], rfl⟩
  · have h0 : i < 0 := by have : ¬ 0 ≤ i := fun h => hm (hcm.2 (hi.1 h)); omega
    have HM := hide hm
    clear hi hm hcm
    go_wp2
    go_ret
    exact ⟨by simp [HM.out]; omega, rfl⟩
def over (T : Ts) (a b : Bs) : Bool := common (poss T a) (poss T b)
theorem poss_le {n lo hi p : Nat} {w : World} {T : Ts} {X : TL} (h : TysX n w lo hi p T X) (k : Bs) : (poss T k).length ≤ 80 := by
  have := compact_le ((raw T k).mergeSort fun x y => decide (x ≤ y))
  rw [List.length_mergeSort] at this
  have h2 := raw_le h k
  unfold poss
  omega
set_option maxHeartbeats 800000 in
theorem overlap_any {n lo hi p : Nat} {w : World} {T : Ts} {X : TL} {a b : Bs} (h : TysX n w lo hi p T X) (ha : a.length ≤ maxLen) (hb : b.length ≤ maxLen) :
    Calls Try.prog 17 #[.pointer (some ⟨p, 0, none⟩), tx a, tx b] w fun e w' => e = .returned (.bool (over T a b)) ∧ Below w.heap.size w w' := by
  have H := hide (And.intro h (And.intro ha hb))
  clear h ha hb
  go_enter Try.func17, Try.ntmps17
  go_wp2_with fail
  refine (possible_any H.out.1 H.out.2.2).mono ?_
  rintro e w1 ⟨A2, rfl, hr2, hb1⟩
  have hs1 := hb1.size
  have H1 := hide (And.intro hr2 (And.intro hb1 (H.out.1.below hb1)))
  clear hr2 hb1
  go_wp2_with fail
  obtain ⟨w2, hw2⟩ : ∃ w2, w2 = w1.alloc (.cells #[.slice A2 (poss T b).length (poss T b).length] 31) := ⟨_, rfl⟩
  rw [← hw2]
  have hb2 : Below w1.heap.size w1 w2 := by rw [hw2]; exact (Below.refl _ _).alloc (Nat.le_refl _) _
  have hc2 : w2.cell? ⟨w1.heap.size, 0, none⟩ = some (.slice A2 (poss T b).length (poss T b).length) := by rw [hw2, cell_of_row _ _ _ _ _ _ (heap_alloc_new w1 _)]; rfl
  have H2 := hide (And.intro hb2 (And.intro hc2 (H1.out.2.2.below hb2)))
  clear hw2 hb2 hc2
  refine (possible_any H2.out.2.2 H.out.2.1).mono ?_
  rintro e w3 ⟨A3, rfl, hr3, hb3⟩
  have hc3 := (hb3.cell (lt_of_cell H2.out.2.1)).trans H2.out.2.1
  have hs2 := H2.out.1.size
  have s2 : Sl w3 (fun b => b < w1.heap.size) 1 A2 RS (poss T b) := (H1.out.1.sl (S := fun b => b < w1.heap.size) (fun b _ h => h)).map (fun _ h => h) (fun b hb => by rw [hb3.block b (by omega), H2.out.1.block b hb]) (fun _ _ h => h)
  have s3 : Sl w3 (fun _ => True) 1 A3 RS (poss T a) := hr3.sl (fun _ _ _ => trivial)
  have H3 := hide (And.intro hc3 (And.intro s2 (And.intro s3 (H1.out.2.1.trans ((H2.out.1.mono hs1).trans (hb3.mono (by omega)))))))
  clear hr3 hb3 hc3 s2 s3
  go_wp2_with fail
  refine (containsF_any (l := poss T a) (l2 := poss T b) _ H3.out.2.2.1 (by have := poss_le H.out.1 a; omega) H3.out.1 H3.out.2.1 (by have := poss_le H.out.1 b; omega)).mono ?_
  rintro e w4 ⟨rfl, rfl⟩
  go_wp2
  go_ret
  exact ⟨rfl, H3.out.2.2.2⟩
end Go.Proofs.Ytlpmnnkijdbopaa
