/-
  The walk of few (values that are soon gone through).
-/
import Derived.Test.YtlpmnnkijdbopaaArms
namespace Go.Proofs.Ytlpmnnkijdbopaa
open Go.RowKit

/-- the count that is left, in a block of its own -/
def Lf (w : World) (p : Nat) (c : Int) : Prop := w.heap[p]? = some (.cells #[.int .i64 c] 3 (0, 0))
theorem Lf.fz {w : World} {p : Nat} {c : Int} (h : Lf w p c) : w.frozen? ⟨p, 0, none⟩ = false := by unfold Lf at h; simp [World.frozen?, h]
theorem Lf.cell {w : World} {p : Nat} {c : Int} (h : Lf w p c) : w.cell? ⟨p, 0, none⟩ = some (.int .i64 c) := cell_of_row _ _ _ _ _ _ h
theorem Lf.alloc {w : World} {p : Nat} {c : Int} (h : Lf w p c) (o : Obj) : Lf (w.alloc o) p c := by
  unfold Lf at *
  rw [heap_alloc_old _ _ (lt_of_block h)]; exact h
theorem Lf.set {w : World} {p : Nat} {c : Int} (h : Lf w p c) (c' : Int) : Lf (w.setCell ⟨p, 0, none⟩ (.int .i64 c')) p c' := by
  unfold Lf at *
  exact heap_setCell_same w p 0 _ _ _ h
theorem grown_box {w : World} (p : Nat) (o : Obj) (u : Value) : w.grownBy ((w.setCell ⟨p, 0, none⟩ u).alloc o) (some p) :=
  ⟨rfl, rfl, rfl, by simp, fun k hk hne => by
    rw [heap_alloc_old _ _ (by simpa using hk), Below.heap_setCell _ _ _ _ (fun e => hne (by rw [e]))]⟩
theorem box_stays {w : World} {p : Nat} (o : Obj) (u : Value) : ((w.setCell ⟨p, 0, none⟩ u).alloc o).heap[w.heap.size]? = some o := by
  have := heap_alloc_new (w.setCell ⟨p, 0, none⟩ u) o
  simpa using this
theorem arg_parts {w : World} {b o : Nat} {R : V → List Value → Prop} {f : Bs × V × Int} {cs : List Value} (hr : w.rangeAt b o cs) (h : RArg R f cs) : w.cell? ⟨b, o, none⟩ = some (tx f.1) ∧ ∃ cv, cv.length = 5 ∧ w.rangeAt b (o + 1) cv ∧ R f.2.1 cv := by
  obtain ⟨cv, e, hl, hR⟩ := h
  subst e
  refine ⟨by have := hr 0 _ rfl; simpa using this, cv, hl, fun j u hu => ?_, hR⟩
  have := hr (j + 1) u (by
    rw [List.getElem?_cons_succ, List.getElem?_append_left (List.getElem?_eq_some_iff.1 hu).1]; exact hu)
  rw [show o + 1 + j = o + (j + 1) by omega]
  exact this
def FewPost (w : World) (p : Nat) (c : Int) (n : Nat) (v : V) (e : Ending) (w' : World) : Prop :=
  ∃ r c', e = .returned (.bool r) ∧ Lf w' p c' ∧ c' ≤ c ∧ -1 ≤ c' ∧ (r = true → 0 ≤ c' ∧ FewV n v) ∧ w.grownBy w' (some p)

set_option maxRecDepth 20000 in
set_option maxHeartbeats 3200000 in
theorem few_any (S : Nat → Prop) (n : Nat) : ∀ (v : V) (cs : List Value) (w : World) (p : Nat) (c d : Int), RV w S n v cs → (∀ b, S b → b < p) → Lf w p c → 0 ≤ c → c ≤ 400 → 0 ≤ d → d ≤ 21 →
    Calls Try.prog 56 #[.agg cs.toArray, .pointer (some ⟨p, 0, none⟩), .int .i64 d] w (FewPost w p c n v) := by
  induction n with
  | zero => exact fun _ _ _ _ _ _ h => h.elim
  | succ n ih0 =>
    rintro v cs w p c d ⟨A1, c1, A2, c2, e, h1, h2⟩ hS hL hc0 hc1 hd0 hd1
    have ih := hide ih0
    clear ih0
    subst e
    have hpl : p < w.heap.size := lt_of_block hL
    have hcell := hL.cell
    have hfz := hL.fz
    have hA := fun o => World.cell?_alloc_lt w o ⟨p, 0, none⟩ hpl
    have hF := fun o => World.frozen?_alloc_old w o ⟨p, 0, none⟩ (Nat.ne_of_lt hpl)
    have hw1 : IntKind.i64.wrap (c - 1) = c - 1 := IntWalk.i64_in _ (by omega)
    by_cases hneg : c - 1 < 0
    · have H := hide (And.intro hL hL)
      clear hL h1 h2 hS ih
      go_enter Try.func56, Try.ntmps56
      go_wp2
      go_ret
      exact ⟨false, c - 1, rfl, (H.out.1.set _).alloc _, by omega, by omega, by simp, grown_box _ _ _⟩
    by_cases hdeep : 20 < d
    · have H := hide (And.intro hL hL)
      clear hL h1 h2 hS ih
      go_enter Try.func56, Try.ntmps56
      go_wp2
      go_ret
      exact ⟨false, c - 1, rfl, (H.out.1.set _).alloc _, by omega, by omega, by simp, grown_box _ _ _⟩
    by_cases htx : 500 < (v.text.length : Int)
    · have H := hide (And.intro hL hL)
      clear hL h1 h2 hS ih
      go_enter Try.func56, Try.ntmps56
      go_wp2
      go_ret
      exact ⟨false, c - 1, rfl, (H.out.1.set _).alloc _, by omega, by omega, by simp, grown_box _ _ _⟩
    by_cases hix : 300 < (v.items.length : Int)
    · have H := hide (And.intro hL hL)
      clear hL h1 h2 hS ih
      go_enter Try.func56, Try.ntmps56
      go_wp2
      go_ret
      exact ⟨false, c - 1, rfl, (H.out.1.set _).alloc _, by omega, by omega, by simp, grown_box _ _ _⟩
    by_cases hfx : 300 < (v.fields.length : Int)
    · have H := hide (And.intro hL hL)
      clear hL h1 h2 hS ih
      go_enter Try.func56, Try.ntmps56
      go_wp2
      go_ret
      exact ⟨false, c - 1, rfl, (H.out.1.set _).alloc _, by omega, by omega, by simp, grown_box _ _ _⟩
    have hSw : ∀ b, S b → b < w.heap.size := fun b hb => Nat.lt_trans (hS b hb) hpl
    have hwd : IntKind.i64.wrap (d + 1) = d + 1 := IntWalk.i64_in _ (by omega)
    have H := hide (And.intro hL (And.intro h1 (And.intro h2 (And.intro hS (And.intro hSw hpl)))))
    clear hL h1 h2 hS hSw
    obtain ⟨box, hbox⟩ : ∃ b : Obj, b = .cells #[.int .i64 v.kind, tx v.text, .slice A1 v.items.length c1, .slice A2 v.fields.length c2, .int .i64 v.pos] 67 (0, 0) := ⟨_, rfl⟩
    have HB := hide hbox
    clear hbox
    go_enter Try.func56, Try.ntmps56
    go_wp2
    go_loopw [43] (fun i wr => ∃ k : Nat, k ≤ v.items.length ∧ i = .int .i64 k ∧ Hid (∃ c', Lf wr p c' ∧ 0 ≤ c' ∧ c' ≤ c ∧ w.grownBy wr (some p) ∧ wr.heap[w.heap.size]? = some box ∧ ∀ x ∈ v.items.take k, FewV n x)) (fun i _ => v.items.length - (intOf i).toNat)
    case atStart =>
      refine ⟨0, Nat.zero_le _, rfl, hide ⟨c - 1, (H.out.1.set _).alloc _, by omega, by omega, grown_box _ _ _, ?_, by simp⟩⟩
      rw [HB.out]; exact box_stays _ _
    case round =>
      obtain ⟨k, hk, rfl, HR⟩ := hrel
      obtain ⟨c', hL, hc0', hc1', hg, hbx, hfew⟩ := HR.out
      have hLc := hL.cell
      have hLz := hL.fz
      have hb2 : wr.cell? ⟨w.heap.size, 2, none⟩ = some (.slice A1 v.items.length c1) := by rw [HB.out] at hbx; rw [cell_of_row _ _ _ _ _ _ hbx]; rfl
      have hb3 : wr.cell? ⟨w.heap.size, 3, none⟩ = some (.slice A2 v.fields.length c2) := by rw [HB.out] at hbx; rw [cell_of_row _ _ _ _ _ _ hbx]; rfl
      have hwS : ∀ b, S b → wr.heap[b]? = w.heap[b]? := fun b hb => hg.block b (H.out.2.2.2.2.1 b hb) (fun e => by injection e with e; have := H.out.2.2.2.1 b hb; omega)
      by_cases hlt : k < v.items.length
      · obtain ⟨b, o, hA1, hel⟩ := H.out.2.1.addr
        obtain ⟨hA1, _⟩ := hA1 (ne_nil_of_lt hlt)
        obtain ⟨ce, hcl, hr, hRV⟩ := hel k _ (List.getElem?_eq_getElem hlt)
        have hr := range_congr (hwS b (by assumption)) hr
        have hRV := RV.map (fun _ h => h) hwS n _ _ hRV
        have HN := hide (And.intro hL (And.intro hg (And.intro hbx (And.intro hfew (And.intro hA1 (And.intro hr (And.intro hRV hcl)))))))
        clear hL hg hbx hfew hA1 hr hRV hel hwS HR hcl
        go_wp2_with (first
          | ((with_reducible show wpList _ _ _ ({ dst := _, op := .indexAddr 64 _ _, type := _, pos := _, after := _, guard := _ } :: _) _ _); refine wpList_index Try.underlying64 Try.sizeV rfl rfl HN.out.2.2.2.2.1 hlt rfl ?_)
          | ((with_reducible show wpList _ _ _ ({ dst := _, op := .load 67 _, type := _, pos := _, after := _, guard := _ } :: _) _ _); refine wpList_loadE rfl HN.out.2.2.2.2.2.1 Try.underlying67 rfl (by rw [Try.sizeV, HN.out.2.2.2.2.2.2.2]) rfl ?_))
        refine (ih.out _ _ _ _ _ _ HN.out.2.2.2.2.2.2.1 H.out.2.2.2.1 HN.out.1 hc0' (by omega) (by omega) (by omega)).mono ?_
        rintro e w2 ⟨r, c2', rfl, hL2, hle2, hge2, hr2, hg2⟩
        cases r
        · have HM := hide (And.intro hL2 (HN.out.2.1.trans hg2))
          clear hL2 hg2 hr2
          go_wp2
          go_ret
          exact ⟨false, c2', rfl, HM.out.1, by omega, hge2, by simp, HM.out.2⟩
        · obtain ⟨hge3, hfv⟩ := hr2 rfl
          have hbx2 : w2.heap[w.heap.size]? = some box := by
            rw [hg2.block _ (lt_of_block HN.out.2.2.1) (fun e => by injection e with e; have := H.out.2.2.2.2.2; omega)]; exact HN.out.2.2.1
          have hf2 : ∀ x ∈ v.items.take (k + 1), FewV n x := by
            intro x hx
            rw [List.take_succ_eq_append_getElem hlt] at hx
            rcases List.mem_append.1 hx with hx | hx
            · exact HN.out.2.2.2.1 x hx
            · rw [List.mem_singleton.1 hx]; exact hfv
          have HM := hide (And.intro hL2 (And.intro (HN.out.2.1.trans hg2) (And.intro hbx2 hf2)))
          clear hL2 hg2 hr2 hbx2 hf2 hfv
          go_wp2
          go_roundw
          case rel => exact ⟨k + 1, by omega, by go_num, hide ⟨c2', HM.out.1, hge3, by omega, HM.out.2.1, HM.out.2.2.1, HM.out.2.2.2⟩⟩
          case measure => simp [intOf]; omega
      · have hall : ∀ x ∈ v.items, FewV n x := by rw [List.take_of_length_le (by omega)] at hfew; exact hfew
        have HX := hide (And.intro hL (And.intro hg (And.intro hbx hall)))
        clear hL hg hbx hall hfew HR hb2 hwS
        go_wp2
        go_loopw [60] (fun i wr => ∃ k : Nat, k ≤ v.fields.length ∧ i = .int .i64 k ∧ Hid (∃ c', Lf wr p c' ∧ 0 ≤ c' ∧ c' ≤ c ∧ w.grownBy wr (some p) ∧ wr.heap[w.heap.size]? = some box ∧ ∀ x ∈ v.fields.take k, x.1.length ≤ 100 ∧ FewV n x.2.1)) (fun i _ => v.fields.length - (intOf i).toNat)
        case atStart => exact ⟨0, Nat.zero_le _, rfl, hide ⟨c', HX.out.1, hc0', hc1', HX.out.2.1, HX.out.2.2.1, by simp⟩⟩
        case round =>
          clear hLc hLz hb3
          obtain ⟨m, hm, rfl, HR⟩ := hrel
          obtain ⟨c'', hL, hc0'', hc1'', hg, hbx, hfew⟩ := HR.out
          have hb3 : wr.cell? ⟨w.heap.size, 3, none⟩ = some (.slice A2 v.fields.length c2) := by rw [HB.out] at hbx; rw [cell_of_row _ _ _ _ _ _ hbx]; rfl
          have hwS : ∀ b, S b → wr.heap[b]? = w.heap[b]? := fun b hb => hg.block b (H.out.2.2.2.2.1 b hb) (fun e => by injection e with e; have := H.out.2.2.2.1 b hb; omega)
          by_cases hlm : m < v.fields.length
          · obtain ⟨b, o, hA2, hel⟩ := H.out.2.2.1.addr
            obtain ⟨hA2, _⟩ := hA2 (ne_nil_of_lt hlm)
            obtain ⟨ce, hcl, hr, hRA⟩ := hel m _ (List.getElem?_eq_getElem hlm)
            have hr := range_congr (hwS b (by assumption)) hr
            obtain ⟨f, hf⟩ : ∃ f, f = v.fields[m] := ⟨_, rfl⟩
            rw [← hf] at hRA
            obtain ⟨hname, cv, hcvl, hrv, hRV⟩ := arg_parts hr hRA
            have hRV := RV.map (fun _ h => h) hwS n _ _ hRV
            by_cases hnl : 100 < (f.1.length : Int)
            · have HN := hide (And.intro hL (And.intro hg hA2))
              clear hL hg hbx hfew hA2 hr hRV hel hwS HR hcl hRA hf hrv hcvl
              go_wp2_with (first
                | ((with_reducible show wpList _ _ _ ({ dst := _, op := .indexAddr 65 _ _, type := _, pos := _, after := _, guard := _ } :: _) _ _); refine wpList_index Try.underlying65 Try.sizeA rfl rfl HN.out.2.2 hlm rfl ?_))
              go_ret
              exact ⟨false, c'', rfl, HN.out.1, by omega, by omega, by simp, HN.out.2.1⟩
            · have HN := hide (And.intro hL (And.intro hg (And.intro hbx (And.intro hfew (And.intro hA2 (And.intro hrv (And.intro hRV (And.intro hcvl hf))))))))
              clear hL hg hbx hfew hA2 hr hRV hel hwS HR hcl hRA hf hrv hcvl
              go_wp2_with (first
                | ((with_reducible show wpList _ _ _ ({ dst := _, op := .indexAddr 65 _ _, type := _, pos := _, after := _, guard := _ } :: _) _ _); refine wpList_index Try.underlying65 Try.sizeA rfl rfl HN.out.2.2.2.2.1 hlm rfl ?_)
                | ((with_reducible show wpList _ _ _ ({ dst := _, op := .load 67 _, type := _, pos := _, after := _, guard := _ } :: _) _ _); refine wpList_loadE rfl HN.out.2.2.2.2.2.1 Try.underlying67 rfl (by rw [Try.sizeV, HN.out.2.2.2.2.2.2.2.1]) rfl ?_))
              refine (ih.out _ _ _ _ _ _ HN.out.2.2.2.2.2.2.1 H.out.2.2.2.1 HN.out.1 hc0'' (by omega) (by omega) (by omega)).mono ?_
              rintro e w2 ⟨r, c2', rfl, hL2, hle2, hge2, hr2, hg2⟩
              cases r
              · have HM := hide (And.intro hL2 (HN.out.2.1.trans hg2))
                clear hL2 hg2 hr2
                go_wp2
                go_ret
                exact ⟨false, c2', rfl, HM.out.1, by omega, hge2, by simp, HM.out.2⟩
              · obtain ⟨hge3, hfv⟩ := hr2 rfl
                have hbx2 : w2.heap[w.heap.size]? = some box := by
                  rw [hg2.block _ (lt_of_block HN.out.2.2.1) (fun e => by injection e with e; have := H.out.2.2.2.2.2; omega)]; exact HN.out.2.2.1
                have hf2 : ∀ x ∈ v.fields.take (m + 1), x.1.length ≤ 100 ∧ FewV n x.2.1 := by
                  intro x hx
                  rw [List.take_succ_eq_append_getElem hlm] at hx
                  rcases List.mem_append.1 hx with hx | hx
                  · exact HN.out.2.2.2.1 x hx
                  · rw [List.mem_singleton.1 hx, ← HN.out.2.2.2.2.2.2.2.2]; exact ⟨by omega, hfv⟩
                have HM := hide (And.intro hL2 (And.intro (HN.out.2.1.trans hg2) (And.intro hbx2 hf2)))
                clear hL2 hg2 hr2 hbx2 hf2 hfv
                go_wp2
                go_roundw
                case rel => exact ⟨m + 1, by omega, by go_num, hide ⟨c2', HM.out.1, hge3, by omega, HM.out.2.1, HM.out.2.2.1, HM.out.2.2.2⟩⟩
                case measure => simp [intOf]; omega
          · have hall : ∀ x ∈ v.fields, x.1.length ≤ 100 ∧ FewV n x.2.1 := by rw [List.take_of_length_le (by omega)] at hfew; exact hfew
            have HY := hide (And.intro hL (And.intro hg hall))
            clear hL hg hbx hall hfew HR hb3 hwS
            go_wp2
            go_ret
            exact ⟨true, c'', rfl, HY.out.1, by omega, by omega, fun _ => ⟨hc0'', by omega, by omega, by omega, HX.out.2.2.2, HY.out.2.2⟩, HY.out.2.1⟩
end Go.Proofs.Ytlpmnnkijdbopaa
