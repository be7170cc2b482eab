/-
  The walks of Few (a value), inputs and Few (types).
-/
import Derived.Test.YtlpmnnkijdbopaaFew
namespace Go.Proofs.Ytlpmnnkijdbopaa
open Go.RowKit

def OkPost (w : World) (G : Prop) (e : Ending) (w' : World) : Prop := ∃ r, e = .returned (.bool r) ∧ (r = true → G) ∧ Below w.heap.size w w'
set_option maxHeartbeats 800000 in
theorem fewval_any {S : Nat → Prop} {n : Nat} {v : V} {cs : List Value} {w : World} (h : RV w S n v cs) (hS : ∀ b, S b → b < w.heap.size) :
    Calls Try.prog 40 #[.agg cs.toArray] w (OkPost w (FewV n v)) := by
  cases n with
  | zero => exact h.elim
  | succ n =>
    have h0 := h
    obtain ⟨A1, c1, A2, c2, e, _, _⟩ := h
    subst e
    have H := hide (And.intro h0 hS)
    clear h0 hS
    go_enter Try.func40, Try.ntmps40
    go_wp2_with fail
    have hb : Below w.heap.size w _ := ((Below.refl w.heap.size w).alloc (Nat.le_refl _) (.cells #[.int .i64 v.kind, tx v.text, .slice A1 v.items.length c1, .slice A2 v.fields.length c2, .int .i64 v.pos] 67)).alloc (by simp) (.cells #[.int .i64 400] 3)
    have hS' : ∀ b, S b → b < w.heap.size + 1 := fun b hb => by have := H.out.2 b hb; omega
    refine (few_any S (n + 1) _ _ _ _ _ _ (RV.map (fun _ h => h) (fun b hb' => hb.block b (H.out.2 b hb')) _ _ _ H.out.1) hS' (by unfold Lf; have := heap_alloc2_new w (.cells #[.int .i64 v.kind, tx v.text, .slice A1 v.items.length c1, .slice A2 v.fields.length c2, .int .i64 v.pos] 67) (.cells #[.int .i64 400] 3); exact this) (by omega) (by omega) (by omega) (by omega)).mono ?_
    rintro e w2 ⟨r, c', rfl, hL, _, _, hr, hg⟩
    have HM := hide (And.intro hr (hb.grown hg (by simp; omega) (fun q hq => by injection hq with hq; omega)))
    clear hL hr hg hb
    go_wp2
    go_ret
    exact ⟨r, rfl, fun h => (HM.out.1 h).2, HM.out.2⟩

theorem in_parts {w : World} {S : Nat → Prop} {n : Nat} {i : In} {cs : List Value} (h : RI w S n i cs) : ∃ A1 c1 A2 c2, cs = [tx i.name, tx i.typ, .bool i.has, .int .i64 i.dflt.kind, tx i.dflt.text, .slice A1 i.dflt.items.length c1, .slice A2 i.dflt.fields.length c2, .int .i64 i.dflt.pos, .int .i64 i.pos] ∧
    RV w S n i.dflt [.int .i64 i.dflt.kind, tx i.dflt.text, .slice A1 i.dflt.items.length c1, .slice A2 i.dflt.fields.length c2, .int .i64 i.dflt.pos] := by
  obtain ⟨cv, e, _, hR⟩ := h
  cases n with
  | zero => exact hR.elim
  | succ n =>
    have hR0 := hR
    obtain ⟨A1, c1, A2, c2, e2, _⟩ := hR
    subst e2
    exact ⟨A1, c1, A2, c2, e, hR0⟩
/-- The block of a copy that the call's loop has made: its cells. -/
theorem new_cell (w : World) (cs : List Value) (t : TypeId) (j : Nat) (u : Value) (h : cs[j]? = some u) : (w.alloc (.cells cs.toArray t (0, 0))).cell? ⟨w.heap.size, j, none⟩ = some u := by
  rw [cell_of_row _ _ _ _ _ _ (heap_alloc_new w _)]
  simpa using h
set_option maxRecDepth 20000 in
set_option maxHeartbeats 1600000 in
theorem inputs_any {S : Nat → Prop} {n : Nat} {l : List In} {A : Option Addr} {w : World} (c : Nat) (h : Sl w S 9 A (RI w S n) l) (hS : ∀ b, S b → b < w.heap.size) :
    Calls Try.prog 22 #[.slice A l.length c] w (OkPost w (FewI n l)) := by
  by_cases hlen : 60 < (l.length : Int)
  · clear h hS
    go_enter Try.func22, Try.ntmps22
    go_wp2
    go_ret
    exact ⟨false, rfl, by simp, Below.refl _ _⟩
  · have H := hide (And.intro h hS)
    clear h hS
    go_enter Try.func22, Try.ntmps22
    go_wp2
    go_loopw [10] (fun i wr => ∃ k : Nat, k ≤ l.length ∧ i = .int .i64 k ∧ Hid (Below w.heap.size w wr ∧ ∀ d ∈ l.take k, d.name.length ≤ 200 ∧ d.typ.length ≤ 300 ∧ FewV n d.dflt)) (fun i _ => l.length - (intOf i).toNat)
    case atStart => exact ⟨0, Nat.zero_le _, rfl, hide ⟨Below.refl _ _, by simp⟩⟩
    case round =>
      obtain ⟨k, hk, rfl, HR⟩ := hrel
      by_cases hlt : k < l.length
      · obtain ⟨b, o, hA1, hel⟩ := H.out.1.addr
        obtain ⟨hA1, hSb⟩ := hA1 (ne_nil_of_lt hlt)
        obtain ⟨ce, _, hr, hRI⟩ := hel k _ (List.getElem?_eq_getElem hlt)
        obtain ⟨d, hd⟩ : ∃ d, d = l[k] := ⟨_, rfl⟩
        rw [← hd] at hRI
        have hwS : ∀ b, S b → wr.heap[b]? = w.heap[b]? := fun b hb => HR.out.1.block b (H.out.2 b hb)
        have hr := range_congr (hwS b hSb) hr
        obtain ⟨A1, c1, A2, c2, e, hRV⟩ := in_parts hRI
        subst e
        have hRV := RV.map (fun _ h => h) hwS n _ _ hRV
        have hsz := HR.out.1.size
        have HN := hide (And.intro hA1 (And.intro hr (And.intro hRV hd)))
        have hb0 := hide HR.out.1
        have hfew := hide HR.out.2
        clear hA1 hr hRV hd hel hRI hwS hSb HR
        by_cases hn : 200 < (d.name.length : Int)
        · go_wp2_with (first
            | ((with_reducible show wpList _ _ _ ({ dst := _, op := .indexAddr 33 _ _, type := _, pos := _, after := _, guard := _ } :: _) _ _); refine wpList_index Try.underlying33 Try.sizeI rfl rfl HN.out.1 hlt rfl ?_)
            | ((with_reducible show wpList _ _ _ ({ dst := _, op := .load 69 _, type := _, pos := _, after := _, guard := _ } :: _) _ _); refine wpList_loadE rfl HN.out.2.1 Try.underlying69 rfl Try.sizeI rfl ?_)
            | ((with_reducible show wpList _ _ _ ({ dst := _, op := .store 69 _ _, type := _, pos := _, after := _, guard := _ } :: _) _ _); refine wpList_store_new rfl rfl rfl Try.sizeI rfl rfl ?_))
          go_ret
          exact ⟨false, rfl, by simp, hb0.out.alloc hsz _⟩
        by_cases ht : 300 < (d.typ.length : Int)
        · go_wp2_with (first
            | ((with_reducible show wpList _ _ _ ({ dst := _, op := .indexAddr 33 _ _, type := _, pos := _, after := _, guard := _ } :: _) _ _); refine wpList_index Try.underlying33 Try.sizeI rfl rfl HN.out.1 hlt rfl ?_)
            | ((with_reducible show wpList _ _ _ ({ dst := _, op := .load 69 _, type := _, pos := _, after := _, guard := _ } :: _) _ _); refine wpList_loadE rfl HN.out.2.1 Try.underlying69 rfl Try.sizeI rfl ?_)
            | ((with_reducible show wpList _ _ _ ({ dst := _, op := .store 69 _ _, type := _, pos := _, after := _, guard := _ } :: _) _ _); refine wpList_store_new rfl rfl rfl Try.sizeI rfl rfl ?_))
          go_ret
          exact ⟨false, rfl, by simp, hb0.out.alloc hsz _⟩
        go_wp2_with (first
            | ((with_reducible show wpList _ _ _ ({ dst := _, op := .indexAddr 33 _ _, type := _, pos := _, after := _, guard := _ } :: _) _ _); refine wpList_index Try.underlying33 Try.sizeI rfl rfl HN.out.1 hlt rfl ?_)
            | ((with_reducible show wpList _ _ _ ({ dst := _, op := .load 69 _, type := _, pos := _, after := _, guard := _ } :: _) _ _); refine wpList_loadE rfl HN.out.2.1 Try.underlying69 rfl Try.sizeI rfl ?_)
            | ((with_reducible show wpList _ _ _ ({ dst := _, op := .store 69 _ _, type := _, pos := _, after := _, guard := _ } :: _) _ _); refine wpList_store_new rfl rfl rfl Try.sizeI rfl rfl ?_))
        have hb1 := hb0.out.alloc hsz (.cells #[tx d.name, tx d.typ, .bool d.has, .int .i64 d.dflt.kind, tx d.dflt.text, .slice A1 d.dflt.items.length c1, .slice A2 d.dflt.fields.length c2, .int .i64 d.dflt.pos, .int .i64 d.pos] 69)
        refine (fewval_any (S := S) (n := n) (v := d.dflt) (cs := [.int .i64 d.dflt.kind, tx d.dflt.text, .slice A1 d.dflt.items.length c1, .slice A2 d.dflt.fields.length c2, .int .i64 d.dflt.pos]) (RV.map (fun _ h => h) (fun b hb => (heap_alloc_old _ _ (Nat.lt_of_lt_of_le (H.out.2 b hb) hsz))) _ _ _ HN.out.2.2.1) (fun b hb => by have := H.out.2 b hb; simp; omega)).mono ?_
        rintro e w2 ⟨r, rfl, hr2, hb2⟩
        have hb3 := hb1.trans (hb2.mono hb1.size)
        cases r
        · have HM := hide hb3
          clear hb1 hb2 hb3 hr2
          go_wp2
          go_ret
          exact ⟨false, rfl, by simp, HM.out⟩
        · have hf2 : ∀ x ∈ l.take (k + 1), x.name.length ≤ 200 ∧ x.typ.length ≤ 300 ∧ FewV n x.dflt := by
            intro x hx
            rw [List.take_succ_eq_append_getElem hlt] at hx
            rcases List.mem_append.1 hx with hx | hx
            · exact hfew.out x hx
            · rw [List.mem_singleton.1 hx, ← HN.out.2.2.2]; exact ⟨by omega, by omega, hr2 rfl⟩
          have HM := hide (And.intro hb3 hf2)
          clear hb1 hb2 hb3 hr2 hf2
          go_wp2
          go_roundw
          case rel => exact ⟨k + 1, by omega, by go_num, hide HM.out⟩
          case measure => simp [intOf]; omega
      · have hall : ∀ d ∈ l, d.name.length ≤ 200 ∧ d.typ.length ≤ 300 ∧ FewV n d.dflt := by have := HR.out.2; rw [List.take_of_length_le (by omega)] at this; exact this
        have HX := hide (And.intro HR.out.1 hall)
        clear hall HR
        go_wp2
        go_ret
        exact ⟨true, rfl, fun _ => ⟨by omega, HX.out.2⟩, HX.out.1⟩
end Go.Proofs.Ytlpmnnkijdbopaa
