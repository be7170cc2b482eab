/-
  The walk of Few (types).
-/
import Derived.Test.YtlpmnnkijdbopaaFews
import Derived.Deep.RegionHeld3
namespace Go.Proofs.Ytlpmnnkijdbopaa
open Go.RowKit

theorem rs_cell {w : World} {S : Nat → Prop} {A : Option Addr} {l : List Bs} (h : Sl w S 1 A RS l) {j : Nat} {s : Bs} (hj : l[j]? = some s) : ∃ b o, A = some ⟨b, o, none⟩ ∧ S b ∧ w.cell? ⟨b, o + j, none⟩ = some (tx s) := by
  obtain ⟨b, o, cs, e, hb, _, hr, hR⟩ := h j s hj
  unfold RS at hR
  subst hR
  refine ⟨b, o, e, hb, ?_⟩
  have := hr 0 _ rfl
  simpa using this
/-- a list of texts as a row of cells -/
theorem rs_rd {w : World} {S : Nat → Prop} {B : Nat} {A : Option Addr} {l : List Bs} (h : Sl w S 1 A RS l) (hB : ∀ b, S b → b < B) : Rd w B 1 A l.length (l.map tx) := by
  refine ⟨by simp, fun j u hu => ?_⟩
  rw [List.getElem?_map] at hu
  cases hx : l[j]? with
  | none => rw [hx] at hu; cases hu
  | some s =>
    rw [hx] at hu
    injection hu with hu
    subst hu
    obtain ⟨b, o, e, hb, hc⟩ := rs_cell h hx
    exact ⟨b, o, e, hB b hb, hc⟩
theorem tx_one (l : List Bs) : ∀ u ∈ l.map tx, u.oneCell' = true := by
  intro u hu
  obtain ⟨s, _, rfl⟩ := List.mem_map.1 hu
  rfl
/-- The copy of a type's cells: what the loop of Few looks at. -/
def FewB (n : Nat) (t : Td) : Prop := t.name.length ≤ 200 ∧ t.impls.length ≤ 60 ∧ t.members.length ≤ 60 ∧ t.fields.length ≤ 60 ∧ FewI n t.inputs
set_option maxRecDepth 20000 in
set_option maxHeartbeats 6400000 in
theorem fewtypes_any {S : Nat → Prop} {n : Nat} {l : List Td} {A : Option Addr} {w : World} (c : Nat) (h : Sl w S 7 A (RT w S n) l) (hS : ∀ b, S b → b < w.heap.size) :
    Calls Try.prog 7 #[.slice A l.length c] w (OkPost w (FewL n l)) := by
  by_cases hlen : 80 < (l.length : Int)
  · clear h hS
    go_enter Try.func7, Try.ntmps7
    go_wp2
    go_ret
    exact ⟨false, rfl, by simp, Below.refl _ _⟩
  · have H := hide (And.intro h hS)
    clear h hS
    go_enter Try.func7, Try.ntmps7
    go_wp2
    go_loopw [14] (fun i wr => ∃ k : Nat, k ≤ l.length ∧ i = .int .i64 k ∧ Hid (Below w.heap.size w wr ∧ ∀ d ∈ l.take k, FewT n d)) (fun i _ => l.length - (intOf i).toNat)
    case atStart => exact ⟨0, Nat.zero_le _, rfl, hide ⟨Below.refl _ _, by simp⟩⟩
    case round =>
      obtain ⟨k, hk, rfl, HR⟩ := hrel
      by_cases hlt : k < l.length
      · obtain ⟨b, o, hA1, hel⟩ := H.out.1.addr
        obtain ⟨hA1, hSb⟩ := hA1 (ne_nil_of_lt hlt)
        obtain ⟨ce, _, hr, hRT⟩ := hel k _ (List.getElem?_eq_getElem hlt)
        obtain ⟨d, hd⟩ : ∃ d, d = l[k] := ⟨_, rfl⟩
        rw [← hd] at hRT
        have hwS : ∀ b, S b → wr.heap[b]? = w.heap[b]? := fun b hb => HR.out.1.block b (H.out.2 b hb)
        have hr := range_congr (hwS b hSb) hr
        have hRT := RT.map (fun _ h => h) hwS _ _ hRT
        obtain ⟨A1, c1, A2, c2, A3, c3, A4, c4, e, s1, s2, s3, s4⟩ := hRT
        subst e
        have hsz := HR.out.1.size
        have hSr : ∀ b, S b → b < wr.heap.size := fun b hb => Nat.lt_of_lt_of_le (H.out.2 b hb) hsz
        have HN := hide (And.intro hA1 (And.intro hr (And.intro hd (And.intro s1 (And.intro s2 (And.intro s3 (And.intro s4 hSr)))))))
        have hb0 := hide HR.out.1
        have hfew := hide HR.out.2
        clear hA1 hr hd hel hwS hSb HR s1 s2 s3 s4 hSr
        by_cases g1 : 200 < (d.name.length : Int)
        · go_wp2_with (first
            | ((with_reducible show wpList _ _ _ ({ dst := _, op := .indexAddr 22 _ _, type := _, pos := _, after := _, guard := _ } :: _) _ _); refine wpList_index Try.underlying22 Try.sizeT rfl rfl HN.out.1 hlt rfl ?_)
            | ((with_reducible show wpList _ _ _ ({ dst := _, op := .load 35 _, type := _, pos := _, after := _, guard := _ } :: _) _ _); refine wpList_loadE rfl HN.out.2.1 Try.underlying35 rfl Try.sizeT rfl ?_)
            | ((with_reducible show wpList _ _ _ ({ dst := _, op := .store 35 _ _, type := _, pos := _, after := _, guard := _ } :: _) _ _); refine wpList_store_new rfl rfl rfl Try.sizeT rfl rfl ?_))
          go_ret
          exact ⟨false, rfl, by simp, hb0.out.alloc hsz _⟩
        by_cases g2 : 60 < (d.impls.length : Int)
        · go_wp2_with (first
            | ((with_reducible show wpList _ _ _ ({ dst := _, op := .indexAddr 22 _ _, type := _, pos := _, after := _, guard := _ } :: _) _ _); refine wpList_index Try.underlying22 Try.sizeT rfl rfl HN.out.1 hlt rfl ?_)
            | ((with_reducible show wpList _ _ _ ({ dst := _, op := .load 35 _, type := _, pos := _, after := _, guard := _ } :: _) _ _); refine wpList_loadE rfl HN.out.2.1 Try.underlying35 rfl Try.sizeT rfl ?_)
            | ((with_reducible show wpList _ _ _ ({ dst := _, op := .store 35 _ _, type := _, pos := _, after := _, guard := _ } :: _) _ _); refine wpList_store_new rfl rfl rfl Try.sizeT rfl rfl ?_))
          go_ret
          exact ⟨false, rfl, by simp, hb0.out.alloc hsz _⟩
        by_cases g3 : 60 < (d.members.length : Int)
        · go_wp2_with (first
            | ((with_reducible show wpList _ _ _ ({ dst := _, op := .indexAddr 22 _ _, type := _, pos := _, after := _, guard := _ } :: _) _ _); refine wpList_index Try.underlying22 Try.sizeT rfl rfl HN.out.1 hlt rfl ?_)
            | ((with_reducible show wpList _ _ _ ({ dst := _, op := .load 35 _, type := _, pos := _, after := _, guard := _ } :: _) _ _); refine wpList_loadE rfl HN.out.2.1 Try.underlying35 rfl Try.sizeT rfl ?_)
            | ((with_reducible show wpList _ _ _ ({ dst := _, op := .store 35 _ _, type := _, pos := _, after := _, guard := _ } :: _) _ _); refine wpList_store_new rfl rfl rfl Try.sizeT rfl rfl ?_))
          go_ret
          exact ⟨false, rfl, by simp, hb0.out.alloc hsz _⟩
        by_cases g4 : 60 < (d.fields.length : Int)
        · go_wp2_with (first
            | ((with_reducible show wpList _ _ _ ({ dst := _, op := .indexAddr 22 _ _, type := _, pos := _, after := _, guard := _ } :: _) _ _); refine wpList_index Try.underlying22 Try.sizeT rfl rfl HN.out.1 hlt rfl ?_)
            | ((with_reducible show wpList _ _ _ ({ dst := _, op := .load 35 _, type := _, pos := _, after := _, guard := _ } :: _) _ _); refine wpList_loadE rfl HN.out.2.1 Try.underlying35 rfl Try.sizeT rfl ?_)
            | ((with_reducible show wpList _ _ _ ({ dst := _, op := .store 35 _ _, type := _, pos := _, after := _, guard := _ } :: _) _ _); refine wpList_store_new rfl rfl rfl Try.sizeT rfl rfl ?_))
          go_ret
          exact ⟨false, rfl, by simp, hb0.out.alloc hsz _⟩
        go_wp2_with (first
            | ((with_reducible show wpList _ _ _ ({ dst := _, op := .indexAddr 22 _ _, type := _, pos := _, after := _, guard := _ } :: _) _ _); refine wpList_index Try.underlying22 Try.sizeT rfl rfl HN.out.1 hlt rfl ?_)
            | ((with_reducible show wpList _ _ _ ({ dst := _, op := .load 35 _, type := _, pos := _, after := _, guard := _ } :: _) _ _); refine wpList_loadE rfl HN.out.2.1 Try.underlying35 rfl Try.sizeT rfl ?_)
            | ((with_reducible show wpList _ _ _ ({ dst := _, op := .store 35 _ _, type := _, pos := _, after := _, guard := _ } :: _) _ _); refine wpList_store_new rfl rfl rfl Try.sizeT rfl rfl ?_))
        have hb1 := hb0.out.alloc hsz (.cells #[.int .i64 d.kind, tx d.name, .slice A1 d.impls.length c1, .slice A2 d.fields.length c2, .slice A3 d.members.length c3, .slice A4 d.inputs.length c4, .int .i64 d.pos] 35)
        have hwS1 : ∀ b, S b → (wr.alloc (.cells #[.int .i64 d.kind, tx d.name, .slice A1 d.impls.length c1, .slice A2 d.fields.length c2, .slice A3 d.members.length c3, .slice A4 d.inputs.length c4, .int .i64 d.pos] 35)).heap[b]? = wr.heap[b]? := fun b hb => heap_alloc_old _ _ (HN.out.2.2.2.2.2.2.2 b hb)
        refine (inputs_any (S := S) (n := n) c4 (HN.out.2.2.2.2.2.2.1.map (fun _ h => h) hwS1 (RI.map (fun _ h => h) hwS1)) (fun b hb => by have := HN.out.2.2.2.2.2.2.2 b hb; simp; omega)).mono ?_
        rintro e w2 ⟨r, rfl, hr2, hb2⟩
        have hb3 := hb1.trans (hb2.mono hb1.size)
        cases r
        · have HM := hide hb3
          clear hb1 hb2 hb3 hr2
          go_wp2
          go_ret
          exact ⟨false, rfl, by simp, HM.out⟩
        · have hg2 : w2.heap[wr.heap.size]? = some (.cells #[.int .i64 d.kind, tx d.name, .slice A1 d.impls.length c1, .slice A2 d.fields.length c2, .slice A3 d.members.length c3, .slice A4 d.inputs.length c4, .int .i64 d.pos] 35 (0, 0)) := by
            rw [hb2.block _ (by simp)]; exact heap_alloc_new wr _
          have e2 : w2.cell? ⟨wr.heap.size, 2, none⟩ = some (.slice A1 d.impls.length c1) := by rw [cell_of_row _ _ _ _ _ _ hg2]; rfl
          have e4 : w2.cell? ⟨wr.heap.size, 4, none⟩ = some (.slice A3 d.members.length c3) := by rw [cell_of_row _ _ _ _ _ _ hg2]; rfl
          have e3 : w2.cell? ⟨wr.heap.size, 3, none⟩ = some (.slice A2 d.fields.length c2) := by rw [cell_of_row _ _ _ _ _ _ hg2]; rfl
          have hgs : wr.heap.size < w2.heap.size := lt_of_block hg2
          have hrs : ∀ b, b < wr.heap.size → w2.heap[b]? = wr.heap[b]? := fun b hb => by rw [hb2.block _ (by simp; omega)]; exact heap_alloc_old _ _ hb
          have r1 := rs_rd (HN.out.2.2.2.1.map (fun _ h => h) (fun b hb => hrs b (HN.out.2.2.2.2.2.2.2 b hb)) (fun _ _ h => h)) HN.out.2.2.2.2.2.2.2
          have r3 := rs_rd (HN.out.2.2.2.2.2.1.map (fun _ h => h) (fun b hb => hrs b (HN.out.2.2.2.2.2.2.2 b hb)) (fun _ _ h => h)) HN.out.2.2.2.2.2.2.2
          obtain ⟨i0, hi0, hz0, hz1, hz2⟩ := info_parts Try.infoS
          have HI := hide (And.intro hi0 (And.intro hz0 (And.intro hz1 hz2)))
          have hownE := World.ownsRow_made (e := 9) (size := 1) (base := w2.heap.size) w2 #[] 0 (Nat.le_refl _) (by unfold maxLen; omega) rfl
          have HM := hide (And.intro hb3 (And.intro (hr2 rfl) (And.intro hg2 (And.intro r1 (And.intro r3 hownE)))))
          clear hb1 hb2 hb3 hr2 hwS1 hg2 hrs r1 r3 hi0 hz0 hz1 hz2 hownE
          go_wp2_with fail
          go_region_held3 (fun w' => w'.cell? ⟨wr.heap.size, 2, none⟩ = some (.slice A1 d.impls.length c1) ∧ w'.cell? ⟨wr.heap.size, 4, none⟩ = some (.slice A3 d.members.length c3))
            (first
              | go_keep
              | (go_split_ands
                 exact ⟨(hgrow6.cell_far _ (by have := hgrow.size; simp at this; simp; omega) (fun e => by have := (hown5.lt _ e.symm).1; simp at this; omega)).trans (by assumption), (hgrow6.cell_far _ (by have := hgrow.size; simp at this; simp; omega) (fun e => by have := (hown5.lt _ e.symm).1; simp at this; omega)).trans (by assumption)⟩)
              | (go_split_ands
                 refine ⟨?_, ?_⟩
                 · (rw [hgrow.cell_far _ (by simp; omega) (by simp [Value.ownBlock]; omega)]; assumption)
                 · (rw [hgrow.cell_far _ (by simp; omega) (by simp [Value.ownBlock]; omega)]; assumption)))
            (first
              | (refine step_append_rdg (by rfl) _ _ (by rfl) (base := w2.heap.size) Try.underlying31 HI.out.1 HI.out.2.1 HI.out.2.2.1 HI.out.2.2.2 rfl (by decide) (by rfl) (by rfl) hown5 (((HM.out.2.2.2.2.1.alloc (Nat.le_of_lt hgs) _).drew).keep (fun p hp => hgrow.cell_far p (by simp; omega) (by simp [Value.ownBlock]; omega))) (tx_one _) (by unfold maxLen; omega) (by omega) (by have := hgrow.size; simp at this; omega) ?_; intro A6 c6 w6 hown6 hgrow6)
              | (refine step_append_rdg (by rfl) _ _ (by rfl) (base := w2.heap.size) Try.underlying31 HI.out.1 HI.out.2.1 HI.out.2.2.1 HI.out.2.2.2 rfl (by decide) (by rfl) (by rfl) hown5.drew (((HM.out.2.2.2.2.1.alloc (Nat.le_of_lt hgs) _).drew).keep (fun p hp => hgrow.cell_far p (by simp; omega) (by simp [Value.ownBlock]; omega))).drew (tx_one _) (by unfold maxLen; omega) (by omega) (by have := hgrow.size; simp at this; simp; omega) ?_; intro A6 c6 w6 hown6 hgrow6)
              | (refine step_append_rdg (by rfl) _ _ (by rfl) (base := w2.heap.size) Try.underlying31 HI.out.1 HI.out.2.1 HI.out.2.2.1 HI.out.2.2.2 rfl (by decide) (by rfl) (by rfl) (HM.out.2.2.2.2.2.drew) ((HM.out.2.2.2.1.more (Nat.le_of_lt hgs)).alloc (Nat.le_refl _) _).drew (tx_one _) (by unfold maxLen; omega) (by omega) (by simp) ?_; intro A5 c5 w5 hown5 hgrow))
          have hb6 : Below w2.heap.size w2 w6 := ((((Below.refl _ w2).alloc (Nat.le_refl _) _).drew).grown hgrow (by simp) (fun q hq => by simp [Value.ownBlock] at hq; omega)).grown hgrow6 (by have := hgrow.size; simp at this; omega) (fun q hq => (hown5.lt q hq).1)
          have hb7 : Below w.heap.size w w6 := HM.out.1.trans (hb6.mono HM.out.1.size)
          have e3' : w6.cell? ⟨wr.heap.size, 3, none⟩ = some (.slice A2 d.fields.length c2) := (hb6.cell hgs).trans e3
          obtain ⟨L, hL⟩ : ∃ L, L = d.impls ++ d.members := ⟨_, rfl⟩
          have hrow : w6.ownsRow w2.heap.size 9 1 (.slice A6 L.length c6) L.length (L.map tx) := by
            have := hown6
            simp only [Nat.zero_add, List.nil_append] at this
            rw [hL, List.length_append, List.map_append]; exact this
          have hLl : L.length = 0 + d.impls.length + d.members.length := by rw [hL, List.length_append]; omega
          have hLn : (L.length : Int) ≤ 120 := by rw [hLl]; omega
          have hrd := Rd.of_own hrow
          have HQ := hide (And.intro hb7 (And.intro hrd (And.intro hL HM.out.2.1)))
          clear hb6 hb7 hown5 hown6 hgrow hgrow6 hrow hrd hL HM HI e3 e2 e4
          rw [← hLl]
          have hLi : (L.length : Int) = (d.impls.length : Int) + (d.members.length : Int) := by omega
          clear hLl
          go_wp2
          go_loopw [54] (fun i wq => ∃ m : Nat, m ≤ L.length ∧ i = .int .i64 m ∧ wq = w6 ∧ Hid (∀ s ∈ L.take m, s.length ≤ 200)) (fun i _ => L.length - (intOf i).toNat)
          case atStart => exact ⟨0, Nat.zero_le _, rfl, rfl, hide (by simp)⟩
          case round =>
            obtain ⟨m, hm, rfl, hwq, HS⟩ := hrel
            subst hwq
            by_cases hlm : m < L.length
            · have q1 : (m : Int) < (d.impls.length : Int) + (d.members.length : Int) := by omega
              obtain ⟨b', o', u, hA6, _, hu, hc⟩ := HQ.out.2.1.at_ (j := m) (by omega)
              rw [List.getElem?_map, List.getElem?_eq_getElem hlm] at hu
              injection hu with hu
              subst hu
              obtain ⟨s, hs⟩ : ∃ s, s = L[m] := ⟨_, rfl⟩
              rw [← hs] at hc
              have HA := hide (And.intro hA6 hs)
              clear hA6 hs
              by_cases hsl : 200 < (s.length : Int)
              · go_wp2_with ((with_reducible show wpList _ _ _ ({ dst := _, op := .indexAddr 31 _ _, type := _, pos := _, after := _, guard := _ } :: _) _ _); refine wpList_index Try.underlying31 Try.sizeS rfl rfl HA.out.1 hlm rfl ?_)
                go_ret
                exact ⟨false, rfl, by simp, HQ.out.1⟩
              · have hnew : Hid (∀ x ∈ L.take (m + 1), x.length ≤ 200) := hide (by
                  intro x hx
                  rw [List.take_succ_eq_append_getElem hlm] at hx
                  rcases List.mem_append.1 hx with hx | hx
                  · exact HS.out x hx
                  · rw [List.mem_singleton.1 hx, ← HA.out.2]; omega)
                go_wp2_with ((with_reducible show wpList _ _ _ ({ dst := _, op := .indexAddr 31 _ _, type := _, pos := _, after := _, guard := _ } :: _) _ _); refine wpList_index Try.underlying31 Try.sizeS rfl rfl HA.out.1 hlm rfl ?_)
                go_roundw
                case rel => exact ⟨_, _, _, ⟨m + 1, by omega, rfl, hnew⟩, rfl, rfl, by go_num⟩
                case measure => simp [intOf]; omega
            · have q1 : ¬ (m : Int) < (d.impls.length : Int) + (d.members.length : Int) := by omega
              have hall : ∀ s ∈ L, s.length ≤ 200 := by have := HS.out; rw [List.take_of_length_le (by omega)] at this; exact this
              have HT := hide hall
              clear hall HS
              go_wp2
              go_loopw [65] (fun i wq => ∃ q : Nat, q ≤ d.fields.length ∧ i = .int .i64 q ∧ Hid (Below w.heap.size w wq ∧ ∀ f ∈ d.fields.take q, f.name.length ≤ 200 ∧ f.typ.length ≤ 300 ∧ FewI n f.args)) (fun i _ => d.fields.length - (intOf i).toNat)
              case atStart => exact ⟨0, Nat.zero_le _, rfl, hide ⟨HQ.out.1, by simp⟩⟩
              case round =>
                clear e3'
                obtain ⟨q, hq, rfl, HR⟩ := hrel
                by_cases hlf : q < d.fields.length
                · obtain ⟨b2, o2, hA2, hel2⟩ := HN.out.2.2.2.2.1.addr
                  obtain ⟨hA2, hSb2⟩ := hA2 (ne_nil_of_lt hlf)
                  obtain ⟨ce2, _, hr2, hRF⟩ := hel2 q _ (List.getElem?_eq_getElem hlf)
                  obtain ⟨f, hf⟩ : ∃ f, f = d.fields[q] := ⟨_, rfl⟩
                  rw [← hf] at hRF
                  have hbq := HR.out.1
                  have hszq := hbq.size
                  have hfq := hide HR.out.2
                  have hwSq := fun b (hb : S b) => (hbq.block b (H.out.2 b hb)).trans (hb0.out.block b (H.out.2 b hb)).symm
                  have hr2 := range_congr (hwSq b2 hSb2) hr2
                  have hRF := RF.map (fun _ h => h) hwSq _ _ hRF
                  obtain ⟨Aa, ca, ef, sa⟩ := hRF
                  subst ef
                  have HF := hide (And.intro hA2 (And.intro hr2 (And.intro hf (And.intro sa hbq))))
                  clear hA2 hr2 hf sa hbq hwSq hel2 hSb2 HR
                  by_cases f1 : 200 < (f.name.length : Int)
                  · go_wp2_with (first
                    | ((with_reducible show wpList _ _ _ ({ dst := _, op := .indexAddr 32 _ _, type := _, pos := _, after := _, guard := _ } :: _) _ _); refine wpList_index Try.underlying32 Try.sizeF rfl rfl HF.out.1 hlf rfl ?_)
                    | ((with_reducible show wpList _ _ _ ({ dst := _, op := .load 42 _, type := _, pos := _, after := _, guard := _ } :: _) _ _); refine wpList_loadE rfl HF.out.2.1 Try.underlying42 rfl Try.sizeF rfl ?_)
                    | ((with_reducible show wpList _ _ _ ({ dst := _, op := .store 42 _ _, type := _, pos := _, after := _, guard := _ } :: _) _ _); refine wpList_store_new rfl rfl rfl Try.sizeF rfl rfl ?_))
                    go_ret
                    exact ⟨false, rfl, by simp, HF.out.2.2.2.2.alloc hszq _⟩
                  by_cases f2 : 300 < (f.typ.length : Int)
                  · go_wp2_with (first
                    | ((with_reducible show wpList _ _ _ ({ dst := _, op := .indexAddr 32 _ _, type := _, pos := _, after := _, guard := _ } :: _) _ _); refine wpList_index Try.underlying32 Try.sizeF rfl rfl HF.out.1 hlf rfl ?_)
                    | ((with_reducible show wpList _ _ _ ({ dst := _, op := .load 42 _, type := _, pos := _, after := _, guard := _ } :: _) _ _); refine wpList_loadE rfl HF.out.2.1 Try.underlying42 rfl Try.sizeF rfl ?_)
                    | ((with_reducible show wpList _ _ _ ({ dst := _, op := .store 42 _ _, type := _, pos := _, after := _, guard := _ } :: _) _ _); refine wpList_store_new rfl rfl rfl Try.sizeF rfl rfl ?_))
                    go_ret
                    exact ⟨false, rfl, by simp, HF.out.2.2.2.2.alloc hszq _⟩
                  go_wp2_with (first
                    | ((with_reducible show wpList _ _ _ ({ dst := _, op := .indexAddr 32 _ _, type := _, pos := _, after := _, guard := _ } :: _) _ _); refine wpList_index Try.underlying32 Try.sizeF rfl rfl HF.out.1 hlf rfl ?_)
                    | ((with_reducible show wpList _ _ _ ({ dst := _, op := .load 42 _, type := _, pos := _, after := _, guard := _ } :: _) _ _); refine wpList_loadE rfl HF.out.2.1 Try.underlying42 rfl Try.sizeF rfl ?_)
                    | ((with_reducible show wpList _ _ _ ({ dst := _, op := .store 42 _ _, type := _, pos := _, after := _, guard := _ } :: _) _ _); refine wpList_store_new rfl rfl rfl Try.sizeF rfl rfl ?_))
                  have hbA := HF.out.2.2.2.2.alloc hszq (.cells #[tx f.name, .slice Aa f.args.length ca, tx f.typ, .int .i64 f.pos] 42)
                  have hwA : ∀ b, S b → (wr.alloc (.cells #[tx f.name, .slice Aa f.args.length ca, tx f.typ, .int .i64 f.pos] 42)).heap[b]? = wr.heap[b]? := fun b hb => heap_alloc_old _ _ (Nat.lt_of_lt_of_le (H.out.2 b hb) hszq)
                  refine (inputs_any (S := S) (n := n) ca (HF.out.2.2.2.1.map (fun _ h => h) hwA (RI.map (fun _ h => h) hwA)) (fun b hb => by have := H.out.2 b hb; simp; omega)).mono ?_
                  rintro e w8 ⟨r, rfl, hr8, hb8⟩
                  have hb9 := hbA.trans (hb8.mono hbA.size)
                  cases r
                  · have HM8 := hide hb9
                    clear hbA hb8 hb9 hr8 hwA
                    go_wp2
                    go_ret
                    exact ⟨false, rfl, by simp, HM8.out⟩
                  · have hnf : Hid (Below w.heap.size w w8 ∧ ∀ x ∈ d.fields.take (q + 1), x.name.length ≤ 200 ∧ x.typ.length ≤ 300 ∧ FewI n x.args) := hide ⟨hb9, by
                      intro x hx
                      rw [List.take_succ_eq_append_getElem hlf] at hx
                      rcases List.mem_append.1 hx with hx | hx
                      · exact hfq.out x hx
                      · rw [List.mem_singleton.1 hx, ← HF.out.2.2.1]; exact ⟨by omega, by omega, hr8 rfl⟩⟩
                    clear hbA hb8 hb9 hr8 hwA
                    go_wp2
                    go_roundw
                    case rel => exact ⟨q + 1, by omega, by go_num, hnf⟩
                    case measure => simp [intOf]; omega
                · have hfall : ∀ f ∈ d.fields, f.name.length ≤ 200 ∧ f.typ.length ≤ 300 ∧ FewI n f.args := by have := HR.out.2; rw [List.take_of_length_le (by omega)] at this; exact this
                  have hnewT : ∀ x ∈ l.take (k + 1), FewT n x := by
                    intro x hx
                    rw [List.take_succ_eq_append_getElem hlt] at hx
                    rcases List.mem_append.1 hx with hx | hx
                    · exact hfew.out x hx
                    · rw [List.mem_singleton.1 hx, ← HN.out.2.2.1]
                      have h2 := HT.out
                      rw [HQ.out.2.2.1] at h2
                      exact ⟨by omega, ⟨by omega, fun s hs => h2 s (List.mem_append_left _ hs)⟩, ⟨by omega, fun s hs => h2 s (List.mem_append_right _ hs)⟩, ⟨by omega, hfall⟩, HQ.out.2.2.2⟩
                  have HZ := hide (And.intro HR.out.1 hnewT)
                  clear hfall hnewT HR
                  go_wp2
                  go_roundw
                  case rel => exact ⟨k + 1, by omega, by go_num, hide HZ.out⟩
                  case measure => simp [intOf]; omega
      · have hall : ∀ d ∈ l, FewT n d := by have := HR.out.2; rw [List.take_of_length_le (by omega)] at this; exact this
        have HX := hide (And.intro HR.out.1 hall)
        clear hall HR
        go_wp2
        go_ret
        exact ⟨true, rfl, fun _ => ⟨by omega, HX.out.2⟩, HX.out.1⟩
end Go.Proofs.Ytlpmnnkijdbopaa
