/-
  The walk of the reference's Find.
-/
import Derived.Test.YtlpmnnkijdbopaaFind
import Derived.Test.YtlpmnnkijdbopaaSlices
namespace Go.Proofs.Ytlpmnnkijdbopaa
open Go.RowKit Go.Maps

theorem RT.len {w : World} {S : Nat → Prop} {n : Nat} {t : Td} {cs : List Value} (h : RT w S n t cs) : cs.length = 7 := by
  obtain ⟨_, _, _, _, _, _, _, _, e, _⟩ := h
  rw [e]; rfl
theorem results_row_tmp7 {P : Program} {fn : Func} {p u : Tmp} {ty : TypeId} (h : fn.results = #[.cell p ty, .tmp u]) (tmps : Array Value) (w : World) (g : Nat) (t : TypeId) (cs : Array Value) (fr : Nat × Nat) (d : TypeDesc) {x : Value}
    (hp : tmps.getD p undef = .pointer (some ⟨g, 0, none⟩)) (hx : tmps.getD u undef = x) (hg : w.heap[g]? = some (.cells cs t fr))
    (hu : P.underlying ty = some d) (hd : (match d with | .struct _ | .array _ _ => true | _ => false) = true) (hi : (P.info? ty).map (·.size) = some cs.size) :
    (results fn tmps).run P w = .ok (.tuple #[.agg cs, x]) w := by
  rw [results_cell_tmp h, hp, hx]
  simp [asAddr, run_loadVar_row w g t ty cs fr d hg hu hd hi]
def FndPost (T : Ts) (k : Bs) (n : Nat) (S : Nat → Prop) (w : World) (e : Ending) (w' : World) : Prop := ∃ cs : List Value, e = .returned (.tuple #[.agg cs.toArray, .bool (find T k).isSome]) ∧ (∀ d, find T k = some d → RT w' S n d cs) ∧ (find T k = none → cs = zeroT) ∧ cs.length = 7 ∧ Below w.heap.size w w'
abbrev scT (k : Bs) : List Value := [.int .i64 1, tx k, .slice none 0 0, .slice none 0 0, .slice none 0 0, .slice none 0 0, .int .i64 0]
theorem rt_scalar (w : World) (S : Nat → Prop) (n : Nat) (k : Bs) : RT w S n (scalar k) (scT k) := ⟨none, 0, none, 0, none, 0, none, 0, rfl, Sl.nil' _ _ _ _ _, Sl.nil' _ _ _ _ _, Sl.nil' _ _ _ _ _, Sl.nil' _ _ _ _ _⟩
structure Fw (w wr : World) : Prop where
  out : wr.heap[w.heap.size]? = some (.cells zeroT.toArray 35 (0, 0))
  five : wr.heap[w.heap.size + 1]? = some (.cells (fiveL.map tx).toArray 62 (0, 0))
  below : Below w.heap.size w wr
set_option maxRecDepth 20000 in
set_option maxHeartbeats 1600000 in
theorem find_any {n : Nat} {w : World} {S : Nat → Prop} {A : Option Addr} {l : List Td} {k : Bs} (c : Nat) (h : Sl w S 7 A (RT w S n) l) (hS : ∀ b, S b → b < w.heap.size) (hl : l.length ≤ 1000000) :
    Calls Try.prog 20 #[.slice A l.length c, tx k] w (FndPost (mkT l) k n S w) := by
  have i1 : (l.length : Int) ≤ 1000000 := by omega
  have H := hide (And.intro h hS)
  have HF := hide (find_mkT l k)
  clear h hS hl
  go_enter Try.func20, Try.ntmps20
  go_upto_region 2 with fail
  obtain ⟨wz, hwz⟩ : ∃ wz, wz = (w.alloc (.cells #[.int .i64 0, .string ⟨#[]⟩, .slice none 0 0, .slice none 0 0, .slice none 0 0, .slice none 0 0, .int .i64 0] 35)).alloc (.cells #[.string ⟨#[73, 110, 116]⟩, .string ⟨#[70, 108, 111, 97, 116]⟩, .string ⟨#[83, 116, 114, 105, 110, 103]⟩, .string ⟨#[66, 111, 111, 108, 101, 97, 110]⟩, .string ⟨#[73, 68]⟩] 62) := ⟨_, rfl⟩
  rw [← hwz]
  have hw : Fw w wz := by
    have h1 := heap_alloc_new (w.alloc (.cells #[.int .i64 0, .string ⟨#[]⟩, .slice none 0 0, .slice none 0 0, .slice none 0 0, .slice none 0 0, .int .i64 0] 35)) (.cells #[.string ⟨#[73, 110, 116]⟩, .string ⟨#[70, 108, 111, 97, 116]⟩, .string ⟨#[83, 116, 114, 105, 110, 103]⟩, .string ⟨#[66, 111, 111, 108, 101, 97, 110]⟩, .string ⟨#[73, 68]⟩] 62)
    rw [World.size_alloc] at h1
    rw [hwz]
    exact ⟨(heap_alloc_old _ _ _ (by simp)).trans (heap_alloc_new w _), h1, ((Below.refl _ _).alloc (Nat.le_refl _) _).alloc (by simp) _⟩
  have HW := hide hw
  clear hw hwz
  go_wp2_with fail
  go_loop [10] (fun i => ∃ m : Nat, m ≤ 5 ∧ i = .int .i64 m ∧ Hid (∀ x ∈ fiveL.take m, x ≠ k)) (fun i => 5 - (intOf i).toNat)
  case atStart => exact ⟨0, by omega, rfl, hide (by simp)⟩
  case round =>
    obtain ⟨m, hm, rfl, HR⟩ := hrel
    by_cases hlt : (m : Int) < 5
    · obtain ⟨x, hx⟩ : ∃ x, fiveL[m]? = some x := ⟨_, List.getElem?_eq_getElem (by show m < 5; omega)⟩
      have hc : wz.cell? ⟨w.heap.size + 1, m, none⟩ = some (tx x) := by
        rw [cell_of_row _ _ _ _ _ _ HW.out.five]
        simp only [List.getElem?_toArray, List.getElem?_map, hx, Option.map_some]
      have HX := hide hx
      clear hx
      by_cases hq : x = k
      · have hb : (x == k) = true := by simp [hq]
        have hin : k ∈ fiveL := by rw [← hq]; exact List.mem_of_getElem? HX.out
        have hfd : find (mkT l) k = some (scalar k) := by rw [HF.out, if_pos hin]
        have HD := hide hfd
        clear hq hin hfd
        go_wp2_with ((with_reducible show wpList _ _ _ ({ dst := _, op := .store 35 _ _, type := _, pos := _, after := _, guard := _ } :: _) _ _); refine wpList_store_row rfl 35 _ _ rfl w.heap.size (scT k).toArray rfl rfl 35 _ HW.out.out Try.sizeT rfl (by simp [Value.oneCell']) ?_)
        refine bodyPost_ret (v := .tuple #[.agg (scT k).toArray, .bool true]) (results_row_tmp7 (u := 5) Try.results20 _ _ w.heap.size 35 _ (0, 0) _ rfl rfl (setRow_heap _ _ _ _ _ _ HW.out.out) Try.underlying35 rfl Try.sizeT) rfl ⟨scT k, by rw [HD.out]; rfl, fun d hd => by rw [HD.out] at hd; injection hd with hd; subst hd; exact rt_scalar _ _ _ _, fun hd => (by rw [HD.out] at hd; cases hd), rfl, below_setRow HW.out.below (Nat.le_refl _) _⟩
      · have hb : (x == k) = false := by simpa using hq
        have hm5 : m < fiveL.length := by show m < 5; omega
        have hn : ∀ y ∈ fiveL.take (m + 1), y ≠ k := ne_take hm5 HR.out (by
          have h1 := HX.out
          rw [List.getElem?_eq_getElem hm5] at h1
          injection h1 with h1
          rw [h1]; exact hq)
        have HN := hide hn
        clear hq hn hm5
        go_wp2_with fail
        go_round
        case rel => exact ⟨m + 1, by omega, by go_num, hide HN.out⟩
        case measure => simp [intOf]; omega
    · have hn5 : k ∉ fiveL := fun hk => by
        have := HR.out
        rw [show m = 5 by omega] at this
        exact this k hk rfl
      have hfd : find (mkT l) k = List.find? (fun d => d.name == k) l := by rw [HF.out, if_neg hn5]
      have HD := hide hfd
      clear hn5 hfd
      go_wp2_with fail
      clear hlt hm
      go_loop [23] (fun i => ∃ m : Nat, m ≤ l.length ∧ i = .int .i64 m ∧ Hid (∀ x ∈ l.take m, x.name ≠ k)) (fun i => l.length - (intOf i).toNat)
      case atStart => exact ⟨0, by omega, rfl, hide (by simp)⟩
      case round =>
        obtain ⟨m, hm, rfl, HR⟩ := hrel
        by_cases hlt : m < l.length
        · obtain ⟨g, o, cs, hA, hSb, hcl, hrg, hrt⟩ := H.out.1 m _ (List.getElem?_eq_getElem hlt)
          obtain ⟨d, hd⟩ : ∃ d, d = l[m] := ⟨_, rfl⟩
          rw [← hd] at hrt
          have hrz : wz.rangeAt g (o + m * 7) cs := range_congr (HW.out.below.block g (H.out.2 g hSb)) hrg
          have hc1 : wz.cell? ⟨g, o + m * 7 + 1, none⟩ = some (tx d.name) := by
            obtain ⟨_, _, _, _, _, _, _, _, e, _⟩ := hrt
            subst e
            exact hrz 1 _ rfl
          have HX := hide (And.intro hA (And.intro hd (And.intro hrz (And.intro hcl hrt))))
          clear hA hd hrz hcl hrt hrg hSb
          by_cases hq : d.name = k
          · have hb : (d.name == k) = true := by simp [hq]
            have hfnd : find (mkT l) k = some d := by
              rw [HD.out, List.find?_eq_some_iff_append]
              refine ⟨by simp [hq], l.take m, l.drop (m + 1), ?_, fun x hx => by have := HR.out x hx; simpa using this⟩
              rw [HX.out.2.1]
              exact (List.take_append_drop m l).symm.trans (by rw [List.drop_eq_getElem_cons hlt])
            have HQ := hide hfnd
            clear hq hfnd
            go_wp2_with (first
              | ((with_reducible show wpList _ _ _ ({ dst := _, op := .indexAddr 22 _ _, type := _, pos := _, after := _, guard := _ } :: _) _ _); refine wpList_index Try.underlying22 Try.sizeT rfl rfl HX.out.1 hlt rfl ?_)
              | ((with_reducible show wpList _ _ _ ({ dst := _, op := .load 35 _, type := _, pos := _, after := _, guard := _ } :: _) _ _); refine wpList_loadE rfl HX.out.2.2.1 Try.underlying35 rfl (by rw [Try.sizeT, HX.out.2.2.2.1]) rfl ?_)
              | ((with_reducible show wpList _ _ _ ({ dst := _, op := .store 35 _ _, type := _, pos := _, after := _, guard := _ } :: _) _ _); refine wpList_store_row rfl 35 _ _ rfl w.heap.size cs.toArray rfl rfl 35 _ HW.out.out (by rw [Try.sizeT]; simp [HX.out.2.2.2.1]) (by simp [HX.out.2.2.2.1, zeroT]) (all_oneCell_toArray HX.out.2.2.2.2.one) ?_))
            refine bodyPost_ret (v := .tuple #[.agg cs.toArray, .bool true]) (results_row_tmp7 (u := 5) Try.results20 _ _ w.heap.size 35 _ (0, 0) _ rfl rfl (setRow_heap _ _ _ _ _ _ HW.out.out) Try.underlying35 rfl (by rw [Try.sizeT]; simp [HX.out.2.2.2.1])) rfl ⟨cs, by rw [HQ.out]; rfl, fun d' hd => ?_, fun hd => (by rw [HQ.out] at hd; cases hd), HX.out.2.2.2.1, below_setRow HW.out.below (Nat.le_refl _) _⟩
            rw [HQ.out] at hd
            injection hd with hd
            subst hd
            exact RT.map (fun _ h => h) (fun b hb => by rw [setRow_other _ _ _ _ (by have := H.out.2 b hb; omega)]; exact HW.out.below.block b (H.out.2 b hb)) _ _ HX.out.2.2.2.2
          · have hb : (d.name == k) = false := by simpa using hq
            have hn : ∀ x ∈ l.take (m + 1), x.name ≠ k := fun x hx => by
              rw [List.take_succ_eq_append_getElem hlt] at hx
              rcases List.mem_append.1 hx with hx | hx
              · exact HR.out x hx
              · rw [List.mem_singleton.1 hx, ← HX.out.2.1]; exact hq
            have HN := hide hn
            clear hq hn
            go_wp2_with ((with_reducible show wpList _ _ _ ({ dst := _, op := .indexAddr 22 _ _, type := _, pos := _, after := _, guard := _ } :: _) _ _); refine wpList_index Try.underlying22 Try.sizeT rfl rfl HX.out.1 hlt rfl ?_)
            go_round
            case rel => exact ⟨m + 1, by omega, by go_num, hide HN.out⟩
            case measure => simp [intOf]; omega
        · have hfnd : find (mkT l) k = none := by
            rw [HD.out, List.find?_eq_none]
            intro x hx
            have := HR.out x (by rw [List.take_of_length_le (by omega)]; exact hx)
            simpa using this
          have HQ := hide hfnd
          clear hfnd
          go_wp2_with ((with_reducible show wpList _ _ _ ({ dst := _, op := .store 35 _ _, type := _, pos := _, after := _, guard := _ } :: _) _ _); refine wpList_store_row rfl 35 _ _ rfl w.heap.size zeroT.toArray rfl rfl 35 _ HW.out.out Try.sizeT rfl (by simp [Value.oneCell', zeroT]) ?_)
          refine bodyPost_ret (v := .tuple #[.agg zeroT.toArray, .bool false]) (results_row_tmp7 (u := 5) Try.results20 _ _ w.heap.size 35 _ (0, 0) _ rfl rfl (setRow_heap _ _ _ _ _ _ HW.out.out) Try.underlying35 rfl Try.sizeT) rfl ⟨zeroT, by rw [HQ.out]; rfl, fun d' hd => (by rw [HQ.out] at hd; cases hd), fun _ => rfl, rfl, below_setRow HW.out.below (Nat.le_refl _) _⟩
end Go.Proofs.Ytlpmnnkijdbopaa
