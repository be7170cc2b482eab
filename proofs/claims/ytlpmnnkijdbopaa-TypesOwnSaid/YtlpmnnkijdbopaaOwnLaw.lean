/-
  The walk of TypesOwn.
-/
import Derived.Test.YtlpmnnkijdbopaaOwnBuild
import Derived.Test.YtlpmnnkijdbopaaSameT
import Derived.Test.YtlpmnnkijdbopaaTexts
namespace Go.Proofs.Ytlpmnnkijdbopaa
open Go.RowKit Go.Maps

/-- the copy of the arguments -/
theorem wpList_append_copy {ops : Array Oper} {rest : List Oper} {a : Act} {Q : Exit → Act → World → Prop} {w W : World} {dst : Option Tmp} {ty : TypeId} {pos : String} {af : Array Edge} {s x : Operand} {n c : Nat} {A : Option Addr} {l : List Td}
    (hw : w = W.alloc (.cells #[] 35)) (hs : a.eval s = .slice (some ⟨W.heap.size, 0, none⟩) 0 0) (hx : a.eval x = .slice A l.length c)
    (hl : l.length ≤ 80) (hsl : Sl W (fun b => b < W.heap.size) 7 A (RT W (fun b => b < W.heap.size) n) l)
    (h : ∀ A' c' x1 w', CpL W W.heap.size n l A' c' 0 x1 w' → wpList Try.prog ops Q rest (a.put dst (.slice A' l.length c')) w') :
    wpList Try.prog ops Q ({ dst := dst, op := .call { callee := .builtin .append, args := #[s, x], argTypes := #[22, 22] }, type := ty, pos := pos, after := af, guard := none } :: rest) a w := by
  obtain ⟨i0, hi, hz0, hz1, hz2⟩ := info_parts Try.infoTd
  have hb2 : Below W.heap.size W w := by rw [hw]; exact (Below.refl _ _).alloc (Nat.le_refl _) _
  have hown : w.ownsRow W.heap.size 35 7 (.slice (some ⟨W.heap.size, 0, none⟩) 0 0) 0 [] := ⟨rfl, .inr ⟨W.heap.size, 0, #[], rfl, Nat.le_refl _, by rw [hw]; exact heap_alloc_new W _, Nat.le_refl _, by decide, rfl, rfl⟩⟩
  have hsw : Sl w (fun b => b < W.heap.size) 7 A (RT W (fun b => b < W.heap.size) n) l := hsl.map (fun _ h => h) (fun b h => hb2.block b h) (fun _ _ h => h)
  obtain ⟨news, hr, hone, hch⟩ := hsw.flat (B := W.heap.size) (by decide) (fun _ h => h) (fun _ _ h => h.one)
  refine wpList_append_rd Try.underlying22 hi hz0 hz1 hz2 rfl (by decide) hs hx hown hr hone (by unfold maxLen; omega) (by omega) hb2.size fun A' c' w' h2 h3 => ?_
  rw [Nat.zero_add, List.nil_append] at h2
  rw [Nat.zero_add]
  exact h A' c' news w' ⟨hb2.trans h3, Nat.le_refl _, h2, fun j x hj => by omega, fun j x _ hx => hch j x hx⟩
def Yes (w : World) (e : Ending) (w' : World) : Prop := e = .returned (.bool true) ∧ Below w.heap.size w w'
set_option maxRecDepth 20000 in
set_option maxHeartbeats 6400000 in
theorem ownLaw_any {n : Nat} {l : List Td} {A : Option Addr} {k : Bs} {w : World} (c : Nat) (h : Sl w (fun b => b < w.heap.size) 7 A (RT w (fun b => b < w.heap.size) n) l) (hk : k.length ≤ maxLen) :
    Calls Try.prog 5 #[.slice A l.length c, tx k] w (Yes w) := by
  have H := hide (And.intro h hk)
  clear h hk
  go_enter Try.func5, Try.ntmps5
  go_upto_region 1 with fail
  go_cut [33] (fun s33 wx => ∃ q : Bool, s33 = .bool q ∧ Hid (Below w.heap.size w wx ∧ (q = false → FewL n l ∧ k.length ≤ 200)))
  case first =>
    go_wp2_with fail
    refine (awake_any w).mono ?_
    rintro e w1 ⟨rfl, hb1⟩
    have H1 := hide hb1
    clear hb1
    go_wp2_with fail
    have hsl := H.out.1.map (S' := fun b => b < w1.heap.size) (fun b h => Nat.lt_of_lt_of_le h H1.out.size) (fun b h => H1.out.block b h) (fun _ _ h => RT.map (S' := fun b => b < w1.heap.size) (fun b h => Nat.lt_of_lt_of_le h H1.out.size) (fun b h => H1.out.block b h) _ _ h)
    have HL := hide hsl
    clear hsl
    refine (fewtypes_any c HL.out (fun _ h => h)).mono ?_
    rintro e w2 ⟨r, rfl, hr, hb2⟩
    have H2 := hide (And.intro hr (H1.out.trans (hb2.mono H1.out.size)))
    clear hr hb2
    cases r with
    | false =>
      go_wp2
      go_meet
      exact ⟨true, rfl, hide ⟨H2.out.2, fun h => absurd h (by decide)⟩⟩
    | true =>
      by_cases la : (k.length : Int) ≤ 200
      · go_wp2
        go_meet
        exact ⟨false, by (congr 1 <;> first | (simp; done) | (simp; omega)), hide ⟨H2.out.2, fun _ => ⟨H2.out.1 (by trivial), by omega⟩⟩⟩
      · go_wp2
        go_meet
        exact ⟨true, by (congr 1 <;> first | (simp; done) | (simp; omega)), hide ⟨H2.out.2, fun h => absurd h (by decide)⟩⟩
  case rest =>
    obtain ⟨q, rfl, HC⟩ := hcut
    cases q with
    | true =>
      go_wp2_with fail
      refine (awake_any _).mono ?_
      rintro e w3 ⟨rfl, hb3⟩
      have H3 := hide (HC.out.1.trans (hb3.mono HC.out.1.size))
      clear hb3
      go_wp2
      go_ret
      exact ⟨rfl, H3.out⟩
    | false =>
      obtain ⟨hfew, hkl⟩ := HC.out.2 rfl
      have HF := hide (And.intro hfew hkl)
      clear hfew hkl
      have hsl := H.out.1.map (S' := fun b => b < wc.heap.size) (fun b h => Nat.lt_of_lt_of_le h HC.out.1.size) (fun b h => HC.out.1.block b h) (fun _ _ h => RT.map (S' := fun b => b < wc.heap.size) (fun b h => Nat.lt_of_lt_of_le h HC.out.1.size) (fun b h => HC.out.1.block b h) _ _ h)
      have HL := hide hsl
      clear hsl
      go_wp2_with ((with_reducible show wpList _ _ _ ({ dst := _, op := .call { callee := .builtin .append, args := #[_, _], argTypes := #[22, 22] }, type := _, pos := _, after := _, guard := _ } :: _) _ _); refine wpList_append_copy (W := wc) rfl rfl rfl HF.out.1.1 HL.out ?_; intro A1 c1 x1 w3 hc3)
      have HC3 := hide hc3
      clear hc3
      --LOOP1
      have hl80 : l.length ≤ 80 := HF.out.1.1
      have hl80' : (l.length : Int) ≤ 80 := by omega
      go_loopw [40] (fun i wr => ∃ j : Nat, j ≤ l.length ∧ i = .int .i64 j ∧ Hid (∃ x1, CpL wc wc.heap.size n l A1 c1 j x1 wr)) (fun i _ => l.length - (intOf i).toNat)
      case atStart => exact ⟨0, Nat.zero_le _, rfl, hide ⟨x1, HC3.out⟩⟩
      case round =>
        obtain ⟨j, hj, rfl, HR⟩ := hrel
        clear x1 HC3
        obtain ⟨x1, hR⟩ := HR.out
        clear HR
        by_cases hlt : j < l.length
        · obtain ⟨b, o, hA1, hel⟩ := HL.out.addr
          obtain ⟨hA1, hSb⟩ := hA1 (ne_nil_of_lt hlt)
          have hxj : l[j]? = some l[j] := List.getElem?_eq_getElem hlt
          obtain ⟨x, hx⟩ : ∃ x, x = l[j] := ⟨_, rfl⟩
          have hfx := HF.out.1.2 _ (List.getElem_mem hlt)
          rw [← hx] at hxj hfx
          obtain ⟨ce, _, hr, hRT⟩ := hel j _ hxj
          obtain ⟨a1, d1, a2, d2, a3, d3, a4, d4, rfl, s1, s2, s3, s4⟩ := hRT
          obtain ⟨g, rfl, hgB, hgl⟩ := owns_addr hR.row (by omega)
          have hbw := hR.below
          have hr := range_congr (hbw.block b hSb) hr
          have hm4 : wr.cell? ⟨b, o + j * 7 + 4, none⟩ = some (.slice a3 x.members.length d3) := hr 4 _ rfl
          have hm2 : wr.cell? ⟨b, o + j * 7 + 2, none⟩ = some (.slice a1 x.impls.length d1) := hr 2 _ rfl
          have rd1 : Rd wr wr.heap.size 1 a1 x.impls.length (x.impls.map tx) := rs_rd (s1.map (S' := fun b => b < wc.heap.size) (fun _ h => h) (fun b hb => hbw.block b hb) (fun _ _ h => h)) (fun b hb => Nat.lt_of_lt_of_le hb hbw.size)
          have rd3 : Rd wr wr.heap.size 1 a3 x.members.length (x.members.map tx) := rs_rd (s3.map (S' := fun b => b < wc.heap.size) (fun _ h => h) (fun b hb => hbw.block b hb) (fun _ _ h => h)) (fun b hb => Nat.lt_of_lt_of_le hb hbw.size)
          have HK := hide (And.intro hR (And.intro hxj (And.intro rd1 (And.intro rd3 (And.intro hfx.impls.1 (And.intro hfx.members.1 hgl))))))
          have HM := hide (And.intro hm4 hm2)
          subst hA1
          clear hR hxj rd1 rd3 hfx hgl hm4 hm2 hr s1 s2 s3 s4 hel hx hgB hbw
          go_upto_region 7 with fail
          refine wp_region_G (fun w' => Below wr.heap.size wr w') (fun i => [4, 9, 10, 11, 16, 17].contains i) (by kernel_rfl) ((Below.refl _ _).drew) (fun hS => ?_)
          refine wpG_takeW 0 rfl (by kernel_rfl) (fun _ _ _ h => h) (by rfl) (fun w' => by go_simp; rfl) ?_
          simp only [Act.put, List.setIfInBounds_toArray, List.set_cons_zero, List.set_cons_succ]
          refine wpG_takeW 1 rfl (by kernel_rfl) (fun _ _ _ h => h) (by rfl) (fun w' => by go_simp; rfl) ?_
          simp only [Act.put, List.setIfInBounds_toArray, List.set_cons_zero, List.set_cons_succ]
          refine wpG_takeW 2 rfl (by kernel_rfl) (fun _ _ _ h => h) (by rfl) (fun w' => by go_simp; rfl) ?_
          simp only [Act.put, List.setIfInBounds_toArray, List.set_cons_zero, List.set_cons_succ]
          refine wpG_takeW 3 rfl (by kernel_rfl) (fun _ _ _ h => h) (by rfl) (fun w' => by go_simp; rfl) ?_
          simp only [Act.put, List.setIfInBounds_toArray, List.set_cons_zero, List.set_cons_succ]
          refine wpG_takeW 5 rfl (by kernel_rfl) (fun _ _ _ h => h) (by rfl) (fun w' => by go_simp; rfl) ?_
          simp only [Act.put, List.setIfInBounds_toArray, List.set_cons_zero, List.set_cons_succ]
          refine wpG_takeW 6 rfl (by kernel_rfl) (fun _ _ _ h => h) (by rfl) (fun w' => by go_simp; rfl) ?_
          simp only [Act.put, List.setIfInBounds_toArray, List.set_cons_zero, List.set_cons_succ]
          refine wpG_indexW 7 rfl (by kernel_rfl) (fun _ _ _ h => h) (by rfl) rfl rfl rfl Try.underlying22 Try.sizeT hlt ?_
          simp only [Act.put, List.setIfInBounds_toArray, List.set_cons_zero, List.set_cons_succ]
          refine wpG_takeW 8 rfl (by kernel_rfl) (fun _ _ _ h => h) (by rfl) (fun w' => by go_simp; rfl) ?_
          simp only [Act.put, List.setIfInBounds_toArray, List.set_cons_zero, List.set_cons_succ]
          refine wpG_takeW 12 rfl (by kernel_rfl) (fun _ _ _ h => h) (by rfl) (fun w' => by go_simp; rfl) ?_
          simp only [Act.put, List.setIfInBounds_toArray, List.set_cons_zero, List.set_cons_succ]
          refine wpG_takeW 13 rfl (by kernel_rfl) (fun _ _ _ h => h) (by rfl) (fun w' => by go_simp; rfl) ?_
          simp only [Act.put, List.setIfInBounds_toArray, List.set_cons_zero, List.set_cons_succ]
          refine wpG_indexW 14 rfl (by kernel_rfl) (fun _ _ _ h => h) (by rfl) rfl rfl rfl Try.underlying22 Try.sizeT hlt ?_
          simp only [Act.put, List.setIfInBounds_toArray, List.set_cons_zero, List.set_cons_succ]
          refine wpG_takeW 15 rfl (by kernel_rfl) (fun _ _ _ h => h) (by rfl) (fun w' => by go_simp; rfl) ?_
          simp only [Act.put, List.setIfInBounds_toArray, List.set_cons_zero, List.set_cons_succ]
          refine wpG_load 9 rfl (by kernel_rfl) (fun _ _ _ h => h) (by rfl) rfl (v := .slice a3 x.members.length d3) (fun w' hw => by have := (hw.cell (lt_of_cell (HM.out.1))).trans (HM.out.1); clear hw; go_simp) hS (fun _ => ?_)
          simp only [Act.put, List.setIfInBounds_toArray, List.set_cons_zero, List.set_cons_succ]
          refine wpG_load 16 rfl (by kernel_rfl) (fun _ _ _ h => h) (by rfl) rfl (v := .slice a1 x.impls.length d1) (fun w' hw => by have := (hw.cell (lt_of_cell (HM.out.2))).trans (HM.out.2); clear hw; go_simp) hS (fun _ => ?_)
          simp only [Act.put, List.setIfInBounds_toArray, List.set_cons_zero, List.set_cons_succ]
          refine wpG_two 4 11 rfl rfl (by kernel_rfl) (by rfl) (by rfl) (fun K hK => ?_) (fun K hK => ?_)
          · go_simp
            refine hK _ _ (fun _ => ((Below.refl _ wr).alloc (Nat.le_refl _) _).drew) (fun _ => ?_)
            clear hK K
            obtain ⟨w1, hw1⟩ : ∃ w1, w1 = (wr.alloc (.cells #[] 9)).drew := ⟨_, rfl⟩
            rw [← hw1]
            have hbw1 : Below wr.heap.size wr w1 := by rw [hw1]; exact ((Below.refl _ wr).alloc (Nat.le_refl _) _).drew
            have hyw1 : w1.heap[wr.heap.size]? = some (.cells #[] 9 (0, 0)) := by rw [hw1]; exact heap_alloc_new wr _
            have hsw1 : wr.heap.size < w1.heap.size := lt_of_block hyw1
            have how1 : ∀ b, b < wr.heap.size → w1.heap[b]? = wr.heap[b]? := fun b hb => by rw [hw1]; exact heap_alloc_old wr _ hb
            clear hw1
            refine wpG_two 10 11 rfl rfl (by kernel_rfl) (by rfl) (by rfl) (fun K hK => ?_) (fun K hK => ?_)
            · refine wp_append_new rfl rfl rfl hyw1 (HK.out.2.2.2.1.below hbw1) (by have := HK.out.2.2.2.2.1; have := HK.out.2.2.2.2.2.1; omega) (fun A3 c3 w2 r3 hgw2 => ?_)
              have hbw2 : Below wr.heap.size wr w2 := hbw1.grown hgw2 hbw1.size (fun q hq => by injection hq with hq; omega)
              refine hK _ _ (fun _ => hbw2) (fun _ => ?_)
              clear hK K
              refine wpG_one 11 rfl (by kernel_rfl) (by rfl) (fun K hK => ?_)
              go_simp
              refine hK _ _ (fun _ => hbw2.alloc hbw2.size _) (fun _ => ?_)
              clear hK K
              obtain ⟨w4, hw4⟩ : ∃ w4, w4 = (w2.alloc (.cells #[] 9)) := ⟨_, rfl⟩
              rw [← hw4]
              have hbw4 : Below wr.heap.size wr w4 := by rw [hw4]; exact hbw2.alloc hbw2.size _
              have hyw4 : w4.heap[w2.heap.size]? = some (.cells #[] 9 (0, 0)) := by rw [hw4]; exact heap_alloc_new w2 _
              have hsw4 : w2.heap.size < w4.heap.size := lt_of_block hyw4
              have how4 : ∀ b, b < w2.heap.size → w4.heap[b]? = w2.heap[b]? := fun b hb => by rw [hw4]; exact heap_alloc_old w2 _ hb
              clear hw4
              refine wpG_one 17 rfl (by kernel_rfl) (by rfl) (fun K hK => ?_)
              refine wp_append_new rfl rfl rfl hyw4 (HK.out.2.2.1.below hbw4) (by have := HK.out.2.2.2.2.1; have := HK.out.2.2.2.2.2.1; omega) (fun A1 c1' w5 r1 hgw5 => ?_)
              have hbw5 : Below wr.heap.size wr w5 := hbw4.grown hgw5 hbw4.size (fun q hq => by injection hq with hq; have := hbw2.size; have := hbw1.size; omega)
              refine hK _ _ (fun _ => hbw5) (fun _ => ?_)
              clear hK K
              have r3 : Ow w5 wr.heap.size x.members A3 c3 := r3.keep (fun b cur _ hc _ => by have := lt_of_block hc; rw [hgw5.block b (by omega) (by simp; omega), how4 b this])
              have r1 := r1.base (B' := wr.heap.size) hbw2.size
              have HZ := hide (HK.out.1.step HK.out.2.1 hbw5 r1 r3)
              have hrz := owns_below HK.out.1.row hbw5 (fun g hg => (HK.out.1.row.lt g hg).2)
              obtain ⟨q4, f4⟩ := owns_there hrz (o := j * 7 + 4) (m := 1) (by omega) 0 (by decide)
              obtain ⟨v4, q4⟩ := Option.isSome_iff_exists.1 q4
              have hrz2 := (owns_setCells [.slice A3 x.members.length c3] (j * 7 + 4) w5 _ hrz).1
              have hrz2 : (w5.setCell ⟨g, j * 7 + 4, none⟩ (.slice A3 x.members.length c3)).ownsRow wc.heap.size 35 7 (.slice (some ⟨g, 0, none⟩) l.length c1) l.length (putAt x1 (j * 7 + 4) [.slice A3 x.members.length c3]) := hrz2
              obtain ⟨q2, f2⟩ := owns_there hrz2 (o := j * 7 + 2) (m := 1) (by omega) 0 (by decide)
              obtain ⟨v2, q2⟩ := Option.isSome_iff_exists.1 q2
              rw [Nat.add_zero] at q4 f4 q2 f2
              clear hrz hrz2 hS
              refine wpG_indexW 18 rfl (by kernel_rfl) (fun _ _ _ h => h) (by rfl) rfl rfl rfl Try.underlying22 Try.sizeT hlt ?_
              simp only [Act.put, List.setIfInBounds_toArray, List.set_cons_zero, List.set_cons_succ]
              refine wpG_takeW 19 rfl (by kernel_rfl) (fun _ _ _ h => h) (by rfl) (fun w' => by go_simp; rfl) ?_
              simp only [Act.put, List.setIfInBounds_toArray, List.set_cons_zero, List.set_cons_succ]
              refine wpG_one 20 rfl (by kernel_rfl) (by rfl) (fun K hK => ?_)
              go_simp
              refine hK _ _ (fun h => by simp at h) (fun _ => ?_)
              clear hK K q4 f4
              obtain ⟨wf, hwf⟩ : ∃ wf, wf = w5.setCell ⟨g, j * 7 + 4, none⟩ (.slice A3 x.members.length c3) := ⟨_, rfl⟩
              have hZ := HZ.out
              rw [← hwf] at q2 f2 hZ ⊢
              clear HZ hwf
              have HZ := hide hZ
              clear hZ
              refine wpG_indexW 21 rfl (by kernel_rfl) (fun _ _ _ h => h) (by rfl) rfl rfl rfl Try.underlying22 Try.sizeT hlt ?_
              simp only [Act.put, List.setIfInBounds_toArray, List.set_cons_zero, List.set_cons_succ]
              refine wpG_takeW 22 rfl (by kernel_rfl) (fun _ _ _ h => h) (by rfl) (fun w' => by go_simp; rfl) ?_
              simp only [Act.put, List.setIfInBounds_toArray, List.set_cons_zero, List.set_cons_succ]
              refine wpG_one 23 rfl (by kernel_rfl) (by rfl) (fun K hK => ?_)
              go_simp
              refine hK _ _ (fun h => by simp at h) (fun _ => wpG_done (by kernel_rfl) ?_)
              clear hK K q2 f2
              obtain ⟨wh, hwh⟩ : ∃ wh, wh = wf.setCell ⟨g, j * 7 + 2, none⟩ (.slice A1 x.impls.length c1') := ⟨_, rfl⟩
              have hZ := HZ.out
              rw [← hwh] at hZ ⊢
              clear HZ hwh
              have HZ := hide hZ
              clear hZ
              go_wp2
              go_roundw
              case rel => exact ⟨j + 1, by omega, by go_num, hide ⟨_, HZ.out⟩⟩
              case measure => simp [intOf]; omega
            · go_simp
              refine hK _ _ (fun _ => hbw1.alloc hbw1.size _) (fun _ => ?_)
              clear hK K
              obtain ⟨w2, hw2⟩ : ∃ w2, w2 = (w1.alloc (.cells #[] 9)) := ⟨_, rfl⟩
              rw [← hw2]
              have hbw2 : Below wr.heap.size wr w2 := by rw [hw2]; exact hbw1.alloc hbw1.size _
              have hyw2 : w2.heap[w1.heap.size]? = some (.cells #[] 9 (0, 0)) := by rw [hw2]; exact heap_alloc_new w1 _
              have hsw2 : w1.heap.size < w2.heap.size := lt_of_block hyw2
              have how2 : ∀ b, b < w1.heap.size → w2.heap[b]? = w1.heap[b]? := fun b hb => by rw [hw2]; exact heap_alloc_old w1 _ hb
              clear hw2
              have hz1 : w2.heap[wr.heap.size]? = some (.cells #[] 9 (0, 0)) := by rw [how2 _ hsw1]; exact hyw1
              refine wpG_one 10 rfl (by kernel_rfl) (by rfl) (fun K hK => ?_)
              refine wp_append_new rfl rfl rfl hz1 (HK.out.2.2.2.1.below hbw2) (by have := HK.out.2.2.2.2.1; have := HK.out.2.2.2.2.2.1; omega) (fun A3 c3 w4 r3 hgw4 => ?_)
              have hbw4 : Below wr.heap.size wr w4 := hbw2.grown hgw4 hbw2.size (fun q hq => by injection hq with hq; have := hbw1.size; omega)
              refine hK _ _ (fun _ => hbw4) (fun _ => ?_)
              clear hK K
              have hz2 : w4.heap[w1.heap.size]? = some (.cells #[] 9 (0, 0)) := by rw [hgw4.block _ hsw2 (by simp; omega)]; exact hyw2
              refine wpG_one 17 rfl (by kernel_rfl) (by rfl) (fun K hK => ?_)
              refine wp_append_new rfl rfl rfl hz2 (HK.out.2.2.1.below hbw4) (by have := HK.out.2.2.2.2.1; have := HK.out.2.2.2.2.2.1; omega) (fun A1 c1' w5 r1 hgw5 => ?_)
              have hbw5 : Below wr.heap.size wr w5 := hbw4.grown hgw5 hbw4.size (fun q hq => by injection hq with hq; have := hbw2.size; have := hbw1.size; omega)
              refine hK _ _ (fun _ => hbw5) (fun _ => ?_)
              clear hK K
              have r3 : Ow w5 wr.heap.size x.members A3 c3 := r3.keep (fun b cur _ hc h0 => hgw5.block b (lt_of_block hc) (fun e => by injection e with e; subst e; rw [hz2] at hc; injection hc with hc; injection hc with hc _ _; subst hc; simp at h0))
              have r1 := r1.base (B' := wr.heap.size) hbw1.size
              have HZ := hide (HK.out.1.step HK.out.2.1 hbw5 r1 r3)
              have hrz := owns_below HK.out.1.row hbw5 (fun g hg => (HK.out.1.row.lt g hg).2)
              obtain ⟨q4, f4⟩ := owns_there hrz (o := j * 7 + 4) (m := 1) (by omega) 0 (by decide)
              obtain ⟨v4, q4⟩ := Option.isSome_iff_exists.1 q4
              have hrz2 := (owns_setCells [.slice A3 x.members.length c3] (j * 7 + 4) w5 _ hrz).1
              have hrz2 : (w5.setCell ⟨g, j * 7 + 4, none⟩ (.slice A3 x.members.length c3)).ownsRow wc.heap.size 35 7 (.slice (some ⟨g, 0, none⟩) l.length c1) l.length (putAt x1 (j * 7 + 4) [.slice A3 x.members.length c3]) := hrz2
              obtain ⟨q2, f2⟩ := owns_there hrz2 (o := j * 7 + 2) (m := 1) (by omega) 0 (by decide)
              obtain ⟨v2, q2⟩ := Option.isSome_iff_exists.1 q2
              rw [Nat.add_zero] at q4 f4 q2 f2
              clear hrz hrz2 hS
              refine wpG_indexW 18 rfl (by kernel_rfl) (fun _ _ _ h => h) (by rfl) rfl rfl rfl Try.underlying22 Try.sizeT hlt ?_
              simp only [Act.put, List.setIfInBounds_toArray, List.set_cons_zero, List.set_cons_succ]
              refine wpG_takeW 19 rfl (by kernel_rfl) (fun _ _ _ h => h) (by rfl) (fun w' => by go_simp; rfl) ?_
              simp only [Act.put, List.setIfInBounds_toArray, List.set_cons_zero, List.set_cons_succ]
              refine wpG_one 20 rfl (by kernel_rfl) (by rfl) (fun K hK => ?_)
              go_simp
              refine hK _ _ (fun h => by simp at h) (fun _ => ?_)
              clear hK K q4 f4
              obtain ⟨wf, hwf⟩ : ∃ wf, wf = w5.setCell ⟨g, j * 7 + 4, none⟩ (.slice A3 x.members.length c3) := ⟨_, rfl⟩
              have hZ := HZ.out
              rw [← hwf] at q2 f2 hZ ⊢
              clear HZ hwf
              have HZ := hide hZ
              clear hZ
              refine wpG_indexW 21 rfl (by kernel_rfl) (fun _ _ _ h => h) (by rfl) rfl rfl rfl Try.underlying22 Try.sizeT hlt ?_
              simp only [Act.put, List.setIfInBounds_toArray, List.set_cons_zero, List.set_cons_succ]
              refine wpG_takeW 22 rfl (by kernel_rfl) (fun _ _ _ h => h) (by rfl) (fun w' => by go_simp; rfl) ?_
              simp only [Act.put, List.setIfInBounds_toArray, List.set_cons_zero, List.set_cons_succ]
              refine wpG_one 23 rfl (by kernel_rfl) (by rfl) (fun K hK => ?_)
              go_simp
              refine hK _ _ (fun h => by simp at h) (fun _ => wpG_done (by kernel_rfl) ?_)
              clear hK K q2 f2
              obtain ⟨wh, hwh⟩ : ∃ wh, wh = wf.setCell ⟨g, j * 7 + 2, none⟩ (.slice A1 x.impls.length c1') := ⟨_, rfl⟩
              have hZ := HZ.out
              rw [← hwh] at hZ ⊢
              clear HZ hwh
              have HZ := hide hZ
              clear hZ
              go_wp2
              go_roundw
              case rel => exact ⟨j + 1, by omega, by go_num, hide ⟨_, HZ.out⟩⟩
              case measure => simp [intOf]; omega
          · go_simp
            refine hK _ _ (fun _ => ((Below.refl _ wr).alloc (Nat.le_refl _) _).drew) (fun _ => ?_)
            clear hK K
            obtain ⟨w1, hw1⟩ : ∃ w1, w1 = (wr.alloc (.cells #[] 9)).drew := ⟨_, rfl⟩
            rw [← hw1]
            have hbw1 : Below wr.heap.size wr w1 := by rw [hw1]; exact ((Below.refl _ wr).alloc (Nat.le_refl _) _).drew
            have hyw1 : w1.heap[wr.heap.size]? = some (.cells #[] 9 (0, 0)) := by rw [hw1]; exact heap_alloc_new wr _
            have hsw1 : wr.heap.size < w1.heap.size := lt_of_block hyw1
            have how1 : ∀ b, b < wr.heap.size → w1.heap[b]? = wr.heap[b]? := fun b hb => by rw [hw1]; exact heap_alloc_old wr _ hb
            clear hw1
            refine wpG_one 4 rfl (by kernel_rfl) (by rfl) (fun K hK => ?_)
            go_simp
            refine hK _ _ (fun _ => hbw1.alloc hbw1.size _) (fun _ => ?_)
            clear hK K
            obtain ⟨w2, hw2⟩ : ∃ w2, w2 = (w1.alloc (.cells #[] 9)) := ⟨_, rfl⟩
            rw [← hw2]
            have hbw2 : Below wr.heap.size wr w2 := by rw [hw2]; exact hbw1.alloc hbw1.size _
            have hyw2 : w2.heap[w1.heap.size]? = some (.cells #[] 9 (0, 0)) := by rw [hw2]; exact heap_alloc_new w1 _
            have hsw2 : w1.heap.size < w2.heap.size := lt_of_block hyw2
            have how2 : ∀ b, b < w1.heap.size → w2.heap[b]? = w1.heap[b]? := fun b hb => by rw [hw2]; exact heap_alloc_old w1 _ hb
            clear hw2
            have hz1 : w2.heap[wr.heap.size]? = some (.cells #[] 9 (0, 0)) := by rw [how2 _ hsw1]; exact hyw1
            refine wpG_one 10 rfl (by kernel_rfl) (by rfl) (fun K hK => ?_)
            refine wp_append_new rfl rfl rfl hyw2 (HK.out.2.2.2.1.below hbw2) (by have := HK.out.2.2.2.2.1; have := HK.out.2.2.2.2.2.1; omega) (fun A3 c3 w4 r3 hgw4 => ?_)
            have hbw4 : Below wr.heap.size wr w4 := hbw2.grown hgw4 hbw2.size (fun q hq => by injection hq with hq; have := hbw1.size; omega)
            refine hK _ _ (fun _ => hbw4) (fun _ => ?_)
            clear hK K
            have hz2 : w4.heap[wr.heap.size]? = some (.cells #[] 9 (0, 0)) := by rw [hgw4.block _ (by omega) (by simp; omega)]; exact hz1
            refine wpG_one 17 rfl (by kernel_rfl) (by rfl) (fun K hK => ?_)
            refine wp_append_new rfl rfl rfl hz2 (HK.out.2.2.1.below hbw4) (by have := HK.out.2.2.2.2.1; have := HK.out.2.2.2.2.2.1; omega) (fun A1 c1' w5 r1 hgw5 => ?_)
            have hbw5 : Below wr.heap.size wr w5 := hbw4.grown hgw5 hbw4.size (fun q hq => by injection hq with hq; have := hbw2.size; have := hbw1.size; omega)
            refine hK _ _ (fun _ => hbw5) (fun _ => ?_)
            clear hK K
            have r3 : Ow w5 wr.heap.size x.members A3 c3 := (r3.keep (fun b cur _ hc h0 => hgw5.block b (lt_of_block hc) (fun e => by injection e with e; subst e; rw [hz2] at hc; injection hc with hc; injection hc with hc _ _; subst hc; simp at h0))).base hbw1.size
            have HZ := hide (HK.out.1.step HK.out.2.1 hbw5 r1 r3)
            have hrz := owns_below HK.out.1.row hbw5 (fun g hg => (HK.out.1.row.lt g hg).2)
            obtain ⟨q4, f4⟩ := owns_there hrz (o := j * 7 + 4) (m := 1) (by omega) 0 (by decide)
            obtain ⟨v4, q4⟩ := Option.isSome_iff_exists.1 q4
            have hrz2 := (owns_setCells [.slice A3 x.members.length c3] (j * 7 + 4) w5 _ hrz).1
            have hrz2 : (w5.setCell ⟨g, j * 7 + 4, none⟩ (.slice A3 x.members.length c3)).ownsRow wc.heap.size 35 7 (.slice (some ⟨g, 0, none⟩) l.length c1) l.length (putAt x1 (j * 7 + 4) [.slice A3 x.members.length c3]) := hrz2
            obtain ⟨q2, f2⟩ := owns_there hrz2 (o := j * 7 + 2) (m := 1) (by omega) 0 (by decide)
            obtain ⟨v2, q2⟩ := Option.isSome_iff_exists.1 q2
            rw [Nat.add_zero] at q4 f4 q2 f2
            clear hrz hrz2 hS
            refine wpG_indexW 18 rfl (by kernel_rfl) (fun _ _ _ h => h) (by rfl) rfl rfl rfl Try.underlying22 Try.sizeT hlt ?_
            simp only [Act.put, List.setIfInBounds_toArray, List.set_cons_zero, List.set_cons_succ]
            refine wpG_takeW 19 rfl (by kernel_rfl) (fun _ _ _ h => h) (by rfl) (fun w' => by go_simp; rfl) ?_
            simp only [Act.put, List.setIfInBounds_toArray, List.set_cons_zero, List.set_cons_succ]
            refine wpG_one 20 rfl (by kernel_rfl) (by rfl) (fun K hK => ?_)
            go_simp
            refine hK _ _ (fun h => by simp at h) (fun _ => ?_)
            clear hK K q4 f4
            obtain ⟨wf, hwf⟩ : ∃ wf, wf = w5.setCell ⟨g, j * 7 + 4, none⟩ (.slice A3 x.members.length c3) := ⟨_, rfl⟩
            have hZ := HZ.out
            rw [← hwf] at q2 f2 hZ ⊢
            clear HZ hwf
            have HZ := hide hZ
            clear hZ
            refine wpG_indexW 21 rfl (by kernel_rfl) (fun _ _ _ h => h) (by rfl) rfl rfl rfl Try.underlying22 Try.sizeT hlt ?_
            simp only [Act.put, List.setIfInBounds_toArray, List.set_cons_zero, List.set_cons_succ]
            refine wpG_takeW 22 rfl (by kernel_rfl) (fun _ _ _ h => h) (by rfl) (fun w' => by go_simp; rfl) ?_
            simp only [Act.put, List.setIfInBounds_toArray, List.set_cons_zero, List.set_cons_succ]
            refine wpG_one 23 rfl (by kernel_rfl) (by rfl) (fun K hK => ?_)
            go_simp
            refine hK _ _ (fun h => by simp at h) (fun _ => wpG_done (by kernel_rfl) ?_)
            clear hK K q2 f2
            obtain ⟨wh, hwh⟩ : ∃ wh, wh = wf.setCell ⟨g, j * 7 + 2, none⟩ (.slice A1 x.impls.length c1') := ⟨_, rfl⟩
            have hZ := HZ.out
            rw [← hwh] at hZ ⊢
            clear HZ hwh
            have HZ := hide hZ
            clear hZ
            go_wp2
            go_roundw
            case rel => exact ⟨j + 1, by omega, by go_num, hide ⟨_, HZ.out⟩⟩
            case measure => simp [intOf]; omega
        · have hjn : j = l.length := by omega
          subst hjn
          obtain ⟨wt, hwt⟩ : ∃ wt, wt = wr := ⟨_, rfl⟩
          subst hwt
          have HP := hide (And.intro hR.sl (And.intro hR.in2 (And.intro hR.below (HC.out.1.trans (hR.below.mono HC.out.1.size)))))
          clear hR hlt hj
          go_wp2_with fail
          refine (new_any c1 HP.out.1 (fun _ h => h) HF.out.1).mono ?_
          rintro e w4 ⟨X, rfl, hT, hb4⟩
          have h2 := HP.out.2.1.keep (fun b _ hb => hb4.block b hb)
          have HT := hide (And.intro hT (And.intro h2 (HP.out.2.2.1.trans (hb4.mono HP.out.2.2.1.size))))
          have hs4 := hb4.size
          clear hT h2 hb4
          go_wp2_with fail
          refine (possible_any HT.out.1 H.out.2).mono ?_
          rintro e w5 ⟨AW, rfl, hrW, hb5⟩
          have hs5 := hb5.size
          have h2 := HT.out.2.1.keep (w' := w5) (fun b _ hb => hb5.block b (by omega))
          have H5 := hide (And.intro (HT.out.1.below hb5) (And.intro h2 (And.intro (HT.out.2.2.trans (hb5.mono HT.out.2.2.size)) hrW)))
          clear h2 hrW hb5
          go_wp2_with fail
          go_loopw [75] (fun i wx => ∃ j : Nat, j ≤ l.length ∧ i = .int .i64 j ∧ Hid (In2 wc.heap.size wt.heap.size l A1 c1 wx ∧ Mid wc.heap.size wt.heap.size w5 wx)) (fun i _ => l.length - (intOf i).toNat)
          case atStart => exact ⟨0, Nat.zero_le _, rfl, hide ⟨H5.out.2.1, Mid.refl _ _ _⟩⟩
          case round =>
            obtain ⟨j, hj, rfl, HR⟩ := hrel
            by_cases hlt : j < l.length
            · have hxj : l[j]? = some l[j] := List.getElem?_eq_getElem hlt
              obtain ⟨x, hx⟩ : ∃ x, x = l[j] := ⟨_, rfl⟩
              have hfx := HF.out.1.2 _ (List.getElem_mem hlt)
              rw [← hx] at hxj hfx
              have hfi : (x.impls.length : Int) ≤ 60 := by have := hfx.impls.1; omega
              have hfm : (x.members.length : Int) ≤ 60 := by have := hfx.members.1; omega
              have HX := hide (And.intro hxj hfx)
              clear hxj hfx hx
              obtain ⟨g, A1', c1', A3, c3, v, hA1, _, _, m4, m2, _⟩ := HR.out.1.at HX.out.1
              subst hA1
              go_wp2_with ((with_reducible show wpList _ _ _ ({ dst := _, op := .indexAddr 22 _ _, type := _, pos := _, after := _, guard := _ } :: _) _ _); refine wpList_index Try.underlying22 Try.sizeT rfl rfl rfl hlt rfl ?_)
              go_loopw [84] (fun i wx => ∃ q : Nat, q ≤ x.members.length ∧ i = .int .i64 q ∧ Hid (In2 wc.heap.size wt.heap.size l (some ⟨g, 0, none⟩) c1 wx ∧ Mid wc.heap.size wt.heap.size w5 wx)) (fun i _ => x.members.length - (intOf i).toNat)
              case atStart => exact ⟨0, Nat.zero_le _, rfl, hide HR.out⟩
              case round =>
                obtain ⟨q, hq, rfl, HQ⟩ := hrel
                by_cases hqt : q < x.members.length
                · obtain ⟨g', A1', c1', A3', c3', v', hA, _, _, m4, m2, r3, r1, _, _⟩ := HQ.out.1.at HX.out.1
                  cases hA
                  obtain ⟨g3, hA3, hgB, hgt, hcur, hkk⟩ := r3.addr (by omega)
                  subst hA3
                  obtain ⟨⟨v3, hv3⟩, hf3⟩ := hkk q hqt
                  have HG := hide (And.intro hgB (And.intro hgt hcur))
                  clear hgB hgt hcur hkk r1 r3
                  go_wp2_with (first | ((with_reducible show wpList _ _ _ ({ dst := _, op := .indexAddr 22 _ _, type := _, pos := _, after := _, guard := _ } :: _) _ _); refine wpList_index Try.underlying22 Try.sizeT rfl rfl rfl hlt rfl ?_) | ((with_reducible show wpList _ _ _ ({ dst := _, op := .indexAddr 31 _ _, type := _, pos := _, after := _, guard := _ } :: _) _ _); refine wpList_index Try.underlying31 Try.sizeS rfl rfl rfl hqt rfl ?_))
                  go_roundw
                  case rel => exact ⟨q + 1, by omega, by go_num, hide ⟨HQ.out.1.set_str HG.out.2.2 _, HQ.out.2.set HG.out.1 HG.out.2.1 _⟩⟩
                  case measure => simp [intOf]; omega
                · have hqn : q = x.members.length := by omega
                  subst hqn
                  have HR := hide HQ.out
                  clear HQ
                  obtain ⟨g', A1', c1', A3', c3', v', hA, _, _, m4, m2, _⟩ := HR.out.1.at HX.out.1
                  cases hA
                  go_wp2_with ((with_reducible show wpList _ _ _ ({ dst := _, op := .indexAddr 22 _ _, type := _, pos := _, after := _, guard := _ } :: _) _ _); refine wpList_index Try.underlying22 Try.sizeT rfl rfl rfl hlt rfl ?_)
                  go_loopw [101] (fun i wx => ∃ q : Nat, q ≤ x.impls.length ∧ i = .int .i64 q ∧ Hid (In2 wc.heap.size wt.heap.size l (some ⟨g, 0, none⟩) c1 wx ∧ Mid wc.heap.size wt.heap.size w5 wx)) (fun i _ => x.impls.length - (intOf i).toNat)
                  case atStart => exact ⟨0, Nat.zero_le _, rfl, hide HR.out⟩
                  case round =>
                    obtain ⟨q, hq, rfl, HQ⟩ := hrel
                    by_cases hqt : q < x.impls.length
                    · obtain ⟨g', A1', c1', A3', c3', v', hA, _, _, m4, m2, r3, r1, _, _⟩ := HQ.out.1.at HX.out.1
                      cases hA
                      obtain ⟨g3, hA3, hgB, hgt, hcur, hkk⟩ := r1.addr (by omega)
                      subst hA3
                      obtain ⟨⟨v3, hv3⟩, hf3⟩ := hkk q hqt
                      have HG := hide (And.intro hgB (And.intro hgt hcur))
                      clear hgB hgt hcur hkk r1 r3
                      go_wp2_with (first | ((with_reducible show wpList _ _ _ ({ dst := _, op := .indexAddr 22 _ _, type := _, pos := _, after := _, guard := _ } :: _) _ _); refine wpList_index Try.underlying22 Try.sizeT rfl rfl rfl hlt rfl ?_) | ((with_reducible show wpList _ _ _ ({ dst := _, op := .indexAddr 31 _ _, type := _, pos := _, after := _, guard := _ } :: _) _ _); refine wpList_index Try.underlying31 Try.sizeS rfl rfl rfl hqt rfl ?_))
                      go_roundw
                      case rel => exact ⟨q + 1, by omega, by go_num, hide ⟨HQ.out.1.set_str HG.out.2.2 _, HQ.out.2.set HG.out.1 HG.out.2.1 _⟩⟩
                      case measure => simp [intOf]; omega
                    · have hqn : q = x.impls.length := by omega
                      subst hqn
                      have HR := hide HQ.out
                      clear HQ

                      obtain ⟨g', A1', c1', A3', c3', v', hA, hgB, hgt, _, _, _, _, hv1, hf1⟩ := HR.out.1.at HX.out.1
                      cases hA
                      have HG := hide (And.intro hgB hgt)
                      clear hgB hgt
                      go_wp2_with ((with_reducible show wpList _ _ _ ({ dst := _, op := .indexAddr 22 _ _, type := _, pos := _, after := _, guard := _ } :: _) _ _); refine wpList_index Try.underlying22 Try.sizeT rfl rfl rfl hlt rfl ?_)
                      go_roundw
                      case rel => exact ⟨j + 1, by omega, by go_num, hide ⟨HR.out.1.set_name HX.out.1 _, HR.out.2.set HG.out.1 HG.out.2 _⟩⟩
                      case measure => simp [intOf]; omega
            · have hjn : j = l.length := by omega
              subst hjn
              obtain ⟨wv, hwv⟩ : ∃ wv, wv = wr := ⟨_, rfl⟩
              subst hwv
              have hcs := HP.out.2.2.1.size
              have hK : Kp n wc wt.heap.size w4.heap.size (wt.heap.size + 1) (mkT l) X w5.heap.size AW (poss (mkT l) k) wv := by
                have hW := HR.out.2
                refine ⟨H5.out.1.keep (Nat.le_of_eq hW.size.symm) (fun b hb => hW.block b (.inr hb.1)), H5.out.2.2.1.trans hW.below, ?_, by omega, hs5, Nat.le_of_eq hW.size.symm⟩
                rcases H5.out.2.2.2 with h1 | ⟨g, cur, h1, h2, h3, h4⟩
                · exact .inl h1
                · exact .inr ⟨g, cur, h1, h2, lt_of_block h3, by rw [hW.block g (.inr (by omega))]; exact h3, h4⟩
              have KP := hide hK
              clear hK hcs HR hlt hj
              by_cases hno : k ∈ fiveL ∨ find (mkT l) k = none
              · have HN := hide hno
                clear hno
                have hdef : ∀ wx, Kp n wc wt.heap.size w4.heap.size (wt.heap.size + 1) (mkT l) X w5.heap.size AW (poss (mkT l) k) wx → Calls Try.prog 19 #[.pointer (some ⟨wt.heap.size + 1, 0, none⟩), tx k] wx (NoR wx zeroT.toArray) := fun wx hx => by
                  rcases HN.out with h | h
                  · exact def_five hx.tys h
                  · exact def_none hx.tys H.out.2 h
                have HD := hide hdef
                clear hdef
                go_wp2_with fail
                refine (HD.out _ KP.out).mono ?_
                rintro e w6 ⟨rfl, hb6⟩
                have K6 := hide ((KP.out.more hb6).more ((Below.refl _ w6).alloc (Nat.le_refl _) (.cells zeroT.toArray 35)))
                clear hb6
                go_upto_region 29 with ((with_reducible show wpList _ _ _ ({ dst := _, op := .store 35 _ _, type := _, pos := _, after := _, guard := _ } :: _) _ _); refine wpList_store_new rfl rfl rfl Try.sizeT (by simp [zeroT]) (by simp [zeroT, Value.oneCell']) ?_)
                obtain ⟨w7, hw7⟩ : ∃ w7, w7 = w6.alloc (.cells zeroT.toArray 35) := ⟨_, rfl⟩
                rw [← hw7]
                have K7 := K6.out
                rw [← hw7] at K7
                have K7 := hide K7
                clear K6 hw7
                have P := hide (possible_any K7.out.tys H.out.2)
                go_wp2_with fail
                refine P.out.mono ?_
                rintro e w8 ⟨AN, rfl, hrN, hb8⟩
                have K8 := hide (K7.out.more hb8)
                have C := texts_any (poss (mkT l) k).length (poss (mkT l) k).length (hrN.sl (S := fun b => b < w8.heap.size) (fun _ _ h => h)) K8.out.sl (fun _ h => h) (fun _ h => h) (Nat.le_trans (poss_le K8.out.tys k) (by decide)) (Nat.le_trans (poss_le K8.out.tys k) (by decide))
                rw [decide_eq_true (rfl : poss (mkT l) k = poss (mkT l) k)] at C
                have CH := hide C
                have hnb := hrN.nb K7.out.M
                have HNB := hide hnb
                have hb8' := hb8.size
                clear P C hrN hb8 hnb
                go_wp2_with fail
                refine CH.out.mono ?_
                rintro e w9 ⟨rfl, hb9⟩
                have K9 := hide (K8.out.more hb9)
                have hpl : ((poss (mkT l) k).length : Int) ≤ 1000000 := by have := Nat.le_trans (poss_le K9.out.tys k) (show _ ≤ 1000000 by decide); omega
                have HN9 := hide (show (poss (mkT l) k).length = 0 ∨ ∃ g, AN = some ⟨g, 0, none⟩ ∧ w5.heap.size ≤ g ∧ Blk w9 g (poss (mkT l) k).length from by
                  rcases HNB.out with h | ⟨g, h1, h2, h3⟩
                  · exact .inl h
                  · exact .inr ⟨g, h1, h2, h3.keep (hb9.block g h3.lt)⟩)
                clear hb9 CH HNB
                go_wp2_with fail
                obtain ⟨PL, hPL⟩ : ∃ PL, PL = (poss (mkT l) k).length := ⟨_, rfl⟩
                go_loopw [156] (fun i wx => ∃ q : Nat, q ≤ (poss (mkT l) k).length ∧ i = .int .i64 q ∧ Hid (Kp n wc wt.heap.size w4.heap.size (wt.heap.size + 1) (mkT l) X w5.heap.size AW (poss (mkT l) k) wx ∧ ((poss (mkT l) k).length = 0 ∨ ∃ g, AN = some ⟨g, 0, none⟩ ∧ w5.heap.size ≤ g ∧ Blk wx g (poss (mkT l) k).length))) (fun i _ => (poss (mkT l) k).length - (intOf i).toNat)
                case atStart => exact ⟨0, Nat.zero_le _, rfl, hide ⟨K9.out, HN9.out⟩⟩
                case round =>
                  obtain ⟨q, hq, rfl, HR⟩ := hrel
                  by_cases hqt : q < (poss (mkT l) k).length
                  · obtain ⟨g, hA, hgM, hB⟩ := HR.out.2.resolve_left (by omega)
                    obtain ⟨⟨v3, hv3⟩, hf3⟩ := hB.cell hqt
                    have HG := hide (And.intro hA (And.intro hgM hB))
                    clear hgM hB
                    subst hA
                    go_wp2_with ((with_reducible show wpList _ _ _ ({ dst := _, op := .indexAddr 31 _ _, type := _, pos := _, after := _, guard := _ } :: _) _ _); refine wpList_index Try.underlying31 Try.sizeS rfl rfl rfl hqt rfl ?_)
                    go_roundw
                    case rel => exact ⟨q + 1, by omega, by go_num, hide ⟨HR.out.1.set HG.out.2.1 _, .inr ⟨g, rfl, HG.out.2.1, HG.out.2.2.set _ _ _⟩⟩⟩
                    case measure => simp [intOf]; omega
                  · have hqn : q = (poss (mkT l) k).length := by omega
                    subst hqn
                    have KA := hide HR.out.1
                    clear HR hq hqt
                    go_wp2_with fail
                    refine (HD.out _ KA.out).mono ?_
                    rintro e v1 ⟨rfl, hbv⟩
                    have KB := hide ((KA.out.more hbv).more ((Below.refl _ v1).alloc (Nat.le_refl _) (.cells zeroT.toArray 35)))
                    clear hbv
                    go_upto_region 49 with ((with_reducible show wpList _ _ _ ({ dst := _, op := .store 35 _ _, type := _, pos := _, after := _, guard := _ } :: _) _ _); refine wpList_store_new rfl rfl rfl Try.sizeT (by simp [zeroT]) (by simp [zeroT, Value.oneCell']) ?_)
                    obtain ⟨v2, hv2⟩ : ∃ v2, v2 = v1.alloc (.cells zeroT.toArray 35) := ⟨_, rfl⟩
                    rw [← hv2]
                    have KC := KB.out
                    rw [← hv2] at KC
                    have KC := hide KC
                    clear KB hv2
                    have hlv : Sl v2 (fun b => b < wc.heap.size) 7 A (RT v2 (fun b => b < wc.heap.size) n) l := HL.out.map (fun _ h => h) (fun b hb => KC.out.low.block b hb) (fun _ _ h => RT.map (fun _ h => h) (fun b hb => KC.out.low.block b hb) _ _ h)
                    have F := find_any (k := k) c hlv (fun b hb => Nat.lt_of_lt_of_le hb KC.out.low.size) (by omega)
                    have FH := hide F
                    clear F hlv
                    go_wp2_with fail
                    refine FH.out.mono ?_
                    rintro e v3 ⟨cs, rfl, hfd, hfz, hlen, hbv⟩
                    have hone : cs.toArray.all (·.oneCell') = true := by
                      cases hf : find (mkT l) k with
                      | none => rw [hfz hf]; simp [zeroT, Value.oneCell']
                      | some d => exact all_oneCell_toArray (hfd d hf).one
                    have HO := hide (And.intro hlen hone)
                    have KD := hide ((KC.out.more hbv).more ((Below.refl _ v3).alloc (Nat.le_refl _) (.cells cs.toArray 35)))
                    clear hbv hfd hfz hlen hone FH
                    go_upto_region 50 with ((with_reducible show wpList _ _ _ ({ dst := _, op := .store 35 _ _, type := _, pos := _, after := _, guard := _ } :: _) _ _); refine wpList_store_new rfl rfl rfl (by rw [Try.sizeT]; simp [HO.out.1]) (by simp [HO.out.1]) HO.out.2 ?_)
                    obtain ⟨v4, hv4⟩ : ∃ v4, v4 = v3.alloc (.cells cs.toArray 35) := ⟨_, rfl⟩
                    rw [← hv4]
                    have KE := KD.out
                    rw [← hv4] at KE
                    have KE := hide KE
                    clear KD hv4
                    have P := hide (possible_any KE.out.tys H.out.2)
                    go_wp2_with fail
                    refine P.out.mono ?_
                    rintro e v5 ⟨AL, rfl, hrN, hbv⟩
                    have KF := hide (KE.out.more hbv)
                    have C := texts_any (poss (mkT l) k).length (poss (mkT l) k).length (hrN.sl (S := fun b => b < v5.heap.size) (fun _ _ h => h)) KF.out.sl (fun _ h => h) (fun _ h => h) (Nat.le_trans (poss_le KF.out.tys k) (by decide)) (Nat.le_trans (poss_le KF.out.tys k) (by decide))
                    rw [decide_eq_true (rfl : poss (mkT l) k = poss (mkT l) k)] at C
                    have CH := hide C
                    clear P C hrN hbv
                    go_wp2_with fail
                    refine CH.out.mono ?_
                    rintro e v6 ⟨rfl, hbv⟩
                    have KG := hide (HC.out.1.trans ((KF.out.more hbv).low.mono HC.out.1.size))
                    clear hbv CH
                    go_wp2
                    go_ret
                    exact ⟨rfl, KG.out⟩
              · obtain ⟨d, hfd⟩ : ∃ d, find (mkT l) k = some d := by
                  cases hf : find (mkT l) k with
                  | none => exact absurd (.inr hf) hno
                  | some d => exact ⟨d, rfl⟩
                have hk5 : k ∉ fiveL := fun h => hno (.inl h)
                have hfew : FewT n d := KP.out.tys.few d (by
                  have hf := hfd
                  unfold find at hf
                  rw [if_neg hk5] at hf
                  exact List.mem_of_find?_eq_some hf)
                have hdef : ∀ wx, Kp n wc wt.heap.size w4.heap.size (wt.heap.size + 1) (mkT l) X w5.heap.size AW (poss (mkT l) k) wx → Calls Try.prog 19 #[.pointer (some ⟨wt.heap.size + 1, 0, none⟩), tx k] wx (DefOPost wx n d) := fun wx hx => def_own hx.tys H.out.2 hk5 hfd
                have HD := hide hdef
                have HN := hide (And.intro hfd hfew)
                have hdm : (d.members.length : Int) ≤ 60 := by have := hfew.members.1; omega
                have hdf : (d.fields.length : Int) ≤ 60 := by have := hfew.fields.1; omega
                clear hdef hno hk5 hfd hfew
                go_wp2_with fail
                refine (HD.out _ KP.out).mono ?_
                rintro e w6 ⟨A2, c2, A3, c3, cs, rfl, hrt, hb6, hc3, hc4, hf2, hf3⟩
                have HO := hide (And.intro (RT.len hrt) (all_oneCell_toArray hrt.one))
                have hMw : w5.heap.size ≤ wv.heap.size + 1 := by have := KP.out.M; omega
                have HDC := hide (Dc.of hrt hc3 hc4 (hf2.base hMw) (hf3.base hMw))
                have HC3 := hide hc3
                have HC4 := hide hc4
                have K6 := hide ((KP.out.more hb6).more ((Below.refl _ w6).alloc (Nat.le_refl _) (.cells cs.toArray 35)))
                clear hrt hb6 hc3 hc4 hf2 hf3 hMw
                go_upto_region 29 with ((with_reducible show wpList _ _ _ ({ dst := _, op := .store 35 _ _, type := _, pos := _, after := _, guard := _ } :: _) _ _); refine wpList_store_new rfl rfl rfl (by rw [Try.sizeT]; simp [HO.out.1]) (by simp [HO.out.1]) HO.out.2 ?_)
                obtain ⟨w7, hw7⟩ : ∃ w7, w7 = w6.alloc (.cells cs.toArray 35) := ⟨_, rfl⟩
                rw [← hw7]
                have K7 := K6.out
                have hdc := HDC.out
                rw [← hw7] at K7 hdc
                have K7 := hide K7
                have HDC := hide hdc
                clear K6 hw7 hdc
                have C0 := HDC.out.at HC4.out
                go_wp2_with fail
                clear C0
                go_loopw [127] (fun i wx => ∃ q : Nat, q ≤ d.members.length ∧ i = .int .i64 q ∧ Hid (Kp n wc wt.heap.size w4.heap.size (wt.heap.size + 1) (mkT l) X w5.heap.size AW (poss (mkT l) k) wx ∧ Dc w6.heap.size w5.heap.size d.members.length d.fields.length cs A3 A2 wx)) (fun i _ => d.members.length - (intOf i).toNat)
                case atStart => exact ⟨0, Nat.zero_le _, rfl, hide ⟨K7.out, HDC.out⟩⟩
                case round =>
                  obtain ⟨q, hq, rfl, HR⟩ := hrel
                  by_cases hqt : q < d.members.length
                  · obtain ⟨b, o, hA, hbM, hbd, hB⟩ := HR.out.2.mem.resolve_left (by omega)
                    obtain ⟨⟨v3, hv3⟩, hf3⟩ := hB.cell (j := o + q * 1) (by omega)
                    rw [Nat.mul_one] at hv3 hf3
                    have C0 := HR.out.2.at HC4.out
                    have HG := hide (And.intro hbM hbd)
                    clear hbM hbd hB
                    subst hA
                    go_wp2_with ((with_reducible show wpList _ _ _ ({ dst := _, op := .indexAddr 31 _ _, type := _, pos := _, after := _, guard := _ } :: _) _ _); refine wpList_index Try.underlying31 Try.sizeS rfl rfl rfl hqt rfl ?_)
                    go_roundw
                    case rel => exact ⟨q + 1, by omega, by go_num, hide ⟨HR.out.1.set HG.out.1 _, HR.out.2.set HG.out.2 _⟩⟩
                    case measure => simp [intOf]; omega
                  · have hqn : q = d.members.length := by omega
                    subst hqn
                    obtain ⟨wy, hwy⟩ : ∃ wy, wy = wr := ⟨_, rfl⟩
                    subst hwy
                    have K7 := hide HR.out.1
                    have HDC := hide HR.out.2
                    clear HR hq hqt
                    have C0 := HDC.out.at HC3.out
                    go_wp2_with fail
                    clear C0
                    go_loopw [138] (fun i wx => ∃ q : Nat, q ≤ d.fields.length ∧ i = .int .i64 q ∧ Hid (Kp n wc wt.heap.size w4.heap.size (wt.heap.size + 1) (mkT l) X w5.heap.size AW (poss (mkT l) k) wx ∧ Dc w6.heap.size w5.heap.size d.members.length d.fields.length cs A3 A2 wx)) (fun i _ => d.fields.length - (intOf i).toNat)
                    case atStart => exact ⟨0, Nat.zero_le _, rfl, hide ⟨K7.out, HDC.out⟩⟩
                    case round =>
                      obtain ⟨q, hq, rfl, HR⟩ := hrel
                      by_cases hqt : q < d.fields.length
                      · obtain ⟨b, o, hA, hbM, hbd, hB⟩ := HR.out.2.fld.resolve_left (by omega)
                        obtain ⟨⟨v3, hv3⟩, hf3⟩ := hB.cell (j := o + q * 4) (by omega)
                        skip
                        have C0 := HR.out.2.at HC3.out
                        have HG := hide (And.intro hbM hbd)
                        clear hbM hbd hB
                        subst hA
                        go_wp2_with ((with_reducible show wpList _ _ _ ({ dst := _, op := .indexAddr 32 _ _, type := _, pos := _, after := _, guard := _ } :: _) _ _); refine wpList_index Try.underlying32 Try.sizeF rfl rfl rfl hqt rfl ?_)
                        go_roundw
                        case rel => exact ⟨q + 1, by omega, by go_num, hide ⟨HR.out.1.set HG.out.1 _, HR.out.2.set HG.out.2 _⟩⟩
                        case measure => simp [intOf]; omega
                      · have hqn : q = d.fields.length := by omega
                        subst hqn
                        obtain ⟨wy, hwy⟩ : ∃ wy, wy = wr := ⟨_, rfl⟩
                        subst hwy
                        have K7 := hide HR.out.1
                        have HDC := hide HR.out.2
                        clear HR hq hqt
                        have P := hide (possible_any K7.out.tys H.out.2)
                        go_wp2_with fail
                        refine P.out.mono ?_
                        rintro e w8 ⟨AN, rfl, hrN, hb8⟩
                        have K8 := hide (K7.out.more hb8)
                        have C := texts_any (poss (mkT l) k).length (poss (mkT l) k).length (hrN.sl (S := fun b => b < w8.heap.size) (fun _ _ h => h)) K8.out.sl (fun _ h => h) (fun _ h => h) (Nat.le_trans (poss_le K8.out.tys k) (by decide)) (Nat.le_trans (poss_le K8.out.tys k) (by decide))
                        rw [decide_eq_true (rfl : poss (mkT l) k = poss (mkT l) k)] at C
                        have CH := hide C
                        have hnb := hrN.nb K7.out.M
                        have HNB := hide hnb
                        have hb8' := hb8.size
                        clear P C hrN hb8 hnb
                        go_wp2_with fail
                        refine CH.out.mono ?_
                        rintro e w9 ⟨rfl, hb9⟩
                        have K9 := hide (K8.out.more hb9)
                        have hpl : ((poss (mkT l) k).length : Int) ≤ 1000000 := by have := Nat.le_trans (poss_le K9.out.tys k) (show _ ≤ 1000000 by decide); omega
                        have HN9 := hide (show (poss (mkT l) k).length = 0 ∨ ∃ g, AN = some ⟨g, 0, none⟩ ∧ w5.heap.size ≤ g ∧ Blk w9 g (poss (mkT l) k).length from by
                          rcases HNB.out with h | ⟨g, h1, h2, h3⟩
                          · exact .inl h
                          · exact .inr ⟨g, h1, h2, h3.keep (hb9.block g h3.lt)⟩)
                        clear hb9 CH HNB
                        go_wp2_with fail
                        obtain ⟨PL, hPL⟩ : ∃ PL, PL = (poss (mkT l) k).length := ⟨_, rfl⟩
                        go_loopw [156] (fun i wx => ∃ q : Nat, q ≤ (poss (mkT l) k).length ∧ i = .int .i64 q ∧ Hid (Kp n wc wt.heap.size w4.heap.size (wt.heap.size + 1) (mkT l) X w5.heap.size AW (poss (mkT l) k) wx ∧ ((poss (mkT l) k).length = 0 ∨ ∃ g, AN = some ⟨g, 0, none⟩ ∧ w5.heap.size ≤ g ∧ Blk wx g (poss (mkT l) k).length))) (fun i _ => (poss (mkT l) k).length - (intOf i).toNat)
                        case atStart => exact ⟨0, Nat.zero_le _, rfl, hide ⟨K9.out, HN9.out⟩⟩
                        case round =>
                          obtain ⟨q, hq, rfl, HR⟩ := hrel
                          by_cases hqt : q < (poss (mkT l) k).length
                          · obtain ⟨g, hA, hgM, hB⟩ := HR.out.2.resolve_left (by omega)
                            obtain ⟨⟨v3, hv3⟩, hf3⟩ := hB.cell hqt
                            have HG := hide (And.intro hA (And.intro hgM hB))
                            clear hgM hB
                            subst hA
                            go_wp2_with ((with_reducible show wpList _ _ _ ({ dst := _, op := .indexAddr 31 _ _, type := _, pos := _, after := _, guard := _ } :: _) _ _); refine wpList_index Try.underlying31 Try.sizeS rfl rfl rfl hqt rfl ?_)
                            go_roundw
                            case rel => exact ⟨q + 1, by omega, by go_num, hide ⟨HR.out.1.set HG.out.2.1 _, .inr ⟨g, rfl, HG.out.2.1, HG.out.2.2.set _ _ _⟩⟩⟩
                            case measure => simp [intOf]; omega
                          · have hqn : q = (poss (mkT l) k).length := by omega
                            subst hqn
                            have KA := hide HR.out.1
                            clear HR hq hqt
                            go_wp2_with fail
                            refine (HD.out _ KA.out).mono ?_
                            rintro e v1 ⟨B2, b2, B3, b3, ce, rfl, hrt, hbv, _, _, _, _⟩
                            have hrt : RT v1 (fun b => b < v1.heap.size) n d ce := RT.map (fun b hb => hb.2) (fun _ _ => rfl) _ _ hrt
                            have HO1 := hide (And.intro (RT.len hrt) (all_oneCell_toArray hrt.one))
                            obtain ⟨v2, hv2⟩ : ∃ v2, v2 = v1.alloc (.cells ce.toArray 35) := ⟨_, rfl⟩
                            have ha : Below v1.heap.size v1 v2 := by rw [hv2]; exact (Below.refl _ v1).alloc (Nat.le_refl _) _
                            have he2 : v2.heap[v1.heap.size]? = some (.cells ce.toArray 35 (0, 0)) := by rw [hv2]; exact heap_alloc_new v1 _
                            have KC := hide ((KA.out.more hbv).more ha)
                            have HE := hide (And.intro he2 (show RT v2 (fun b => b < v2.heap.size) n d ce from RT.map (fun b hb => Nat.lt_of_lt_of_le hb ha.size) (fun b hb => ha.block b hb) _ _ hrt))
                            have HV := hide hv2
                            clear hbv hrt ha he2 hv2
                            go_upto_region 49 with ((with_reducible show wpList _ _ _ ({ dst := _, op := .store 35 _ _, type := _, pos := _, after := _, guard := _ } :: _) _ _); refine wpList_store_new rfl rfl rfl (by rw [Try.sizeT]; simp [HO1.out.1]) (by simp [HO1.out.1]) HO1.out.2 ?_)
                            rw [← HV.out]
                            clear HV
                            have hlv : Sl v2 (fun b => b < wc.heap.size) 7 A (RT v2 (fun b => b < wc.heap.size) n) l := HL.out.map (fun _ h => h) (fun b hb => KC.out.low.block b hb) (fun _ _ h => RT.map (fun _ h => h) (fun b hb => KC.out.low.block b hb) _ _ h)
                            have F := find_any (k := k) c hlv (fun b hb => Nat.lt_of_lt_of_le hb KC.out.low.size) (by omega)
                            have FH := hide F
                            clear F hlv
                            go_wp2_with fail
                            refine FH.out.mono ?_
                            rintro e v3 ⟨cw, rfl, hfd, _, hlen, hbv⟩
                            have hrt := hfd d HN.out.1
                            have HO2 := hide (And.intro hlen (all_oneCell_toArray hrt.one))
                            obtain ⟨v4, hv4⟩ : ∃ v4, v4 = v3.alloc (.cells cw.toArray 35) := ⟨_, rfl⟩
                            have ha : Below v3.heap.size v3 v4 := by rw [hv4]; exact (Below.refl _ v3).alloc (Nat.le_refl _) _
                            have hew : v4.heap[v3.heap.size]? = some (.cells cw.toArray 35 (0, 0)) := by rw [hv4]; exact heap_alloc_new v3 _
                            have hb24 : Below v2.heap.size v2 v4 := hbv.trans (ha.mono hbv.size)
                            have hlt1 : v1.heap.size < v2.heap.size := lt_of_block HE.out.1
                            have hee : v4.heap[v1.heap.size]? = some (.cells ce.toArray 35 (0, 0)) := by rw [hb24.block _ hlt1]; exact HE.out.1
                            have hrte : RT v4 (fun b => b < v4.heap.size) n d ce := RT.map (fun b hb => Nat.lt_of_lt_of_le hb hb24.size) (fun b hb => hb24.block b hb) _ _ HE.out.2
                            have hrtw : RT v4 (fun b => b < v4.heap.size) n d cw := RT.map (fun b hb => Nat.lt_of_lt_of_le hb (Nat.le_trans KC.out.low.size hb24.size)) (fun b hb => ha.block b (Nat.lt_of_lt_of_le hb (Nat.le_trans KC.out.low.size hbv.size))) _ _ hrt
                            have KE := hide (KC.out.more hb24)
                            have HW := hide (And.intro hee (And.intro hew (And.intro hrte hrtw)))
                            have HV := hide hv4
                            clear hbv hrt ha hew hb24 hlt1 hee hrte hrtw hfd hlen hv4 FH
                            go_upto_region 50 with ((with_reducible show wpList _ _ _ ({ dst := _, op := .store 35 _ _, type := _, pos := _, after := _, guard := _ } :: _) _ _); refine wpList_store_new rfl rfl rfl (by rw [Try.sizeT]; simp [HO2.out.1]) (by simp [HO2.out.1]) HO2.out.2 ?_)
                            rw [← HV.out]
                            clear HV
                            have hr1 : v4.rangeAt v1.heap.size 0 ce := fun j u hu => by
                              rw [cell_of_row _ _ _ _ _ _ HW.out.1, Nat.zero_add]
                              simpa using hu
                            have HR1 := hide hr1
                            clear hr1
                            have hr2 : (v4.alloc (.cells ce.toArray 35)).rangeAt v3.heap.size 0 cw := fun j u hu => by
                              rw [cell_of_row _ _ _ _ _ _ ((heap_alloc_old v4 _ (lt_of_block HW.out.2.1)).trans HW.out.2.1), Nat.zero_add]
                              simpa using hu
                            have HR2 := hide hr2
                            clear hr2
                            have hsame : Calls Try.prog 21 #[.slice (some ⟨v4.heap.size, 0, none⟩) 1 1, .slice (some ⟨v4.heap.size + 1, 0, none⟩) 1 1, .bool true] ((v4.alloc (.cells ce.toArray 35)).alloc (.cells cw.toArray 35)) (TrueR ((v4.alloc (.cells ce.toArray 35)).alloc (.cells cw.toArray 35))) := by
                              have hz : (v4.alloc (.cells ce.toArray 35)).heap.size = v4.heap.size + 1 := World.size_alloc ..
                              have hy1 := (heap_alloc_old (v4.alloc (.cells ce.toArray 35)) (.cells cw.toArray 35) (lt_of_block (heap_alloc_new v4 (.cells ce.toArray 35)))).trans (heap_alloc_new v4 (.cells ce.toArray 35))
                              have hy2 := heap_alloc_new (v4.alloc (.cells ce.toArray 35)) (.cells cw.toArray 35)
                              rw [hz] at hy2
                              have ha := ((Below.refl _ v4).alloc (Nat.le_refl _) (.cells ce.toArray 35)).alloc (by rw [hz]; omega) (.cells cw.toArray 35)
                              obtain ⟨v6, hv6⟩ : ∃ v6, v6 = (v4.alloc (.cells ce.toArray 35)).alloc (.cells cw.toArray 35) := ⟨_, rfl⟩
                              rw [← hv6] at hy1 hy2 ha ⊢
                              have t1 : RT v6 (fun b => b < v6.heap.size) n d ce := RT.map (fun b hb => Nat.lt_of_lt_of_le hb ha.size) (fun b hb => ha.block b hb) _ _ HW.out.2.2.1
                              have t2 : RT v6 (fun b => b < v6.heap.size) n d cw := RT.map (fun b hb => Nat.lt_of_lt_of_le hb ha.size) (fun b hb => ha.block b hb) _ _ HW.out.2.2.2
                              exact sameTypes_any (l := [d]) 1 1 (one_rt t1 hy1 (lt_of_block hy1)) (one_rt t2 hy2 (lt_of_block hy2)) (fun _ h => h) (fun _ h => h) (by simp) (fun x hx => by rw [List.mem_singleton.1 hx]; exact HN.out.2)
                            have HSM := hide hsame
                            clear hsame
                            go_wp2_with (first
                              | ((with_reducible show wpList _ _ _ ({ dst := _, op := .load 35 _, type := _, pos := _, after := _, guard := _ } :: _) _ _); refine wpList_loadE rfl HR1.out Try.underlying35 rfl (by rw [Try.sizeT, HO1.out.1]) rfl ?_)
                              | ((with_reducible show wpList _ _ _ ({ dst := _, op := .load 35 _, type := _, pos := _, after := _, guard := _ } :: _) _ _); refine wpList_loadE rfl HR2.out Try.underlying35 rfl (by rw [Try.sizeT, HO2.out.1]) rfl ?_)
                              | ((with_reducible show wpList _ _ _ ({ dst := _, op := .buildSlice 22 1 #[(0, _)], type := _, pos := _, after := _, guard := _ } :: _) _ _); first | refine wpList_one (cs := ce) rfl HO1.out.1 rfl ?_ | refine wpList_one (cs := cw) rfl HO2.out.1 rfl ?_))
                            refine HSM.out.mono ?_
                            rintro e v5 ⟨rfl, hbs⟩
                            have hab : Below v4.heap.size v4 v5 := (((Below.refl _ v4).alloc (Nat.le_refl _) (.cells ce.toArray 35)).alloc (by simp) (.cells cw.toArray 35)).trans (hbs.mono (by simp; omega))
                            have KE := hide (KE.out.more hab)
                            clear hbs hab HSM
                            have P := hide (possible_any KE.out.tys H.out.2)
                            go_wp2_with fail
                            refine P.out.mono ?_
                            rintro e v7 ⟨AL, rfl, hrN, hbv⟩
                            have KF := hide (KE.out.more hbv)
                            have C := texts_any (poss (mkT l) k).length (poss (mkT l) k).length (hrN.sl (S := fun b => b < v7.heap.size) (fun _ _ h => h)) KF.out.sl (fun _ h => h) (fun _ h => h) (Nat.le_trans (poss_le KF.out.tys k) (by decide)) (Nat.le_trans (poss_le KF.out.tys k) (by decide))
                            rw [decide_eq_true (rfl : poss (mkT l) k = poss (mkT l) k)] at C
                            have CH := hide C
                            clear P C hrN hbv
                            go_wp2_with fail
                            refine CH.out.mono ?_
                            rintro e v8 ⟨rfl, hbv⟩
                            have KG := hide (HC.out.1.trans ((KF.out.more hbv).low.mono HC.out.1.size))
                            clear hbv CH
                            go_wp2
                            go_ret
                            exact ⟨rfl, KG.out⟩
end Go.Proofs.Ytlpmnnkijdbopaa
