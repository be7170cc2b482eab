/-
  The walk of Def: a name of the five, a name of none, a name that has a type.
-/
import Derived.Test.YtlpmnnkijdbopaaOwnF
import Derived.Test.YtlpmnnkijdbopaaFindW
import Derived.Test.YtlpmnnkijdbopaaOver
import Derived.Test.YtlpmnnkijdbopaaAwake
namespace Go.Proofs.Ytlpmnnkijdbopaa
open Go.RowKit Go.Maps

theorem find_five {T : Ts} {k : Bs} (h : k ∈ fiveL) : find T k = some (scalar k) := by unfold find; rw [if_pos h]
theorem kind_five {T : Ts} {k : Bs} (h : k ∈ fiveL) : kind T k = 1 := by unfold kind; rw [find_five h]; rfl
theorem fiveL_len {k : Bs} (h : k ∈ fiveL) : k.length ≤ 7 := by
  simp [fiveL] at h
  rcases h with rfl | rfl | rfl | rfl | rfl <;> simp
/-- what is answered where there is none -/
def NoR (w : World) (cs : Array Value) (e : Ending) (w' : World) : Prop := e = .returned (.tuple #[.agg cs, .bool false]) ∧ Below w.heap.size w w'
set_option maxRecDepth 20000 in
set_option maxHeartbeats 1600000 in
theorem def_five {n lo hi p : Nat} {w : World} {T : Ts} {X : TL} {k : Bs} (h : TysX n w lo hi p T X) (hk : k ∈ fiveL) :
    Calls Try.prog 19 #[.pointer (some ⟨p, 0, none⟩), tx k] w (NoR w zeroT.toArray) := by
  have hkl : k.length ≤ maxLen := by have := fiveL_len hk; unfold maxLen; omega
  obtain ⟨cs, hget, hrt⟩ := h.get k _ (find_five hk)
  have hone : cs.toArray.all (·.oneCell') = true := all_oneCell_toArray hrt.one
  have hsz7 : cs.length = 7 := by
    obtain ⟨_, _, _, _, _, _, _, _, e, _⟩ := hrt
    rw [e]; rfl
  have hu : (dget X.D k).getD (.agg zeroT.toArray) = .agg cs.toArray := by rw [hget]; rfl
  have hq : (dget X.D k).isSome = true := by rw [hget]; rfl
  have H := hide (And.intro (h.below ((Below.refl _ w).alloc (Nat.le_refl _) (.cells zeroT.toArray 35))) (And.intro hkl (And.intro hk (And.intro hu (And.intro hq (And.intro hone hsz7))))))
  clear h hkl hk hget hu hq hone hsz7
  go_enter Try.func19, Try.ntmps19
  go_upto_region 1 with fail
  obtain ⟨w1, hw1⟩ : ∃ w1, w1 = w.alloc (.cells zeroT.toArray 35) := ⟨_, rfl⟩
  rw [show w.alloc (.cells #[.int .i64 0, .string ⟨#[]⟩, .slice none 0 0, .slice none 0 0, .slice none 0 0, .slice none 0 0, .int .i64 0] 35) = w1 from hw1.symm]
  have hT := H.out.1
  rw [← hw1] at hT
  have ho : w1.heap[w.heap.size]? = some (.cells zeroT.toArray 35 (0, 0)) := by rw [hw1]; exact heap_alloc_new w _
  have hb : Below w.heap.size w w1 := by rw [hw1]; exact (Below.refl _ _).alloc (Nat.le_refl _) _
  have p0 := hT.p0
  have HT := hide (And.intro hT (And.intro ho hb))
  clear hT ho hb hw1
  go_wp2_with (first
    | (at_lookup; refine wpList_tgetOk rfl HT.out.1.map rfl H.out.2.1 H.out.2.2.2.1 H.out.2.2.2.2.1 ?_)
    | ((with_reducible show wpList _ _ _ ({ dst := _, op := .store 35 _ _, type := _, pos := _, after := _, guard := _ } :: _) _ _); refine wpList_store_new rfl rfl rfl (by rw [Try.sizeT]; simp [H.out.2.2.2.2.2.2]) (by simp [H.out.2.2.2.2.2.2]) H.out.2.2.2.2.2.1 ?_))
  refine (five_any _).mono ?_
  rintro e w3 ⟨rfl, hw3⟩
  have hb3 : Below w.heap.size w w3 := by rw [hw3]; exact (HT.out.2.2.alloc HT.out.2.2.size _).alloc (Nat.le_trans HT.out.2.2.size (by simp)) _
  have hr3 : Row w3 (w1.heap.size + 1) (some ⟨w1.heap.size + 1, 0, none⟩) fiveL := by rw [hw3]; exact row_lit _ fiveL (World.size_alloc ..)
  have hs3 := hr3.sl (S := fun b => b < w3.heap.size) (fun _ _ h => h)
  have ho3 : w3.heap[w.heap.size]? = some (.cells zeroT.toArray 35 (0, 0)) := by
    have hl1 : w.heap.size < w1.heap.size := lt_of_block HT.out.2.1
    rw [hw3, heap_alloc_old _ _ (by rw [World.size_alloc]; omega), heap_alloc_old _ _ hl1]
    exact HT.out.2.1
  have C := containsS_any (s := k) 5 hs3 (by decide)
  rw [decide_eq_true H.out.2.2.1] at C
  have CH := hide C
  have H3 := hide (And.intro ho3 hb3)
  clear C hs3 hr3 hb3 ho3
  clear hw3
  go_wp2_with fail
  refine CH.out.mono ?_
  rintro e w4 ⟨rfl, rfl⟩
  go_wp2_with ((with_reducible show wpList _ _ _ ({ dst := _, op := .store 35 _ _, type := _, pos := _, after := _, guard := _ } :: _) _ _); refine wpList_store_row rfl 35 _ _ rfl w.heap.size zeroT.toArray rfl rfl 35 _ H3.out.1 Try.sizeT rfl (by simp [Value.oneCell', zeroT]) ?_)
  refine bodyPost_ret (v := .tuple #[.agg zeroT.toArray, .bool false]) (results_row_tmp7 (u := 5) Try.results19 _ _ w.heap.size 35 _ (0, 0) _ rfl rfl (setRow_heap _ _ _ _ _ _ H3.out.1) Try.underlying35 rfl Try.sizeT) rfl ⟨rfl, below_setRow H3.out.2 (Nat.le_refl _) _⟩
/-- what is answered where there is one: a copy, its rows of fields and members its own -/
def DefOPost (w : World) (n : Nat) (d : Td) (e : Ending) (w' : World) : Prop := ∃ A2 c2 A3 c3 cs, e = .returned (.tuple #[.agg cs.toArray, .bool true]) ∧ RT w' (New w w') n d cs ∧ Below w.heap.size w w' ∧
  cs[3]? = some (.slice A2 d.fields.length c2) ∧ cs[4]? = some (.slice A3 d.members.length c3) ∧ Fr w' (w.heap.size + 1) A2 ∧ Fr w' (w.heap.size + 1) A3
set_option maxRecDepth 20000 in
set_option maxHeartbeats 1600000 in
theorem def_own {n lo hi p : Nat} {w : World} {T : Ts} {X : TL} {k : Bs} (h : TysX n w lo hi p T X) {d : Td} (hkl : k.length ≤ maxLen) (hk : k ∉ fiveL) (hf : find T k = some d) :
    Calls Try.prog 19 #[.pointer (some ⟨p, 0, none⟩), tx k] w (DefOPost w n d) := by
  obtain ⟨cs, hget, hrt⟩ := h.get k _ hf
  have hone : cs.toArray.all (·.oneCell') = true := all_oneCell_toArray hrt.one
  have hsz7 : cs.length = 7 := by
    obtain ⟨_, _, _, _, _, _, _, _, e, _⟩ := hrt
    rw [e]; rfl
  have hu : (dget X.D k).getD (.agg zeroT.toArray) = .agg cs.toArray := by rw [hget]; rfl
  have hq : (dget X.D k).isSome = true := by rw [hget]; rfl
  have hfew : FewT n d := h.few d (by
    unfold find at hf
    rw [if_neg hk] at hf
    exact List.mem_of_find?_eq_some hf)
  have hup := h.up
  have HR := hide (And.intro hrt (And.intro hfew (show ∀ b, In' lo hi b → b < w.heap.size from fun b hb => Nat.lt_of_lt_of_le hb.2 hup)))
  clear hrt hfew hup hf
  have H := hide (And.intro (h.below ((Below.refl _ w).alloc (Nat.le_refl _) (.cells zeroT.toArray 35))) (And.intro hkl (And.intro hk (And.intro hu (And.intro hq (And.intro hone hsz7))))))
  clear h hkl hk hget hu hq hone hsz7
  go_enter Try.func19, Try.ntmps19
  go_upto_region 1 with fail
  obtain ⟨w1, hw1⟩ : ∃ w1, w1 = w.alloc (.cells zeroT.toArray 35) := ⟨_, rfl⟩
  rw [show w.alloc (.cells #[.int .i64 0, .string ⟨#[]⟩, .slice none 0 0, .slice none 0 0, .slice none 0 0, .slice none 0 0, .int .i64 0] 35) = w1 from hw1.symm]
  have hT := H.out.1
  rw [← hw1] at hT
  have ho : w1.heap[w.heap.size]? = some (.cells zeroT.toArray 35 (0, 0)) := by rw [hw1]; exact heap_alloc_new w _
  have hb : Below w.heap.size w w1 := by rw [hw1]; exact (Below.refl _ _).alloc (Nat.le_refl _) _
  have p0 := hT.p0
  have HT := hide (And.intro hT (And.intro ho hb))
  clear hT ho hb hw1
  go_wp2_with (first
    | (at_lookup; refine wpList_tgetOk rfl HT.out.1.map rfl H.out.2.1 H.out.2.2.2.1 H.out.2.2.2.2.1 ?_)
    | ((with_reducible show wpList _ _ _ ({ dst := _, op := .store 35 _ _, type := _, pos := _, after := _, guard := _ } :: _) _ _); refine wpList_store_new rfl rfl rfl (by rw [Try.sizeT]; simp [H.out.2.2.2.2.2.2]) (by simp [H.out.2.2.2.2.2.2]) H.out.2.2.2.2.2.1 ?_))
  refine (five_any _).mono ?_
  rintro e w3 ⟨rfl, hw3⟩
  have hb3 : Below w.heap.size w w3 := by rw [hw3]; exact (HT.out.2.2.alloc HT.out.2.2.size _).alloc (Nat.le_trans HT.out.2.2.size (by simp)) _
  have hr3 : Row w3 (w1.heap.size + 1) (some ⟨w1.heap.size + 1, 0, none⟩) fiveL := by rw [hw3]; exact row_lit _ fiveL (World.size_alloc ..)
  have hs3 := hr3.sl (S := fun b => b < w3.heap.size) (fun _ _ h => h)
  have ho3 : w3.heap[w.heap.size]? = some (.cells zeroT.toArray 35 (0, 0)) := by
    have hl1 : w.heap.size < w1.heap.size := lt_of_block HT.out.2.1
    rw [hw3, heap_alloc_old _ _ (by rw [World.size_alloc]; omega), heap_alloc_old _ _ hl1]
    exact HT.out.2.1
  have C := containsS_any (s := k) 5 hs3 (by decide)
  rw [decide_eq_false H.out.2.2.1] at C
  have CH := hide C
  have hl1 : w.heap.size < w1.heap.size := lt_of_block HT.out.2.1
  have hq3 : w3.heap[w1.heap.size]? = some (.cells cs.toArray 35 (0, 0)) := by
    rw [hw3, heap_alloc_old _ _ (by rw [World.size_alloc]; omega)]
    exact heap_alloc_new w1 _
  have H3 := hide (And.intro ho3 (And.intro hb3 hq3))
  clear C hs3 hr3 hb3 ho3 hq3
  clear hw3
  go_wp2_with fail
  refine CH.out.mono ?_
  rintro e w4 ⟨rfl, rfl⟩
  have hrg : w3.rangeAt w1.heap.size 0 cs := fun j u hu => by
    rw [cell_of_row _ _ _ _ _ _ H3.out.2.2, Nat.zero_add]
    simpa using hu
  have HG := hide hrg
  clear hrg hl1
  go_wp2_with (((with_reducible show wpList _ _ _ ({ dst := _, op := .load 35 _, type := _, pos := _, after := _, guard := _ } :: _) _ _); refine wpList_loadE rfl HG.out Try.underlying35 rfl (by rw [Try.sizeT, H.out.2.2.2.2.2.2]) rfl ?_))
  have hrw : RT w3 (In' lo hi) n d cs := RT.map (fun _ h => h) (fun b hb => H3.out.2.1.block b (HR.out.2.2 b hb)) _ _ HR.out.1
  refine (own_free hrw (fun b hb => Nat.lt_of_lt_of_le (HR.out.2.2 b hb) H3.out.2.1.size) HR.out.2.1).mono ?_
  rintro e w5 ⟨A2, c2, A3, c3, co, rfl, hrt, hb5, hc3, hc4, hf2, hf3⟩
  have hsz : w.heap.size < w3.heap.size := lt_of_block H3.out.1
  have ho5 : w5.heap[w.heap.size]? = some (.cells zeroT.toArray 35 (0, 0)) := by rw [hb5.block _ hsz]; exact H3.out.1
  have H5 := hide (And.intro hrt (And.intro (H3.out.2.1.trans (hb5.mono H3.out.2.1.size)) (And.intro hc3 (And.intro hc4 (And.intro hf2 (And.intro hf3 (And.intro ho5 hsz)))))))
  have hl7 := hide (RT.len hrt)
  clear hrt hb5 hc3 hc4 hf2 hf3 ho5 hsz hrw
  go_wp2_with ((with_reducible show wpList _ _ _ ({ dst := _, op := .store 35 _ _, type := _, pos := _, after := _, guard := _ } :: _) _ _); refine wpList_store_row rfl 35 _ _ rfl w.heap.size co.toArray rfl rfl 35 _ H5.out.2.2.2.2.2.2.1 (by rw [Try.sizeT]; simp [hl7.out]) (by simp [hl7.out, zeroT]) (all_oneCell_toArray H5.out.1.one) ?_)
  refine bodyPost_ret (v := .tuple #[.agg co.toArray, .bool true]) (results_row_tmp7 (u := 5) Try.results19 _ _ w.heap.size 35 _ (0, 0) _ rfl rfl (setRow_heap _ _ _ _ _ _ H5.out.2.2.2.2.2.2.1) Try.underlying35 rfl (by rw [Try.sizeT]; simp [hl7.out])) rfl ⟨A2, c2, A3, c3, co, rfl, ?_, below_setRow H5.out.2.1 (Nat.le_refl _) _, H5.out.2.2.1, H5.out.2.2.2.1, ?_, ?_⟩
  · exact RT.map (fun b hb => ⟨by have := hb.1; have := H5.out.2.2.2.2.2.2.2; omega, by simpa using hb.2⟩) (fun b hb => setRow_other _ _ _ _ (by have := hb.1; have := H5.out.2.2.2.2.2.2.2; omega)) _ _ H5.out.1
  · exact fun b o hb => by
      obtain ⟨h1, c', t', h2⟩ := H5.out.2.2.2.2.1 b o hb
      exact ⟨by have := H5.out.2.2.2.2.2.2.2; omega, c', t', by rw [setRow_other _ _ _ _ (by have := H5.out.2.2.2.2.2.2.2; omega)]; exact h2⟩
  · exact fun b o hb => by
      obtain ⟨h1, c', t', h2⟩ := H5.out.2.2.2.2.2.1 b o hb
      exact ⟨by have := H5.out.2.2.2.2.2.2.2; omega, c', t', by rw [setRow_other _ _ _ _ (by have := H5.out.2.2.2.2.2.2.2; omega)]; exact h2⟩
set_option maxRecDepth 20000 in
set_option maxHeartbeats 1600000 in
theorem def_none {n lo hi p : Nat} {w : World} {T : Ts} {X : TL} {k : Bs} (h : TysX n w lo hi p T X) (hkl : k.length ≤ maxLen) (hk : find T k = none) :
    Calls Try.prog 19 #[.pointer (some ⟨p, 0, none⟩), tx k] w (NoR w zeroT.toArray) := by
  have hget := h.non k hk
  obtain ⟨cs, hcs⟩ : ∃ cs, cs = zeroT := ⟨_, rfl⟩
  have hone : cs.toArray.all (·.oneCell') = true := by rw [hcs]; simp [zeroT, Value.oneCell']
  have hsz7 : cs.length = 7 := by rw [hcs]; rfl
  have hu : (dget X.D k).getD (.agg zeroT.toArray) = .agg cs.toArray := by rw [hget, hcs]; rfl
  have hq : (dget X.D k).isSome = false := by rw [hget]; rfl
  clear hcs
  have H := hide (And.intro (h.below ((Below.refl _ w).alloc (Nat.le_refl _) (.cells zeroT.toArray 35))) (And.intro hkl (And.intro hk (And.intro hu (And.intro hq (And.intro hone hsz7))))))
  clear h hkl hk hget hu hq hone hsz7
  go_enter Try.func19, Try.ntmps19
  go_upto_region 1 with fail
  obtain ⟨w1, hw1⟩ : ∃ w1, w1 = w.alloc (.cells zeroT.toArray 35) := ⟨_, rfl⟩
  rw [show w.alloc (.cells #[.int .i64 0, .string ⟨#[]⟩, .slice none 0 0, .slice none 0 0, .slice none 0 0, .slice none 0 0, .int .i64 0] 35) = w1 from hw1.symm]
  have hT := H.out.1
  rw [← hw1] at hT
  have ho : w1.heap[w.heap.size]? = some (.cells zeroT.toArray 35 (0, 0)) := by rw [hw1]; exact heap_alloc_new w _
  have hb : Below w.heap.size w w1 := by rw [hw1]; exact (Below.refl _ _).alloc (Nat.le_refl _) _
  have p0 := hT.p0
  have HT := hide (And.intro hT (And.intro ho hb))
  clear hT ho hb hw1
  have hl1 : w.heap.size < w1.heap.size := lt_of_block HT.out.2.1
  have hz : (w1.alloc (.cells cs.toArray 35)).heap[w.heap.size]? = some (.cells zeroT.toArray 35 (0, 0)) := (heap_alloc_old w1 _ hl1).trans HT.out.2.1
  have HZ := hide (And.intro hz (HT.out.2.2.alloc HT.out.2.2.size (.cells cs.toArray 35)))
  clear hz hl1
  go_upto_region 3 with (first
    | (at_lookup; refine wpList_tgetOk rfl HT.out.1.map rfl H.out.2.1 H.out.2.2.2.1 H.out.2.2.2.2.1 ?_)
    | ((with_reducible show wpList _ _ _ ({ dst := _, op := .store 35 _ _, type := _, pos := _, after := _, guard := _ } :: _) _ _); refine wpList_store_new rfl rfl rfl (by rw [Try.sizeT]; simp [H.out.2.2.2.2.2.2]) (by simp [H.out.2.2.2.2.2.2]) H.out.2.2.2.2.2.1 ?_))
  go_wp2_with ((with_reducible show wpList _ _ _ ({ dst := _, op := .store 35 _ _, type := _, pos := _, after := _, guard := _ } :: _) _ _); refine wpList_store_row rfl 35 _ _ rfl w.heap.size zeroT.toArray rfl rfl 35 _ HZ.out.1 Try.sizeT rfl (by simp [Value.oneCell', zeroT]) ?_)
  refine bodyPost_ret (v := .tuple #[.agg zeroT.toArray, .bool false]) (results_row_tmp7 (u := 5) Try.results19 _ _ w.heap.size 35 _ (0, 0) _ rfl rfl (setRow_heap _ _ _ _ _ _ HZ.out.1) Try.underlying35 rfl Try.sizeT) rfl ⟨rfl, below_setRow HZ.out.2 (Nat.le_refl _) _⟩
end Go.Proofs.Ytlpmnnkijdbopaa
