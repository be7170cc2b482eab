/-
  The walks of Leaf, Def (of a name of the five), Field (of a name that has none).
-/
import Derived.Test.YtlpmnnkijdbopaaDoorOver
import Derived.Test.YtlpmnnkijdbopaaDoorAwake
namespace Go.Proofs.YtlpmnnkijdbopaaDoor
open Go.RowKit Go.Maps

theorem results_row_tmp7 {P : Program} {fn : Func} {p u : Tmp} {ty : TypeId} (h : fn.results = #[.cell p ty, .tmp u]) (tmps : Array Value) (w : World) (g : Nat) (t : TypeId) (cs : Array Value) (fr : Nat × Nat) (d : TypeDesc) {x : Value}
    (hp : tmps.getD p undef = .pointer (some ⟨g, 0, none⟩)) (hx : tmps.getD u undef = x) (hg : w.heap[g]? = some (.cells cs t fr))
    (hu : P.underlying ty = some d) (hd : (match d with | .struct _ | .array _ _ => true | _ => false) = true) (hi : (P.info? ty).map (·.size) = some cs.size) :
    (results fn tmps).run P w = .ok (.tuple #[.agg cs, x]) w := by
  rw [results_cell_tmp h, hp, hx]
  simp [asAddr, run_loadVar_row w g t ty cs fr d hg hu hd hi]
set_option maxHeartbeats 400000 in
theorem leaf_any {n lo hi p : Nat} {w : World} {T : Ts} {X : TL} {k : Bs} (h : TysX n w lo hi p T X) (hk : k.length ≤ maxLen) :
    Calls Tryd.prog 10 #[.pointer (some ⟨p, 0, none⟩), tx k] w fun e w' => e = .returned (.bool (isK T k [1, 5])) ∧ Below w.heap.size w w' := by
  have H := hide (And.intro h hk)
  clear h hk
  go_enter Tryd.func10, Tryd.ntmps10
  go_wp2_with fail
  refine (is_any (ks := [1, 5]) 2 (tys_alloc H.out.1 _) H.out.2 (rn_new w [1, 5] 3) (by decide)).mono ?_
  rintro e w1 ⟨rfl, rfl⟩
  go_wp2
  go_ret
  exact ⟨rfl, (Below.refl _ _).alloc (Nat.le_refl _) _⟩
theorem find_five {T : Ts} {k : Bs} (h : k ∈ fiveL) : find T k = some (scalar k) := by unfold find; rw [if_pos h]
theorem kind_five {T : Ts} {k : Bs} (h : k ∈ fiveL) : kind T k = 1 := by unfold kind; rw [find_five h]; rfl
theorem fiveL_len {k : Bs} (h : k ∈ fiveL) : k.length ≤ 7 := by
  simp [fiveL] at h
  rcases h with rfl | rfl | rfl | rfl | rfl <;> simp
/-- what is answered where there is none -/
def NoR (w : World) (cs : Array Value) (e : Ending) (w' : World) : Prop := e = .returned (.tuple #[.agg cs, .bool false]) ∧ Below w.heap.size w w'
set_option maxRecDepth 20000 in
set_option maxHeartbeats 1600000 in
theorem def_five {n lo hi p : Nat} {w : World} {T : Ts} {X : TL} {k : Bs} (h : TysX n w lo hi p T X) (hk : k ∈ fiveL) :
    Calls Tryd.prog 7 #[.pointer (some ⟨p, 0, none⟩), tx k] w (NoR w zeroT.toArray) := by
  have hkl : k.length ≤ maxLen := by have := fiveL_len hk; unfold maxLen; omega
  obtain ⟨cs, hget, hrt⟩ := h.get k _ (find_five hk)
  have hone : cs.toArray.all (·.oneCell') = true := all_oneCell_toArray hrt.one
  have hsz7 : cs.length = 7 := by
    obtain ⟨_, _, _, _, _, _, _, _, e, _⟩ := hrt
    rw [e]; rfl
  have hu : (dget X.D k).getD (.agg zeroT.toArray) = .agg cs.toArray := by rw [hget]; rfl
  have hq : (dget X.D k).isSome = true := by rw [hget]; rfl
  have H := hide (And.intro (h.below ((Below.refl _ w).alloc (Nat.le_refl _) (.cells zeroT.toArray 34))) (And.intro hkl (And.intro hk (And.intro hu (And.intro hq (And.intro hone hsz7))))))
  clear h hkl hk hget hu hq hone hsz7
  go_enter Tryd.func7, Tryd.ntmps7
  go_upto_region 1 with fail
  obtain ⟨w1, hw1⟩ : ∃ w1, w1 = w.alloc (.cells zeroT.toArray 34) := ⟨_, rfl⟩
  rw [show w.alloc (.cells #[.int .i64 0, .string ⟨#[]⟩, .slice none 0 0, .slice none 0 0, .slice none 0 0, .slice none 0 0, .int .i64 0] 34) = w1 from hw1.symm]
  have hT := H.out.1
  rw [← hw1] at hT
  have ho : w1.heap[w.heap.size]? = some (.cells zeroT.toArray 34 (0, 0)) := by rw [hw1]; exact heap_alloc_new w _
  have hb : Below w.heap.size w w1 := by rw [hw1]; exact (Below.refl _ _).alloc (Nat.le_refl _) _
  have p0 := hT.p0
  have HT := hide (And.intro hT (And.intro ho hb))
  clear hT ho hb hw1
  go_wp2_with (first
    | (at_lookup; refine wpList_tgetOk rfl HT.out.1.map rfl H.out.2.1 H.out.2.2.2.1 H.out.2.2.2.2.1 ?_)
    | ((with_reducible show wpList _ _ _ ({ dst := _, op := .store 34 _ _, type := _, pos := _, after := _, guard := _ } :: _) _ _); refine wpList_store_new rfl rfl rfl (by rw [Tryd.sizeT]; simp [H.out.2.2.2.2.2.2]) (by simp [H.out.2.2.2.2.2.2]) H.out.2.2.2.2.2.1 ?_))
  refine (five_any _).mono ?_
  rintro e w3 ⟨rfl, hw3⟩
  have hb3 : Below w.heap.size w w3 := by rw [hw3]; exact (HT.out.2.2.alloc HT.out.2.2.size _).alloc (Nat.le_trans HT.out.2.2.size (by simp)) _
  have hr3 : Row w3 (w1.heap.size + 1) (some ⟨w1.heap.size + 1, 0, none⟩) fiveL := by rw [hw3]; exact row_lit _ fiveL (World.size_alloc ..)
  have hs3 := hr3.sl (S := fun b => b < w3.heap.size) (fun _ _ h => h)
  have ho3 : w3.heap[w.heap.size]? = some (.cells zeroT.toArray 34 (0, 0)) := by
    have hl1 : w.heap.size < w1.heap.size := lt_of_block HT.out.2.1
    rw [hw3, heap_alloc_old _ _ (by rw [World.size_alloc]; omega), heap_alloc_old _ _ hl1]
    exact HT.out.2.1
  have C := containsS_any (s := k) 5 hs3 (by decide)
  rw [decide_eq_true H.out.2.2.1] at C
  have CH := hide C
  have H3 := hide (And.intro ho3 hb3)
  clear C hs3 hr3 hb3 ho3
  clear hw3
  go_wp2_with fail
  refine CH.out.mono ?_
  rintro e w4 ⟨rfl, rfl⟩
  go_wp2_with ((with_reducible show wpList _ _ _ ({ dst := _, op := .store 34 _ _, type := _, pos := _, after := _, guard := _ } :: _) _ _); refine wpList_store_row rfl 34 _ _ rfl w.heap.size zeroT.toArray rfl rfl 34 _ H3.out.1 Tryd.sizeT rfl (by simp [Value.oneCell', zeroT]) ?_)
  refine bodyPost_ret (v := .tuple #[.agg zeroT.toArray, .bool false]) (results_row_tmp7 (u := 5) Tryd.results7 _ _ w.heap.size 34 _ (0, 0) _ rfl rfl (setRow_heap _ _ _ _ _ _ H3.out.1) Tryd.underlying34 rfl Tryd.sizeT) rfl ⟨rfl, below_setRow H3.out.2 (Nat.le_refl _) _⟩
def zeroF : List Value := [.string ⟨#[]⟩, .slice none 0 0, .string ⟨#[]⟩, .int .i64 0]
set_option maxRecDepth 20000 in
set_option maxHeartbeats 1600000 in
theorem field_five {n lo hi p : Nat} {w : World} {T : Ts} {X : TL} {k : Bs} (h : TysX n w lo hi p T X) (hk : k ∈ fiveL) :
    Calls Tryd.prog 8 #[.pointer (some ⟨p, 0, none⟩), tx k, tx [97]] w (NoR w zeroF.toArray) := by
  have hkl : k.length ≤ maxLen := by have := fiveL_len hk; unfold maxLen; omega
  have his : isK T k [2, 3] = false := by unfold isK; rw [kind_five hk]; rfl
  have h1 := (Below.refl w.heap.size w).alloc (Nat.le_refl _) (.cells #[tx [97]] 9)
  have h2 := h1.alloc h1.size (.cells zeroF.toArray 30)
  have H := hide (And.intro (h.below h2) (And.intro hkl (And.intro his h2)))
  clear h hkl hk his h1 h2
  go_enter Tryd.func8, Tryd.ntmps8
  go_upto_region 1 with fail
  obtain ⟨w1, hw1⟩ : ∃ w1, w1 = (w.alloc (.cells #[tx [97]] 9)).alloc (.cells zeroF.toArray 30) := ⟨_, rfl⟩
  rw [show (w.alloc (.cells #[tx [97]] 9)).alloc (.cells #[.string ⟨#[]⟩, .slice none 0 0, .string ⟨#[]⟩, .int .i64 0] 30) = w1 from hw1.symm]
  have hT := H.out.1
  have hb := H.out.2.2.2
  rw [← hw1] at hT hb
  have hx : w1.cell? ⟨w.heap.size, 0, none⟩ = some (tx [97]) := by
    rw [hw1, cell_of_row _ _ _ _ _ _ ((heap_alloc_old _ _ (by simp)).trans (heap_alloc_new w (.cells #[tx [97]] 9)))]; rfl
  have ho : w1.heap[w.heap.size + 1]? = some (.cells zeroF.toArray 30 (0, 0)) := by
    have := heap_alloc_new (w.alloc (.cells #[tx [97]] 9)) (.cells zeroF.toArray 30)
    rw [World.size_alloc] at this
    rw [hw1]; exact this
  have HT := hide (And.intro hT (And.intro ho hb))
  clear hT ho hb hw1
  have hq : (ByteArray.mk #[97] == ByteArray.mk #[95, 95, 116, 121, 112, 101, 110, 97, 109, 101]) = false := by decide
  go_wp2_with fail
  have C := is_any (k := k) (ks := [2, 3]) 2 (tys_alloc HT.out.1 (.cells #[.int .i64 2, .int .i64 3] 3)) H.out.2.1 (rn_new w1 [2, 3] 3) (by decide)
  rw [H.out.2.2.1] at C
  have CH := hide C
  clear C
  refine CH.out.mono ?_
  rintro e w2 ⟨rfl, hw2⟩
  have hb2 : Below w1.heap.size w1 w2 := by rw [← hw2]; exact (Below.refl _ _).alloc (Nat.le_refl _) _
  have hl1 : w.heap.size + 1 < w1.heap.size := lt_of_block HT.out.2.1
  have ho2 : w2.heap[w.heap.size + 1]? = some (.cells zeroF.toArray 30 (0, 0)) := by rw [hb2.block _ hl1]; exact HT.out.2.1
  have H2 := hide (And.intro ho2 (HT.out.2.2.trans (hb2.mono HT.out.2.2.size)))
  clear ho2 hb2 hl1 hw2 CH
  go_wp2_with ((with_reducible show wpList _ _ _ ({ dst := _, op := .store 30 _ _, type := _, pos := _, after := _, guard := _ } :: _) _ _); refine wpList_store_row rfl 30 _ _ rfl (w.heap.size + 1) zeroF.toArray rfl rfl 30 _ H2.out.1 Tryd.sizeF rfl (by simp [Value.oneCell', zeroF]) ?_)
  refine bodyPost_ret (v := .tuple #[.agg zeroF.toArray, .bool false]) (results_row_tmp7 (u := 7) Tryd.results8 _ _ (w.heap.size + 1) 30 _ (0, 0) _ rfl rfl (setRow_heap _ _ _ _ _ _ H2.out.1) Tryd.underlying30 rfl Tryd.sizeF) rfl ⟨rfl, below_setRow H2.out.2 (by omega) _⟩
end Go.Proofs.YtlpmnnkijdbopaaDoor
