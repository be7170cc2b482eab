/-
  The walk of TypesFive.
-/
import Derived.Test.YtlpmnnkijdbopaaDoorFiveW
import Derived.Test.YtlpmnnkijdbopaaDoorInOut
namespace Go.Proofs.YtlpmnnkijdbopaaDoor
open Go.RowKit Go.Maps

theorem sz_tx (l : Bs) : (ByteArray.mk l.toArray).size = l.length := by show l.toArray.size = _; simp
theorem tx_app (a b : Bs) : ByteArray.mk a.toArray ++ ByteArray.mk b.toArray = ByteArray.mk (a ++ b).toArray := by
  have h : (ByteArray.mk a.toArray ++ ByteArray.mk b.toArray).data.toList = (ByteArray.mk (a ++ b).toArray).data.toList := by simp
  cases hx : ByteArray.mk a.toArray ++ ByteArray.mk b.toArray with | mk x =>
  rw [hx] at h
  have h : x = (a ++ b).toArray := by
    have h2 := congrArg List.toArray h
    simpa using h2
  rw [h]
theorem wpList_catT {P : Program} {ops : Array Oper} {rest : List Oper} {a : Act} {Q : Exit → Act → World → Prop} {w : World} {dst : Option Tmp} {ty t t2 : TypeId} {pos : String} {af : Array Edge} {x y : Operand} {g : Option (Nat × Bool)} {a' b' : Bs}
    (hx : a.eval x = tx a') (hy : a.eval y = tx b') (hl : a'.length + b'.length ≤ 1000000)
    (hw : Region.wanted { dst := dst, op := .binOp .add t x y t2, type := ty, pos := pos, after := af, guard := g } (yielded ops a.tmps) = true) (h : wpList P ops Q rest (a.put dst (tx (a' ++ b'))) w) :
    wpList P ops Q ({ dst := dst, op := .binOp .add t x y t2, type := ty, pos := pos, after := af, guard := g } :: rest) a w :=
  wpList_step fun _ hK => by
    rw [if_pos hw]
    have hrun : (binOp .add t (tx a') (tx b')).run P w = .ok (tx (a' ++ b')) w := by
      have := run_string_add_sum (P := P) w ⟨a'.toArray⟩ ⟨b'.toArray⟩ (by rw [sz_tx, sz_tx]; omega)
      rw [tx_app] at this
      exact this
    unfold Oper.wp execOp
    simp only [hx, hy, eqGuard_add, Sem.run_bind, Sem.run_pure, hrun, Result.andThen_ok]
    exact hK _ _ h
theorem run_five {m : Int} (h0 : 0 ≤ m) (h5 : m < 5) : ∃ k, k ∈ fiveL ∧ ∀ w, (Instr.index 25 (.agg #[.string ⟨#[73, 110, 116]⟩, .string ⟨#[70, 108, 111, 97, 116]⟩, .string ⟨#[83, 116, 114, 105, 110, 103]⟩, .string ⟨#[66, 111, 111, 108, 101, 97, 110]⟩, .string ⟨#[73, 68]⟩]) (.int .u8 m)).run Tryd.prog w = .ok (tx k) w := by
  have : m = 0 ∨ m = 1 ∨ m = 2 ∨ m = 3 ∨ m = 4 := by omega
  rcases this with rfl | rfl | rfl | rfl | rfl
  · exact ⟨[73, 110, 116], by decide, fun w => by kernel_rfl⟩
  · exact ⟨[70, 108, 111, 97, 116], by decide, fun w => by kernel_rfl⟩
  · exact ⟨[83, 116, 114, 105, 110, 103], by decide, fun w => by kernel_rfl⟩
  · exact ⟨[66, 111, 111, 108, 101, 97, 110], by decide, fun w => by kernel_rfl⟩
  · exact ⟨[73, 68], by decide, fun w => by kernel_rfl⟩
theorem good_five {k : Bs} (h : k ∈ fiveL) : good k := by
  simp [fiveL] at h
  rcases h with rfl | rfl | rfl | rfl | rfl
  all_goals
    refine ⟨by simp, fun c hc => ?_⟩
    simp at hc
    unfold okc
    (repeat' (rcases hc with rfl | hc)) <;> (try subst hc) <;> decide
theorem poss_five {T : Ts} {k : Bs} (h : k ∈ fiveL) : poss T k = [] := by
  have hr : raw T k = [] := by unfold raw; rw [kind_five h]; rfl
  unfold poss
  rw [hr, List.mergeSort_nil]
  rfl
theorem isK_five {T : Ts} {k : Bs} {ks : List Int} (h : k ∈ fiveL) {b : Bool} (hb : decide ((1 : Int) ∈ ks) = b) : isK T k ks = b := by
  unfold isK
  rw [kind_five h, hb]
  rfl
theorem base_in {k : Bs} (h : k ∈ fiveL) : base ([91] ++ k ++ [33, 93]) = k := by
  have := base_parts (p := [91]) (g := k) (q := [33, 93]) (by decide) (good_five h) (by decide)
  simpa using this
theorem base_out {k : Bs} (h : k ∈ fiveL) : base (k ++ [33]) = k := by
  have := base_parts (p := []) (g := k) (q := [33]) (by decide) (good_five h) (by decide)
  simpa using this
theorem wf_in {k : Bs} (h : k ∈ fiveL) : WfT ([91] ++ k ++ [33, 93]) := by
  have := Wf.list (.bang (.name (good_five h)))
  exact ⟨false, by simpa using this⟩
theorem wf_out {k : Bs} (h : k ∈ fiveL) : WfT (k ++ [33]) := ⟨true, .bang (.name (good_five h))⟩
theorem Tryd.infoTd : (Tryd.prog.info? 34).map (fun i => (i.zero, i.size, i.bytes)) = some (some (.agg zeroT.toArray), 7, 128) := by kernel_rfl
/-- the type that is laid ahead -/
def d0 (kd : Int) (k : Bs) : Td := { kind := kd, name := k, impls := [], fields := [{ name := [97], args := [], typ := [73, 110, 116], pos := 0 }], members := [], inputs := [], pos := 0 }
abbrev c0 (kd : Int) (k : Bs) (g : Nat) : List Value := [.int .i64 kd, tx k, .slice none 0 0, .slice (some ⟨g, 0, none⟩) 1 1, .slice none 0 0, .slice none 0 0, .int .i64 0]
abbrev f0 : List Value := [tx [97], .slice none 0 0, tx [73, 110, 116], .int .i64 0]
theorem few_d0 {n : Nat} {kd : Int} {k : Bs} {l : List Td} (hk : k.length ≤ 7) (hl : l.length ≤ 80) (h : FewL n l) : FewL n (d0 kd k :: l) := by
  refine ⟨by simp; omega, fun t ht => ?_⟩
  rcases List.mem_cons.1 ht with rfl | ht
  · refine ⟨?_, ?_, ?_, ?_, ?_⟩
    · show k.length ≤ 200; omega
    · exact ⟨by show (0 : Nat) ≤ 60; omega, fun s hs => by cases hs⟩
    · exact ⟨by show (0 : Nat) ≤ 60; omega, fun s hs => by cases hs⟩
    · refine ⟨by show (1 : Nat) ≤ 60; omega, fun f hf => ?_⟩
      have hf : f = { name := [97], args := [], typ := [73, 110, 116], pos := 0 } := by simpa [d0] using hf
      subst hf
      exact ⟨by decide, by decide, by show (0 : Nat) ≤ 60; omega, fun d hd => by cases hd⟩
    · exact ⟨by show (0 : Nat) ≤ 60; omega, fun d hd => by cases hd⟩
  · exact h.2 t ht
theorem few_long {l : List Td} {A : Option Addr} {w : World} (c : Nat) (h : 80 < (l.length : Int)) : Calls Tryd.prog 5 #[.slice A l.length c] w fun e w' => e = .returned (.bool false) ∧ Below w.heap.size w w' := by
  go_enter Tryd.func5, Tryd.ntmps5
  go_wp2
  go_ret
  exact ⟨rfl, Below.refl _ _⟩
/-- the append of the arguments behind the one laid ahead -/
theorem wpList_append_ahead {ops : Array Oper} {rest : List Oper} {a : Act} {Q : Exit → Act → World → Prop} {w W : World} {dst : Option Tmp} {ty : TypeId} {pos : String} {af : Array Edge} {s x : Operand} {n c : Nat} {A : Option Addr} {l : List Td} {kd : Int} {k : Bs}
    (hw : w = (W.alloc (.cells f0.toArray 30)).alloc (.cells (c0 kd k W.heap.size).toArray 34)) (hs : a.eval s = .slice (some ⟨W.heap.size + 1, 0, none⟩) 1 1) (hx : a.eval x = .slice A l.length c)
    (hl : l.length ≤ 80) (hsl : Sl W (fun b => b < W.heap.size) 7 A (RT W (fun b => b < W.heap.size) n) l)
    (h : ∀ A' c' w', Sl w' (fun b => b < w'.heap.size) 7 A' (RT w' (fun b => b < w'.heap.size) n) (d0 kd k :: l) → Below W.heap.size W w' → wpList Tryd.prog ops Q rest (a.put dst (.slice A' (d0 kd k :: l).length c')) w') :
    wpList Tryd.prog ops Q ({ dst := dst, op := .call { callee := .builtin .append, args := #[s, x], argTypes := #[22, 22] }, type := ty, pos := pos, after := af, guard := none } :: rest) a w := by
  obtain ⟨i0, hi, hz0, hz1, hz2⟩ := info_parts Tryd.infoTd
  obtain ⟨W1, hW1⟩ : ∃ W1, W1 = W.alloc (.cells f0.toArray 30) := ⟨_, rfl⟩
  rw [← hW1] at hw
  have hsz : W1.heap.size = W.heap.size + 1 := by rw [hW1]; exact World.size_alloc ..
  have hb1 : Below W.heap.size W W1 := by rw [hW1]; exact (Below.refl _ _).alloc (Nat.le_refl _) _
  have hg1 : W1.heap[W.heap.size]? = some (.cells f0.toArray 30 (0, 0)) := by rw [hW1]; exact heap_alloc_new W _
  clear hW1
  have hb2 : Below W1.heap.size W1 w := by rw [hw]; exact (Below.refl _ _).alloc (Nat.le_refl _) _
  have hown : w.ownsRow W1.heap.size 34 7 (.slice (some ⟨W.heap.size + 1, 0, none⟩) 1 1) 1 (c0 kd k W.heap.size) := by
    refine ⟨rfl, .inr ⟨W1.heap.size, 1, (c0 kd k W.heap.size).toArray, by rw [hsz], Nat.le_refl _, by rw [hw]; exact heap_alloc_new W1 _, Nat.le_refl _, by decide, rfl, rfl⟩⟩
  have hsz2 : W1.heap.size ≤ w.heap.size := hb2.size
  have hlt : ∀ b, b < W.heap.size → b < w.heap.size := fun b hb => by omega
  have hbw : Below W.heap.size W w := hb1.trans (hb2.mono hb1.size)
  have hsw : Sl w (fun b => b < W.heap.size) 7 A (RT w (fun b => b < W.heap.size) n) l := hsl.map (fun _ h => h) (fun b h => hbw.block b h) (fun _ _ h => RT.map (fun _ h => h) (fun b h => hbw.block b h) _ _ h)
  obtain ⟨news, hr, hone, hch⟩ := hsw.flat (B := W.heap.size) (by decide) (fun _ h => h) (fun _ _ h => h.one)
  refine wpList_append_rd Tryd.underlying22 hi hz0 hz1 hz2 rfl (by decide) hs hx hown hr hone (by unfold maxLen; omega) (by omega) hsz2 fun A' c' w' h2 h3 => ?_
  have hb3 : Below W.heap.size W w' := hbw.trans (h3.mono hb1.size)
  have hlw : w.heap.size ≤ w'.heap.size := h3.size
  have key := h A' c' w' ?_ hb3
  · rw [show (d0 kd k :: l).length = 1 + l.length from by simp [Nat.add_comm]] at key
    exact key
  · refine Sl.of_own (xs := d0 kd k :: l) h2 (by simp [Nat.add_comm]) (fun g hg => ?_) (fun j x hx => ?_)
    · have := h2.lt g (by rw [hg]; rfl)
      exact this.2
    · cases j with
      | zero =>
        simp at hx
        subst hx
        have hc : chunk 7 (c0 kd k W.heap.size ++ news) 0 = c0 kd k W.heap.size := rfl
        rw [hc]
        have hg3 : w'.heap[W.heap.size]? = some (.cells f0.toArray 30 (0, 0)) := by rw [h3.block _ (by omega), hb2.block _ (by omega)]; exact hg1
        refine ⟨none, 0, _, 1, none, 0, none, 0, rfl, Sl.nil' _ _ _ _ _, ?_, Sl.nil' _ _ _ _ _, Sl.nil' _ _ _ _ _⟩
        intro j x hx
        have hj : j = 0 := by
          have := (List.getElem?_eq_some_iff.1 hx).1
          simp [d0] at this
          exact this
        subst hj
        simp [d0] at hx
        subst hx
        refine ⟨W.heap.size, 0, f0, rfl, by omega, rfl, fun i u hu => ?_, none, 0, rfl, Sl.nil' _ _ _ _ _⟩
        rw [cell_of_row _ _ _ _ _ _ hg3]
        simpa using hu
      | succ j =>
        rw [List.getElem?_cons_succ] at hx
        have hc : chunk 7 (c0 kd k W.heap.size ++ news) (j + 1) = chunk 7 news j := by
          unfold chunk
          rw [show (j + 1) * 7 = 7 + j * 7 by omega, ← List.drop_drop]
          rfl
        rw [hc]
        exact RT.map (S' := fun b => b < w'.heap.size) (fun b hb => by omega) (fun b hb => by rw [h3.block _ (by omega)]) _ _ (hch j x hx)
def Yes (w : World) (e : Ending) (w' : World) : Prop := e = .returned (.bool true) ∧ Below w.heap.size w w'
set_option maxRecDepth 20000 in
set_option maxHeartbeats 3200000 in
theorem fiveLaw_any {n : Nat} {l : List Td} {A : Option Addr} {wh kd : Int} {w : World} (c : Nat) (h : Sl w (fun b => b < w.heap.size) 7 A (RT w (fun b => b < w.heap.size) n) l) (h0 : 0 ≤ wh) (h1 : wh ≤ 255) :
    Calls Tryd.prog 3 #[.slice A l.length c, .int .u8 wh, .int .i64 kd] w (Yes w) := by
  have H := hide (And.intro h (And.intro h0 h1))
  clear h h0 h1
  go_enter Tryd.func3, Tryd.ntmps3
  go_upto_region 1 with fail
  by_cases hll : 80 < (l.length : Int)
  · go_wp2_with fail
    refine (awake_any w).mono ?_
    rintro e w1 ⟨rfl, hb1⟩
    have H1 := hide hb1
    clear hb1
    go_wp2_with fail
    refine (few_long c hll).mono ?_
    rintro e w2 ⟨rfl, hb2⟩
    have H2 := hide (H1.out.trans (hb2.mono H1.out.size))
    clear hb2
    go_wp2_with fail
    refine (awake_any _).mono ?_
    rintro e w3 ⟨rfl, hb3⟩
    have H3 := hide (H2.out.trans (hb3.mono H2.out.size))
    clear hb3
    go_wp2
    go_ret
    exact ⟨rfl, H3.out⟩
  · have HLL := hide (show l.length ≤ 80 by omega)
    clear hll
    go_wp2_with fail
    refine (awake_any w).mono ?_
    rintro e w1 ⟨rfl, hb1⟩
    have H1 := hide hb1
    clear hb1
    go_wp2_with fail
    have hsl := H.out.1.map (S' := fun b => b < w1.heap.size) (fun b h => Nat.lt_of_lt_of_le h H1.out.size) (fun b h => H1.out.block b h) (fun _ _ h => RT.map (S' := fun b => b < w1.heap.size) (fun b h => Nat.lt_of_lt_of_le h H1.out.size) (fun b h => H1.out.block b h) _ _ h)
    have HL := hide hsl
    clear hsl
    refine (fewtypes_any c HL.out (fun _ h => h)).mono ?_
    rintro e w2 ⟨r, rfl, hr, hb2⟩
    have H2 := hide (And.intro hr (H1.out.trans (hb2.mono H1.out.size)))
    have hb2 := hide hb2
    clear hr
    cases r with
    | false =>
      go_wp2_with fail
      refine (awake_any _).mono ?_
      rintro e w3 ⟨rfl, hb3⟩
      have H3 := hide (H2.out.2.trans (hb3.mono H2.out.2.size))
      clear hb3
      go_wp2
      go_ret
      exact ⟨rfl, H3.out⟩
    | true =>
      have HF := hide (H2.out.1 (by trivial))
      go_upto_region 3 with fail
      obtain ⟨m, hm, hm5⟩ : ∃ m : Int, m = wh.tmod 5 ∧ 0 ≤ m ∧ m < 5 := ⟨wh.tmod 5, rfl, by have := H.out.2.1; rw [Int.tmod_eq_emod_of_nonneg this]; omega, by have := H.out.2.1; rw [Int.tmod_eq_emod_of_nonneg this]; omega⟩
      obtain ⟨k, hk, hidx⟩ := run_five hm5.1 hm5.2
      rw [hm] at hidx
      have hkl : k.length ≤ 7 := fiveL_len hk
      have K := hide (And.intro hk hkl)
      clear hk hkl hm hm5
      go_upto_region 4 with fail
      have hsl := HL.out.map (S' := fun b => b < w2.heap.size) (fun b h => Nat.lt_of_lt_of_le h hb2.out.size) (fun b h => hb2.out.block b h) (fun _ _ h => RT.map (S' := fun b => b < w2.heap.size) (fun b h => Nat.lt_of_lt_of_le h hb2.out.size) (fun b h => hb2.out.block b h) _ _ h)
      have HS := hide hsl
      clear hsl
      go_wp2_with ((with_reducible show wpList _ _ _ ({ dst := _, op := .call { callee := .builtin .append, args := #[_, _], argTypes := #[22, 22] }, type := _, pos := _, after := _, guard := _ } :: _) _ _); refine wpList_append_ahead (W := w2) (kd := kd) (k := k) rfl rfl rfl HLL.out HS.out ?_; intro A' c' w3 hs3 hb3)
      have N := new_any c' hs3 (fun _ h => h) (few_d0 K.out.2 HLL.out HF.out)
      obtain ⟨T, hT⟩ : ∃ T, T = mkT (d0 kd k :: l) := ⟨_, rfl⟩
      unfold NewPost at N
      rw [← hT] at N
      have NH := hide N
      have H3 := hide (H2.out.2.trans (hb3.mono H2.out.2.size))
      clear N hT hs3 hb3
      refine NH.out.mono ?_
      rintro e w4 ⟨X, rfl, hT, hb4⟩
      have H4 := hide (And.intro hT (H3.out.trans (hb4.mono H3.out.size)))
      clear hT hb4 NH
      go_upto_region 7 with fail
      have C := hide (def_five H4.out.1 K.out.1)
      go_wp2_with fail
      refine C.out.mono ?_
      rintro e w5 ⟨rfl, hb5⟩
      have H5 := hide (And.intro (tys_alloc (H4.out.1.below hb5) (.cells zeroT.toArray 34)) ((H4.out.2.trans (hb5.mono H4.out.2.size)).alloc (Nat.le_trans H4.out.2.size hb5.size) (.cells zeroT.toArray 34)))
      clear hb5 C
      go_upto_region 8 with ((with_reducible show wpList _ _ _ ({ dst := _, op := .store 34 _ _, type := _, pos := _, after := _, guard := _ } :: _) _ _); refine wpList_store_new rfl rfl rfl Tryd.sizeT (by simp [zeroT]) (by simp [zeroT, Value.oneCell']) ?_)
      obtain ⟨w6, hw6⟩ : ∃ w6, w6 = w5.alloc (.cells zeroT.toArray 34) := ⟨_, rfl⟩
      rw [← hw6]
      have H6 := H5.out
      rw [← hw6] at H6
      have H6 := hide H6
      clear H5 hw6
      have C := hide (field_five H6.out.1 K.out.1)
      go_wp2_with fail
      refine C.out.mono ?_
      rintro e w7 ⟨rfl, hb7⟩
      have H7 := hide (And.intro (tys_alloc (H6.out.1.below hb7) (.cells zeroF.toArray 30)) ((H6.out.2.trans (hb7.mono H6.out.2.size)).alloc (Nat.le_trans H6.out.2.size hb7.size) (.cells zeroF.toArray 30)))
      clear hb7 C
      go_upto_region 9 with ((with_reducible show wpList _ _ _ ({ dst := _, op := .store 30 _ _, type := _, pos := _, after := _, guard := _ } :: _) _ _); refine wpList_store_new rfl rfl rfl Tryd.sizeF (by simp [zeroF]) (by simp [zeroF, Value.oneCell']) ?_)
      obtain ⟨w8, hw8⟩ : ∃ w8, w8 = w7.alloc (.cells zeroF.toArray 30) := ⟨_, rfl⟩
      rw [← hw8]
      have H8 := H7.out
      rw [← hw8] at H8
      have H8 := hide H8
      clear H7 hw8
      have hkm : k.length ≤ maxLen := by have := K.out.2; unfold maxLen; omega
      have KM := hide hkm
      clear hkm
      have C := kind_any H8.out.1 KM.out
      rw [kind_five K.out.1] at C
      have CH := hide C
      clear C
      go_wp2_with fail
      refine CH.out.mono ?_
      rintro e w9 ⟨rfl, rfl⟩
      have C := leaf_any H8.out.1 KM.out
      rw [isK_five K.out.1 (b := true) (by decide)] at C
      have CH := hide C
      clear C
      go_wp2_with fail
      refine CH.out.mono ?_
      rintro e v1 ⟨rfl, hb⟩
      have V1 := hide (And.intro (H8.out.1.below hb) (H8.out.2.trans (hb.mono H8.out.2.size)))
      clear hb CH
      have C := composite_any V1.out.1 KM.out
      unfold comp at C
      rw [isK_five K.out.1 (b := false) (by decide)] at C
      have CH := hide C
      clear C
      go_wp2_with fail
      refine CH.out.mono ?_
      rintro e v2 ⟨rfl, hb⟩
      have V2 := hide (And.intro (V1.out.1.below hb) (V1.out.2.trans (hb.mono V1.out.2.size)))
      clear hb CH
      have C := input_any V2.out.1 (wf_in K.out.1) (by have := K.out.2; simp; omega)
      rw [base_in K.out.1, isK_five K.out.1 (b := true) (by decide)] at C
      have CH := hide C
      clear C
      go_wp2_with (first | ((with_reducible show wpList _ _ _ ({ dst := _, op := .binOp .add 9 _ _ 9, type := _, pos := _, after := _, guard := _ } :: _) _ _); refine wpList_catT (a' := [91]) (b' := k) rfl rfl (by have := K.out.2; simp; omega) (rfl) ?_) | ((with_reducible show wpList _ _ _ ({ dst := _, op := .binOp .add 9 _ _ 9, type := _, pos := _, after := _, guard := _ } :: _) _ _); refine wpList_catT (a' := [91] ++ k) (b' := [33, 93]) rfl rfl (by have := K.out.2; simp; omega) (rfl) ?_))
      refine CH.out.mono ?_
      rintro e v3 ⟨rfl, hb⟩
      have V3 := hide (And.intro (V2.out.1.below hb) (V2.out.2.trans (hb.mono V2.out.2.size)))
      clear hb CH
      have C := output_any V3.out.1 (wf_out K.out.1) (by have := K.out.2; simp; omega)
      rw [base_out K.out.1, isK_five K.out.1 (b := true) (by decide)] at C
      have CH := hide C
      clear C
      go_wp2_with ((with_reducible show wpList _ _ _ ({ dst := _, op := .binOp .add 9 _ _ 9, type := _, pos := _, after := _, guard := _ } :: _) _ _); refine wpList_catT (a' := k) (b' := [33]) rfl rfl (by have := K.out.2; simp; omega) (rfl) ?_)
      refine CH.out.mono ?_
      rintro e v4 ⟨rfl, hb⟩
      have V4 := hide (And.intro (V3.out.1.below hb) (V3.out.2.trans (hb.mono V3.out.2.size)))
      clear hb CH
      have C := possible_any V4.out.1 KM.out
      unfold PossPost at C
      rw [poss_five K.out.1] at C
      have CH := hide C
      clear C
      go_wp2_with fail
      refine CH.out.mono ?_
      rintro e v5 ⟨A5, rfl, _, hb⟩
      have V5 := hide (V4.out.2.trans (hb.mono V4.out.2.size))
      clear hb CH
      go_wp2
      go_ret
      exact ⟨rfl, V5.out⟩
end Go.Proofs.YtlpmnnkijdbopaaDoor
