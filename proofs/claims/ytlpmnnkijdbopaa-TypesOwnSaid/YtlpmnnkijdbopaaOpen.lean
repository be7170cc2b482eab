/-
  How the arguments are opened: types out of their datum.
-/
import Derived.Test.YtlpmnnkijdbopaaName
import Derived.Test.YtlpmnnkijdbopaaLaw
import Derived.ChangeMaps5
namespace Go.Proofs.Ytlpmnnkijdbopaa
open Go.ChangeShapes Go.WideShapes Go.ChangeAt Go.RowKit Go.Deep

theorem RV.up {w : World} {S : Nat → Prop} : ∀ (n m : Nat), n ≤ m → ∀ (v : V) (cs : List Value), RV w S n v cs → RV w S m v cs
  | 0, _, _, _, _, h => h.elim
  | n + 1, 0, h, _, _, _ => by omega
  | n + 1, m + 1, hnm, v, cs, ⟨A1, c1, A2, c2, e, h1, h2⟩ =>
    ⟨A1, c1, A2, c2, e, h1.map (fun _ h => h) (fun _ _ => rfl) (RV.up n m (by omega)), h2.map (fun _ h => h) (fun _ _ => rfl) fun _ _ => RArg.map (RV.up n m (by omega))⟩
section
variable {H : Type} {enc : TypeId × Value → H} {w : World} {base : Nat} {spare : Nat → Bool} {held : Bool}
set_option maxRecDepth 20000 in
theorem open_str {fuel : Nat} {c : Value} {x : DataW H × List MemPlace} (h : DataW.trod enc Try.prog w base spare held fuel 9 [c] = some x) : ∃ s, c = tx s := by
  cases fuel with
  | zero => simp [DataW.trod] at h
  | succ n =>
    unfold DataW.trod at h
    rw [Try.underlying9] at h
    cases c <;> simp at h
    rename_i s
    exact ⟨s.data.toList, rfl⟩
set_option maxRecDepth 20000 in
theorem open_i64 {fuel : Nat} {c : Value} {x : DataW H × List MemPlace} (h : DataW.trod enc Try.prog w base spare held fuel 3 [c] = some x) : ∃ n, c = .int .i64 n := by
  cases fuel with
  | zero => simp [DataW.trod] at h
  | succ n =>
    unfold DataW.trod at h
    rw [Try.underlying3] at h
    cases c <;> simp at h
    obtain ⟨⟨h1, _⟩, _⟩ := h
    exact ⟨_, by rw [h1]⟩
set_option maxRecDepth 20000 in
theorem open_bl {fuel : Nat} {c : Value} {x : DataW H × List MemPlace} (h : DataW.trod enc Try.prog w base spare held fuel 4 [c] = some x) : ∃ n, c = .bool n := by
  cases fuel with
  | zero => simp [DataW.trod] at h
  | succ n =>
    unfold DataW.trod at h
    rw [Try.underlying4] at h
    cases c <;> simp at h
    exact ⟨_, rfl⟩
theorem open_Sl {α : Type} {t e : TypeId} {k fuel : Nat} {cs : List Value} {x : DataW H × List MemPlace} (R : α → List Value → Prop) (ht : Try.prog.underlying t = some (.slice e)) (hk : Try.prog.cellsOf e = k) (hk0 : 0 < k)
    (hel : ∀ n, n < fuel → ∀ cs x, DataW.trod enc Try.prog w base spare held n e cs = some x → ∃ y : α, R y cs)
    (h : DataW.trod enc Try.prog w base spare held fuel t cs = some x) : ∃ A c l, cs = [.slice A l.length c] ∧ Sl w (fun b => b < w.heap.size) k A R l := by
  rcases DataW.trod_slice ht h with ⟨rfl, _⟩ | ⟨a, len, cap, elems, rest, n, hf, rfl, _, hb, hl, hm, hlen, hel2, _⟩
  · exact ⟨none, 0, [], rfl, Sl.nil' _ _ _ _ _⟩
  · have hsp : 0 < len → a.spot = none := fun h0 => by
      have h1 := hel2 0 h0
      rw [List.getElem?_eq_getElem (by omega)] at h1
      obtain ⟨cs', hc, _⟩ := Option.bind_eq_some_iff.1 h1
      obtain ⟨_, hcl, hat⟩ := World.cells?_some hc
      rw [hk] at hcl hat
      have h2 := hat 0 hk0
      rw [List.getElem?_eq_getElem (by omega), Nat.zero_mul, Addr.add_zero', Addr.add_zero'] at h2
      obtain ⟨b, o, sp⟩ := a
      cases sp with
      | none => rfl
      | some z => simp [World.cell?] at h2; split at h2 <;> simp at h2
    have hex : ∀ i : Nat, ∃ y : Option α, i < len → ∃ z, y = some z ∧ ∃ b o cs', a = ⟨b, o, none⟩ ∧ b < w.heap.size ∧ cs'.length = k ∧ w.rangeAt b (o + i * k) cs' ∧ R z cs' := by
      intro i
      by_cases hi : i < len
      · have h1 := hel2 i hi
        have h2 : elems[i]? = some elems[i] := List.getElem?_eq_getElem (by omega)
        rw [h2] at h1
        obtain ⟨cs', hc, htr⟩ := Option.bind_eq_some_iff.1 h1
        obtain ⟨y, hy⟩ := hel n (by omega) cs' _ htr
        obtain ⟨_, hcl, hat⟩ := World.cells?_some hc
        rw [hk] at hcl hat
        have h0 := hat 0 hk0
        rw [List.getElem?_eq_getElem (by omega)] at h0
        rw [Addr.add_zero'] at h0
        obtain ⟨b, o, sp⟩ := a
        have hs : sp = none := hsp (by omega)
        subst hs
        refine ⟨some y, fun _ => ⟨y, rfl, b, o, cs', rfl, ?_, hcl, fun j u hu => ?_, hy⟩⟩
        · have := World.block_lt_of_cell? w _ h0
          rw [Addr.add_lit] at this
          exact this
        · have hj : j < k := by have := (List.getElem?_eq_some_iff.1 hu).1; omega
          have := hat j hj
          rw [Addr.add_lit, Addr.add_lit, hu] at this
          exact this
      · exact ⟨none, fun h => absurd h hi⟩
    obtain ⟨f, hf2⟩ := Classical.axiomOfChoice hex
    have hmap : ∃ l : List α, l.length = len ∧ ∀ i z, l[i]? = some z → f i = some z := by
      have : ∀ m, m ≤ len → ∃ l : List α, l.length = m ∧ ∀ i z, l[i]? = some z → f i = some z := by
        intro m
        induction m with
        | zero => exact fun _ => ⟨[], rfl, by simp⟩
        | succ m ih =>
          intro hm
          obtain ⟨l, h1, h2⟩ := ih (by omega)
          obtain ⟨z, hz, _⟩ := hf2 m (by omega)
          refine ⟨l ++ [z], by simp [h1], fun i y hy => ?_⟩
          rcases Nat.lt_or_ge i l.length with hi | hi
          · rw [List.getElem?_append_left hi] at hy; exact h2 i y hy
          · have hil : i = l.length := by have := (List.getElem?_eq_some_iff.1 hy).1; simp at this; omega
            subst hil
            rw [List.getElem?_append_right (Nat.le_refl _)] at hy
            simp at hy
            subst hy
            rw [h1]; exact hz
      exact this len (Nat.le_refl _)
    obtain ⟨l, hll, hlf⟩ := hmap
    refine ⟨some a, cap, l, by rw [hll], fun j y hy => ?_⟩
    have hj : j < len := by rw [← hll]; exact (List.getElem?_eq_some_iff.1 hy).1
    obtain ⟨z, hz, b, o, cs', rfl, hb', hcl, hr, hR⟩ := hf2 j hj
    rw [hlf j y hy] at hz
    injection hz with hz
    subst hz
    exact ⟨b, o, cs', rfl, hb', hcl, hr, hR⟩
theorem Try.cellsV : Try.prog.cellsOf 67 = 5 := by kernel_rfl
theorem Try.cellsA : Try.prog.cellsOf 116 = 7 := by kernel_rfl
theorem Try.cellsI : Try.prog.cellsOf 69 = 9 := by kernel_rfl
theorem Try.cellsF : Try.prog.cellsOf 42 = 4 := by kernel_rfl
theorem Try.cellsT : Try.prog.cellsOf 35 = 7 := by kernel_rfl
theorem Try.cellsS : Try.prog.cellsOf 9 = 1 := by kernel_rfl
theorem Try.cellsN : Try.prog.cellsOf 3 = 1 := by kernel_rfl
theorem Try.cellsB : Try.prog.cellsOf 4 = 1 := by kernel_rfl
theorem Try.cellsVs : Try.prog.cellsOf 64 = 1 := by kernel_rfl
theorem Try.cellsAs : Try.prog.cellsOf 65 = 1 := by kernel_rfl
theorem Try.cellsIs : Try.prog.cellsOf 33 = 1 := by kernel_rfl
theorem Try.cellsFs : Try.prog.cellsOf 32 = 1 := by kernel_rfl
theorem Try.cellsSs : Try.prog.cellsOf 31 = 1 := by kernel_rfl
theorem get_some {α : Type} {xs : List α} {i m : Nat} (h : xs.length = m) (hi : i < m) : ∃ y, xs[i]? = some y := ⟨_, List.getElem?_eq_getElem (by omega)⟩
theorem fld {n o k : Nat} {t : TypeId} {cs sub : List Value} {y : DataW H × List MemPlace} (h : DataW.trod enc Try.prog w base spare held n t ((cs.drop o).take (Try.prog.cellsOf t)) = some y) (hk : Try.prog.cellsOf t = k) (hs : (cs.drop o).take k = sub) : DataW.trod enc Try.prog w base spare held n t sub = some y := by
  rw [hk, hs] at h
  exact h
set_option maxRecDepth 20000 in
theorem open_V : ∀ (fuel : Nat) (cs : List Value) (x : DataW H × List MemPlace), DataW.trod enc Try.prog w base spare held fuel 67 cs = some x → ∃ v, RV w (fun b => b < w.heap.size) fuel v cs := by
  intro fuel
  induction fuel using Nat.strongRecOn with
  | _ fuel ih =>
    intro cs x h
    obtain ⟨xs, n, rfl, _, hcl, hxl, hf⟩ := DataW.trod_struct Try.underlying67 h
    rw [Try.cellsV] at hcl
    match cs, hcl with
    | [c0, c1, c2, c3, c4], _ =>
      have g := fun (i : Nat) (hi : i < 5) => get_some (i := i) hxl hi
      obtain ⟨y0, e0⟩ := g 0 (by omega)
      obtain ⟨y1, e1⟩ := g 1 (by omega)
      obtain ⟨y2, e2⟩ := g 2 (by omega)
      obtain ⟨y3, e3⟩ := g 3 (by omega)
      obtain ⟨y4, e4⟩ := g 4 (by omega)
      have f0 := fld (sub := [c0]) ((hf 0 _ rfl).trans e0) Try.cellsN rfl
      have f1 := fld (sub := [c1]) ((hf 1 _ rfl).trans e1) Try.cellsS rfl
      have f2 := fld (sub := [c2]) ((hf 2 _ rfl).trans e2) Try.cellsVs rfl
      have f3 := fld (sub := [c3]) ((hf 3 _ rfl).trans e3) Try.cellsAs rfl
      have f4 := fld (sub := [c4]) ((hf 4 _ rfl).trans e4) Try.cellsN rfl
      obtain ⟨k, rfl⟩ := open_i64 f0
      obtain ⟨s, rfl⟩ := open_str f1
      obtain ⟨p, rfl⟩ := open_i64 f4
      obtain ⟨A1, d1, l1, h1, s1⟩ := open_Sl (RV w (fun b => b < w.heap.size) n) Try.underlying64 Try.cellsV (by omega) (fun m hm cs x hx => by
        obtain ⟨v, hv⟩ := ih m (by omega) cs x hx
        exact ⟨v, RV.up m n (by omega) _ _ hv⟩) f2
      obtain ⟨A2, d2, l2, h2, s2⟩ := open_Sl (RArg (RV w (fun b => b < w.heap.size) n)) Try.underlying65 Try.cellsA (by omega) (fun m hm cs x hx => by
        obtain ⟨xs', n', rfl, _, hcl', hxl', hf'⟩ := DataW.trod_struct Try.underlying116 hx
        rw [Try.cellsA] at hcl'
        match cs, hcl' with
        | [a0, a1, a2, a3, a4, a5, a6], _ =>
          have g' := fun (i : Nat) (hi : i < 3) => get_some (i := i) hxl' hi
          obtain ⟨z0, w0⟩ := g' 0 (by omega)
          obtain ⟨z1, w1⟩ := g' 1 (by omega)
          obtain ⟨z2, w2⟩ := g' 2 (by omega)
          have q0 := fld (sub := [a0]) ((hf' 0 _ rfl).trans w0) Try.cellsS rfl
          have q1 := fld (sub := [a1, a2, a3, a4, a5]) ((hf' 1 _ rfl).trans w1) Try.cellsV rfl
          have q2 := fld (sub := [a6]) ((hf' 2 _ rfl).trans w2) Try.cellsN rfl
          obtain ⟨s', rfl⟩ := open_str q0
          obtain ⟨p', rfl⟩ := open_i64 q2
          obtain ⟨v, hv⟩ := ih n' (by omega) _ _ q1
          exact ⟨(s', v, p'), [a1, a2, a3, a4, a5], rfl, rfl, RV.up n' n (by omega) _ _ hv⟩) f3
      injection h1 with h1 _
      injection h2 with h2 _
      subst h1 h2
      exact ⟨.mk k s l1 l2 p, A1, d1, A2, d2, rfl, s1, s2⟩
set_option maxRecDepth 20000 in
theorem open_I {fuel N : Nat} {cs : List Value} {x : DataW H × List MemPlace} (h : DataW.trod enc Try.prog w base spare held fuel 69 cs = some x) (hN : fuel ≤ N) : ∃ d, RI w (fun b => b < w.heap.size) N d cs := by
  obtain ⟨xs, n, rfl, _, hcl, hxl, hf⟩ := DataW.trod_struct Try.underlying69 h
  rw [Try.cellsI] at hcl
  match cs, hcl with
  | [c0, c1, c2, c3, c4, c5, c6, c7, c8], _ =>
    have g := fun (i : Nat) (hi : i < 5) => get_some (i := i) hxl hi
    obtain ⟨y0, e0⟩ := g 0 (by omega)
    obtain ⟨y1, e1⟩ := g 1 (by omega)
    obtain ⟨y2, e2⟩ := g 2 (by omega)
    obtain ⟨y3, e3⟩ := g 3 (by omega)
    obtain ⟨y4, e4⟩ := g 4 (by omega)
    have f0 := fld (sub := [c0]) ((hf 0 _ rfl).trans e0) Try.cellsS rfl
    have f1 := fld (sub := [c1]) ((hf 1 _ rfl).trans e1) Try.cellsS rfl
    have f2 := fld (sub := [c2]) ((hf 2 _ rfl).trans e2) Try.cellsB rfl
    have f3 := fld (sub := [c3, c4, c5, c6, c7]) ((hf 3 _ rfl).trans e3) Try.cellsV rfl
    have f4 := fld (sub := [c8]) ((hf 4 _ rfl).trans e4) Try.cellsN rfl
    obtain ⟨s, rfl⟩ := open_str f0
    obtain ⟨t, rfl⟩ := open_str f1
    obtain ⟨q, rfl⟩ := open_bl f2
    obtain ⟨v, hv⟩ := open_V n _ _ f3
    obtain ⟨p, rfl⟩ := open_i64 f4
    exact ⟨⟨s, t, q, v, p⟩, [c3, c4, c5, c6, c7], rfl, rfl, RV.up n N (by omega) _ _ hv⟩
set_option maxRecDepth 20000 in
theorem open_F {fuel N : Nat} {cs : List Value} {x : DataW H × List MemPlace} (h : DataW.trod enc Try.prog w base spare held fuel 42 cs = some x) (hN : fuel ≤ N) : ∃ d, RF w (fun b => b < w.heap.size) N d cs := by
  obtain ⟨xs, n, rfl, _, hcl, hxl, hf⟩ := DataW.trod_struct Try.underlying42 h
  rw [Try.cellsF] at hcl
  match cs, hcl with
  | [c0, c1, c2, c3], _ =>
    have g := fun (i : Nat) (hi : i < 4) => get_some (i := i) hxl hi
    obtain ⟨y0, e0⟩ := g 0 (by omega)
    obtain ⟨y1, e1⟩ := g 1 (by omega)
    obtain ⟨y2, e2⟩ := g 2 (by omega)
    obtain ⟨y3, e3⟩ := g 3 (by omega)
    have f0 := fld (sub := [c0]) ((hf 0 _ rfl).trans e0) Try.cellsS rfl
    have f1 := fld (sub := [c1]) ((hf 1 _ rfl).trans e1) Try.cellsIs rfl
    have f2 := fld (sub := [c2]) ((hf 2 _ rfl).trans e2) Try.cellsS rfl
    have f3 := fld (sub := [c3]) ((hf 3 _ rfl).trans e3) Try.cellsN rfl
    obtain ⟨s, rfl⟩ := open_str f0
    obtain ⟨t, rfl⟩ := open_str f2
    obtain ⟨p, rfl⟩ := open_i64 f3
    obtain ⟨A, c, l, h1, s1⟩ := open_Sl (RI w (fun b => b < w.heap.size) N) Try.underlying33 Try.cellsI (by omega) (fun m hm cs x hx => open_I hx (by omega)) f1
    injection h1 with h1 _
    subst h1
    exact ⟨⟨s, l, t, p⟩, A, c, rfl, s1⟩
theorem open_strs {fuel : Nat} {cs : List Value} {x : DataW H × List MemPlace} (h : DataW.trod enc Try.prog w base spare held fuel 31 cs = some x) : ∃ A c l, cs = [.slice A (List.length l) c] ∧ Sl w (fun b => b < w.heap.size) 1 A RS l :=
  open_Sl RS Try.underlying31 Try.cellsS (by omega) (fun m hm cs x hx => by
    have hl : cs.length = 1 := by
      cases m with
      | zero => simp [DataW.trod] at hx
      | succ m =>
        unfold DataW.trod at hx
        rw [Try.underlying9] at hx
        match cs with
        | [] => simp at hx
        | [c] => rfl
        | c :: d :: r => simp at hx
    match cs, hl with
    | [c], _ =>
      obtain ⟨s, rfl⟩ := open_str hx
      exact ⟨s, rfl⟩) h
set_option maxRecDepth 20000 in
theorem open_T {fuel N : Nat} {cs : List Value} {x : DataW H × List MemPlace} (h : DataW.trod enc Try.prog w base spare held fuel 35 cs = some x) (hN : fuel ≤ N) : ∃ d, RT w (fun b => b < w.heap.size) N d cs := by
  obtain ⟨xs, n, rfl, _, hcl, hxl, hf⟩ := DataW.trod_struct Try.underlying35 h
  rw [Try.cellsT] at hcl
  match cs, hcl with
  | [c0, c1, c2, c3, c4, c5, c6], _ =>
    have g := fun (i : Nat) (hi : i < 7) => get_some (i := i) hxl hi
    obtain ⟨y0, e0⟩ := g 0 (by omega)
    obtain ⟨y1, e1⟩ := g 1 (by omega)
    obtain ⟨y2, e2⟩ := g 2 (by omega)
    obtain ⟨y3, e3⟩ := g 3 (by omega)
    obtain ⟨y4, e4⟩ := g 4 (by omega)
    obtain ⟨y5, e5⟩ := g 5 (by omega)
    obtain ⟨y6, e6⟩ := g 6 (by omega)
    have f0 := fld (sub := [c0]) ((hf 0 _ rfl).trans e0) Try.cellsN rfl
    have f1 := fld (sub := [c1]) ((hf 1 _ rfl).trans e1) Try.cellsS rfl
    have f2 := fld (sub := [c2]) ((hf 2 _ rfl).trans e2) Try.cellsSs rfl
    have f3 := fld (sub := [c3]) ((hf 3 _ rfl).trans e3) Try.cellsFs rfl
    have f4 := fld (sub := [c4]) ((hf 4 _ rfl).trans e4) Try.cellsSs rfl
    have f5 := fld (sub := [c5]) ((hf 5 _ rfl).trans e5) Try.cellsIs rfl
    have f6 := fld (sub := [c6]) ((hf 6 _ rfl).trans e6) Try.cellsN rfl
    obtain ⟨k, rfl⟩ := open_i64 f0
    obtain ⟨s, rfl⟩ := open_str f1
    obtain ⟨A1, d1, l1, h1, s1⟩ := open_strs f2
    obtain ⟨A2, d2, l2, h2, s2⟩ := open_Sl (RF w (fun b => b < w.heap.size) N) Try.underlying32 Try.cellsF (by omega) (fun m hm cs x hx => open_F hx (by omega)) f3
    obtain ⟨A3, d3, l3, h3, s3⟩ := open_strs f4
    obtain ⟨A4, d4, l4, h4, s4⟩ := open_Sl (RI w (fun b => b < w.heap.size) N) Try.underlying33 Try.cellsI (by omega) (fun m hm cs x hx => open_I hx (by omega)) f5
    obtain ⟨p, rfl⟩ := open_i64 f6
    injection h1 with h1 _
    injection h2 with h2 _
    injection h3 with h3 _
    injection h4 with h4 _
    subst h1 h2 h3 h4
    exact ⟨⟨k, s, l1, l2, l3, l4, p⟩, A1, d1, A2, d2, A3, d3, A4, d4, rfl, s1, s2, s3, s4⟩
theorem open_types {fuel : Nat} {v : Value} {x : DataW H × List MemPlace} (h : DataW.trod enc Try.prog w base spare held fuel 22 [v] = some x) : ∃ n A c l, v = .slice A (List.length l) c ∧ Sl w (fun b => b < w.heap.size) 7 A (RT w (fun b => b < w.heap.size) n) l := by
  obtain ⟨A, c, l, h1, s1⟩ := open_Sl (RT w (fun b => b < w.heap.size) fuel) Try.underlying22 Try.cellsT (by omega) (fun m hm cs x hx => open_T hx (by omega)) h
  injection h1 with h1 _
  exact ⟨fuel, A, c, l, h1, s1⟩
end
end Go.Proofs.Ytlpmnnkijdbopaa
