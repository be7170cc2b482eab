/-
  What all laws of this seat share: from a walk that only makes memory to the law's statement; and how the arguments are opened.
-/
import Derived.Test.YtmeilpehlkpofaaWords
import Derived.ProofKit
import Derived.Deep.Slices
import Derived.SizedLaws
import Derived.OpenShut
namespace Go.Proofs.Ytmeilpehlkpofaa
open Go.ChangeShapes Go.WideShapes Go.ChangeAt Go.RowKit Go.Deep

theorem Try.own : ownKnob Try.prog.godebug = none := by kernel_rfl
theorem Try.laidOut : laidOutB Try.prog = true := by kernel_rfl

section
variable {H : Type} {enc : TypeId × Value → H} {P : Program} {W W' : World}
theorem trodAll_below (hl : laidOutB P = true) (hb : Below W.heap.size W W') :
    ∀ {ts : List TypeId} {vs : List Value} {ds : List (DataW H)} {ps : List MemPlace}, (∀ t ∈ ts, P.readableRec t = true ∧ t < P.types.size) → (∀ x ∈ ps, x.block < W.heap.size) →
      DataW.TrodAll enc P W 0 (fun _ => true) true ts vs ds ps → DataW.TrodAll enc P W' 0 (fun b => decide (b < W.heap.size)) true ts vs ds ps
  | [], _, _, _, _, _, h => by
    obtain ⟨rfl, rfl, rfl⟩ := trodAll_nil h
    exact trodAll_mk0
  | t :: ts, _, _, _, ht, hlt, h => by
    obtain ⟨v, vs1, d, ds1, a, b, rfl, rfl, rfl, h1, h2⟩ := trodAll_cons h
    have hr := ht t (by simp)
    exact trodAll_cons_mk (Below.trod hl hr.1 hr.2 h1 hb (fun x hx => hlt x (by simp [hx])))
      (trodAll_below hl hb (fun t' h' => ht t' (by simp [h'])) (fun x hx => hlt x (by simp [hx])) h2)

theorem law_post {f : Func} {s : ChangeSpec} {args : Array Value} {ds gs : List (DataW H)} {before : List MemPlace} {tb : TypeId} (hl : laidOutB P = true)
    (hreadB : (f.params.toList.all fun t => P.readableRec t && decide (t < P.types.size)) = true) (hrt : f.resultTypes = #[tb]) (htb : P.underlying tb = some .bool) (hvars : s.vars = [])
    (hW : DataW.Whole enc P f.params.toList s.vars false W args.toList ds gs before) (hfn : s.fn H ds = { results := [.lit (.bool true)], args := ds }) (hb : Below W.heap.size W W') :
    s.post enc P f false true false false W args (.bool true) W' := by
  have hread : ∀ t ∈ f.params.toList, P.readableRec t = true ∧ t < P.types.size := fun t ht => by
    have := List.all_eq_true.1 hreadB t ht
    simpa using this
  have hW' := hW
  obtain ⟨p, q, hA, hV, rfl, hz, hn⟩ := hW
  rw [hvars] at hV
  obtain ⟨rfl, rfl⟩ := trodVars_none hV
  have hlt : ∀ x ∈ p, x.block < W.heap.size := fun x hx => hW'.lt x (by simp [hx])
  refine ⟨ds, [], p ++ [], [], p, [], hW', ?_, ?_, ?_, ?_, fun h => by cases h⟩
  · rw [List.append_nil, hfn, hrt]
    exact trodAll_mk1 (shut_bool htb true)
  · rw [List.append_nil, hfn]
    exact trodAll_below hl hb hread hlt hA
  · rw [hvars, List.append_nil, hfn]
    exact rfl
  · exact hb.frame _
end

/-- bytes that came in -/
theorem open_bytes {H : Type} {enc : TypeId × Value → H} {w : World} {base : Nat} {spare : Nat → Bool} {held : Bool} {fuel : Nat} {v : Value} {x : DataW H × List MemPlace}
    (hx : DataW.trod enc Try.prog w base spare held fuel 22 [v] = some x) :
    ∃ A n c l, v = .slice A n c ∧ Rb w w.heap.size A n l ∧ n ≤ c ∧ c ≤ maxLen := by
  rcases open_ints Try.underlying22 Try.underlying5 (by kernel_rfl) hx with ⟨hcs, _⟩ | ⟨a, len, cap, zs, hcs, _, hl, hm, hz, hxx, hcell, hwf⟩
  · exact ⟨none, 0, 0, [], by simpa using hcs, Rb.nil' _ _ _, by omega, by unfold maxLen; omega⟩
  · have hv : v = .slice (some a) len cap := by simpa using hcs
    have hlz : len ≤ zs.length := by rw [hz]; split <;> omega
    refine ⟨some a, len, cap, (zs.take len).map fun z => UInt8.ofNat z.toNat, hv, ?_, hl, hm⟩
    have hbl : zs.length = 0 ∨ a.block < w.heap.size := by
      rcases Nat.eq_zero_or_pos zs.length with h | h
      · exact .inl h
      · refine .inr (World.block_lt_of_cell? w (a.add 0) (hcell 0 h))
    have hus : u8s ((zs.take len).map fun z => UInt8.ofNat z.toNat) = (zs.take len).map (Value.int .u8) := by
      unfold u8s
      rw [List.map_map]
      apply List.map_congr_left
      intro z hz'
      have := hwf z (List.mem_of_mem_take hz')
      simp [Lit.wf, IntKind.min, IntKind.max, IntKind.signed, IntKind.bits] at this
      simp
      omega
    unfold Rb
    rw [hus]
    rcases hbl with h0 | hbl
    · have : len = 0 := by omega
      subst this
      exact Rd.nil' _ _ _ _
    · refine Rd.of_adds (by simp; omega) hbl (fun j u hu => ?_)
      rw [List.getElem?_map, List.getElem?_take] at hu
      split at hu
      · rename_i hj
        rw [hcell j (by omega)]
        have hjz : j < zs.length := by omega
        rw [List.getElem?_eq_getElem hjz] at hu
        simp at hu
        simp [List.getD, List.getElem?_eq_getElem hjz, hu]
      · cases hu

/-- parts that came in -/
theorem open_parts {H : Type} {enc : TypeId × Value → H} {w : World} {base : Nat} {spare : Nat → Bool} {held : Bool} {fuel : Nat} {v : Value} {x : DataW H × List MemPlace}
    (hx : DataW.trod enc Try.prog w base spare held fuel 29 [v] = some x) :
    ∃ A n c ps, v = .slice A n c ∧ Rp w w.heap.size A n ps ∧ n ≤ maxLen := by
  rcases open_slice Try.underlying29 hx with ⟨hcs, _⟩ | ⟨a, len, cap, m, fu, D, Pl, hcs, _, hl, hm, hmm, hxx, hi⟩
  · exact ⟨none, 0, 0, [], by simpa using hcs, Rp.nil' _ _ _, by unfold maxLen; omega⟩
  · have hv : v = .slice (some a) len cap := by simpa using hcs
    have hlm : len ≤ m := by rw [hmm]; split <;> omega
    have hc1 : Try.prog.cellsOf 22 = 1 := by kernel_rfl
    have each : ∀ i, i < len → ∃ A' n' c' l, w.cell? (a.add i) = some (.slice A' n' c') ∧ Rb w w.heap.size A' n' l ∧ n' ≤ maxLen := by
      intro i hil
      obtain ⟨cs', hc, ht⟩ := hi i (by omega)
      rw [hc1, Nat.mul_one] at hc
      obtain ⟨_, hcl, hat⟩ := World.cells?_some hc
      have h0 := hat 0 (by omega)
      match cs', hcl with
      | [u], _ =>
        obtain ⟨A', n', c', l, rfl, hr, hn0, hn⟩ := open_bytes ht
        refine ⟨A', n', c', l, ?_, hr, by omega⟩
        simpa [add_add'] using h0
    have hps : ∃ ps : List (List UInt8), ps.length = len ∧ ∀ i l, ps[i]? = some l → ∃ A' n' c', w.cell? (a.add i) = some (.slice A' n' c') ∧ Rb w w.heap.size A' n' l ∧ n' ≤ maxLen := by
      have : ∀ k, k ≤ len → ∃ ps : List (List UInt8), ps.length = k ∧ ∀ i l, ps[i]? = some l → ∃ A' n' c', w.cell? (a.add i) = some (.slice A' n' c') ∧ Rb w w.heap.size A' n' l ∧ n' ≤ maxLen := by
        intro k
        induction k with
        | zero => exact fun _ => ⟨[], rfl, fun i l h => by simp at h⟩
        | succ k ih =>
          intro hk
          obtain ⟨ps, hp, hq⟩ := ih (by omega)
          obtain ⟨A', n', c', l, h1, h2, h3⟩ := each k (by omega)
          refine ⟨ps ++ [l], by simp [hp], fun i l' hl' => ?_⟩
          rw [List.getElem?_append] at hl'
          split at hl'
          · exact hq i l' hl'
          · rename_i hik
            have hi0 : i = ps.length := by
              have := (List.getElem?_eq_some_iff.1 hl').1
              simp at this
              omega
            subst hi0
            simp at hl'
            subst hl'
            rw [hp]
            exact ⟨A', n', c', h1, h2, h3⟩
      exact this len (Nat.le_refl _)
    obtain ⟨ps, hpl, hpa⟩ := hps
    refine ⟨some a, len, cap, ps, hv, ⟨hpl, fun j l hj => ?_⟩, by omega⟩
    obtain ⟨A', n', c', h1, h2, h3⟩ := hpa j l hj
    have hjl : j < ps.length := (List.getElem?_eq_some_iff.1 hj).1
    obtain ⟨_, _, _, _, g1, _, _⟩ := each 0 (by omega)
    rw [Addr.add_zero'] at g1
    obtain ⟨b, o, sp⟩ := a
    have hs : sp = none := by
      cases sp with
      | none => rfl
      | some z => simp [World.cell?] at g1; split at g1 <;> simp at g1
    subst hs
    rw [Addr.add_lit] at h1
    exact ⟨b, o, A', n', c', rfl, World.block_lt_of_cell? w _ h1, h1, h2, h3⟩

end Go.Proofs.Ytmeilpehlkpofaa
