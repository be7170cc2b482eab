/-
  What all laws of this seat share: from a walk that only makes memory to the law's statement; and how the arguments are opened.
-/
import Derived.Test.YtlnmjkilefnjpaaWords
import Derived.ProofKit
import Derived.Deep.Slices
import Derived.SizedLaws
import Derived.OpenShut
namespace Go.Proofs.Ytlnmjkilefnjpaa
open Go.ChangeShapes Go.WideShapes Go.ChangeAt Go.RowKit Go.Deep

theorem Try.own : ownKnob Try.prog.godebug = none := by kernel_rfl
theorem Try.laidOut : laidOutB Try.prog = true := by kernel_rfl

section
variable {H : Type} {enc : TypeId × Value → H} {P : Program} {W W' : World}
theorem trodAll_below (hl : laidOutB P = true) (hb : Below W.heap.size W W') :
    ∀ {ts : List TypeId} {vs : List Value} {ds : List (DataW H)} {ps : List MemPlace}, (∀ t ∈ ts, P.readableRec t = true ∧ t < P.types.size) → (∀ x ∈ ps, x.block < W.heap.size) →
      DataW.TrodAll enc P W 0 (fun _ => true) true ts vs ds ps → DataW.TrodAll enc P W' 0 (fun b => decide (b < W.heap.size)) true ts vs ds ps
  | [], _, _, _, _, _, h => by
    obtain ⟨rfl, rfl, rfl⟩ := trodAll_nil h
    exact trodAll_mk0
  | t :: ts, _, _, _, ht, hlt, h => by
    obtain ⟨v, vs1, d, ds1, a, b, rfl, rfl, rfl, h1, h2⟩ := trodAll_cons h
    have hr := ht t (by simp)
    exact trodAll_cons_mk (Below.trod hl hr.1 hr.2 h1 hb (fun x hx => hlt x (by simp [hx])))
      (trodAll_below hl hb (fun t' h' => ht t' (by simp [h'])) (fun x hx => hlt x (by simp [hx])) h2)

theorem law_post {f : Func} {s : ChangeSpec} {args : Array Value} {ds gs : List (DataW H)} {before : List MemPlace} {tb : TypeId} (hl : laidOutB P = true)
    (hreadB : (f.params.toList.all fun t => P.readableRec t && decide (t < P.types.size)) = true) (hrt : f.resultTypes = #[tb]) (htb : P.underlying tb = some .bool) (hvars : s.vars = [])
    (hW : DataW.Whole enc P f.params.toList s.vars false W args.toList ds gs before) (hfn : s.fn H ds = { results := [.lit (.bool true)], args := ds }) (hb : Below W.heap.size W W') :
    s.post enc P f false true false false W args (.bool true) W' := by
  have hread : ∀ t ∈ f.params.toList, P.readableRec t = true ∧ t < P.types.size := fun t ht => by
    have := List.all_eq_true.1 hreadB t ht
    simpa using this
  have hW' := hW
  obtain ⟨p, q, hA, hV, rfl, hz, hn⟩ := hW
  rw [hvars] at hV
  obtain ⟨rfl, rfl⟩ := trodVars_none hV
  have hlt : ∀ x ∈ p, x.block < W.heap.size := fun x hx => hW'.lt x (by simp [hx])
  refine ⟨ds, [], p ++ [], [], p, [], hW', ?_, ?_, ?_, ?_, fun h => by cases h⟩
  · rw [List.append_nil, hfn, hrt]
    exact trodAll_mk1 (shut_bool htb true)
  · rw [List.append_nil, hfn]
    exact trodAll_below hl hb hread hlt hA
  · rw [hvars, List.append_nil, hfn]
    exact rfl
  · exact hb.frame _
end

/-- bytes that came in -/
theorem open_bytes {H : Type} {enc : TypeId × Value → H} {w : World} {base : Nat} {spare : Nat → Bool} {held : Bool} {fuel : Nat} {v : Value} {x : DataW H × List MemPlace}
    (hx : DataW.trod enc Try.prog w base spare held fuel 29 [v] = some x) :
    ∃ A n c l, v = .slice A n c ∧ Rb w w.heap.size A n l ∧ n ≤ c ∧ c ≤ maxLen := by
  rcases open_ints Try.underlying29 Try.underlying5 (by kernel_rfl) hx with ⟨hcs, _⟩ | ⟨a, len, cap, zs, hcs, _, hl, hm, hz, hxx, hcell, hwf⟩
  · exact ⟨none, 0, 0, [], by simpa using hcs, Rb.nil' _ _ _, by omega, by unfold maxLen; omega⟩
  · have hv : v = .slice (some a) len cap := by simpa using hcs
    have hlz : len ≤ zs.length := by rw [hz]; split <;> omega
    refine ⟨some a, len, cap, (zs.take len).map fun z => UInt8.ofNat z.toNat, hv, ?_, hl, hm⟩
    have hbl : zs.length = 0 ∨ a.block < w.heap.size := by
      rcases Nat.eq_zero_or_pos zs.length with h | h
      · exact .inl h
      · refine .inr (World.block_lt_of_cell? w (a.add 0) (hcell 0 h))
    have hus : u8s ((zs.take len).map fun z => UInt8.ofNat z.toNat) = (zs.take len).map (Value.int .u8) := by
      unfold u8s
      rw [List.map_map]
      apply List.map_congr_left
      intro z hz'
      have := hwf z (List.mem_of_mem_take hz')
      simp [Lit.wf, IntKind.min, IntKind.max, IntKind.signed, IntKind.bits] at this
      simp
      omega
    unfold Rb
    rw [hus]
    rcases hbl with h0 | hbl
    · have : len = 0 := by omega
      subst this
      exact Rd.nil' _ _ _ _
    · refine Rd.of_adds (by simp; omega) hbl (fun j u hu => ?_)
      rw [List.getElem?_map, List.getElem?_take] at hu
      split at hu
      · rename_i hj
        rw [hcell j (by omega)]
        have hjz : j < zs.length := by omega
        rw [List.getElem?_eq_getElem hjz] at hu
        simp at hu
        simp [List.getD, List.getElem?_eq_getElem hjz, hu]
      · cases hu

set_option maxRecDepth 10000 in
/-- a pair of ints by value that came in -/
theorem open_two {H : Type} {enc : TypeId × Value → H} {w : World} {b0 base : Nat} {spare : Nat → Bool} {held : Bool} {r : Reach} {v : Value} {d : DataW H} {p : List MemPlace}
    (hv : Value.okWide Try.prog w r b0 36 v) (hx : DataW.Trod enc Try.prog w base spare held 36 v d p) :
    ∃ x y : Int, v = .agg #[.int .i64 x, .int .i64 y] := by
  have hc : Try.prog.cellsOf 36 = 2 := by kernel_rfl
  have hc1 : Try.prog.cellsOf 3 = 1 := by kernel_rfl
  have hs : ∃ cs, v = .agg cs ∧ cs.size = Try.prog.cellsOf 36 := by
    simp only [Value.okWide, Try.underlying36] at hv
    obtain ⟨cs, h1, h2, _⟩ := hv
    exact ⟨cs, h1, h2⟩
  obtain ⟨cs, rfl, hsz⟩ := hs
  obtain ⟨l⟩ := cs
  match l, hsz.trans hc with
  | [c0, c1], _ =>
    obtain ⟨fuel, hf⟩ := hx
    obtain ⟨xs, m, _, _, _, hlen, hi⟩ := DataW.trod_array Try.underlying36 hf
    match xs, hlen with
    | [x0, x1], _ =>
      have h0 := hi 0 (by omega)
      have h1 := hi 1 (by omega)
      rw [hc1] at h0 h1
      obtain ⟨a, ha, _⟩ := DataW.trod_int Try.underlying3 h0
      obtain ⟨b, hb, _⟩ := DataW.trod_int Try.underlying3 h1
      simp [Value.cells] at ha hb
      subst ha
      subst hb
      exact ⟨a, b, rfl⟩
end Go.Proofs.Ytlnmjkilefnjpaa
