/-
  The walks of maps.Clone, slices.Clone, Used and List.
-/
import Derived.Test.YtlnmjkilefnjpaaTurn
import Derived.Shelf.SlMaps.Clone
import Derived.Lib.SliceRun
namespace Go.Proofs.Ytlnmjkilefnjpaa
open Go.RowKit Go.Maps Go.Shelf

set_option maxHeartbeats 800000 in
theorem mapclone_any {w : World} {db : Nat} {l : Dir} (h : Dr w db l) :
    Calls Try.prog 29 #[.map (some db)] w fun e w' => e = .returned (.map (some w.heap.size)) ∧ Dr w' w.heap.size l ∧ Below w.heap.size w w' ∧ w'.heap.size = w.heap.size + 1 := by
  have hlt := h.lt
  obtain ⟨es, clock, hb, F, hs, hD⟩ := h
  have hq := fun w => run_eql_map_nil_sl (P := Try.prog) w 49 _ _ (some db) Try.underlying49
  have hB : Below w.heap.size w (w.alloc (.map es clock)) := (Below.refl _ w).alloc (Nat.le_refl _) _
  have H := hide (And.intro hb (And.intro (show Dr (w.alloc (.map es clock)) w.heap.size l from ⟨es, clock, (Go.MapKept.heap_alloc w _).1, F, hs, hD⟩) hB))
  clear hb F hs hD hB
  go_enter Try.func29, Try.ntmps29
  go_wp2
  rw [run_callFunc_extern Try.func35 (by kernel_rfl) (by kernel_rfl) (by kernel_rfl) (e := Extern.MapsClone.clone) (by kernel_rfl), run_maps_clone_sl w 49 H.out.1]
  simp only [Result.andThen]
  rw [Oper.upon_value]
  have hta := fun w v => run_typeAssert_map_sl (P := Try.prog) w 49 20 _ _ v Try.underlying49
  go_wp2
  go_ret
  exact ⟨rfl, H.out.2.1, H.out.2.2, by simp⟩
set_option maxHeartbeats 400000 in
/-- a copy of bytes of the call's own or of whomever: nil of nil. -/
theorem clone_any {w : World} {B n : Nat} {A : Option Addr} {l : Bs} (c : Nat) (hr : Rb w B A n l) (hB : B ≤ w.heap.size) (hn : n ≤ 1000000000) :
    Calls Try.prog 31 #[.slice A n c] w fun e w' => ∃ A' c', e = .returned (.slice A' l.length c') ∧ w'.ownsRow w.heap.size 5 1 (.slice A' l.length c') l.length (u8s l) ∧ Below w.heap.size w w' := by
  have hq := fun w n c => Lib.run_eql_slice_nil (P := Try.prog) w 29 5 A n c 0 0 Try.underlying29
  have hlen := hr.len
  have hown := World.ownsRow_made (e := 5) (size := 1) (base := w.heap.size) w #[] 0 (Nat.le_refl _) (by unfold maxLen; omega) rfl
  have hb : Below w.heap.size w (w.alloc (.cells #[] 5)) := (Below.refl _ _).alloc (Nat.le_refl _) _
  have H := hide (And.intro (hr.alloc hB (.cells #[] 5)) (And.intro hown (And.intro hb (And.intro hlen hn))))
  rcases A with _ | ad
  · have hl : l = [] := by have := Rd.none_len hr; simpa [u8s] using this
    subst hl
    clear hr hown hb hlen hn
    go_enter Try.func31, Try.ntmps31
    go_wp2
    go_ret
    exact ⟨none, 0, rfl, World.ownsRow_nil _ _ _ _, Below.refl _ _⟩
  · clear hr hown hb hlen hn
    go_enter Try.func31, Try.ntmps31
    go_wp2_with ((with_reducible show wpList _ _ _ ({ dst := _, op := .call { callee := .builtin .append, args := #[_, _], argTypes := #[29, 29] }, type := _, pos := _, after := _, guard := _ } :: _) _ _); refine wpList_append_u8g rfl rfl H.out.2.1 H.out.1 (by have := H.out.2.2.2.2; omega) (by simp) ?_; intro A2 c2 w2 hown2 hg2; have H2 := hide (And.intro hown2 hg2); clear hown2 hg2)
    go_ret
    have hlen := H.out.2.2.2.1
    refine ⟨A2, c2, ?_, ?_, ?_⟩
    · rw [hlen]; simp
    · have := H2.out.1
      simp only [Nat.zero_add, List.nil_append] at this
      rw [hlen]; exact this
    · exact H.out.2.2.1.grown H2.out.2 (by simp) (fun q hq => by simp [Value.ownBlock] at hq; omega)
end Go.Proofs.Ytlnmjkilefnjpaa
