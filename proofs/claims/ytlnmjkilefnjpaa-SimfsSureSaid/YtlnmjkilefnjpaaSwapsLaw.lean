/-
  The plain states of the law of the swaps.
-/
import Derived.Test.YtlnmjkilefnjpaaGood
namespace Go.Proofs.Ytlnmjkilefnjpaa
open Go.RowKit Go.Maps

abbrev na : Bs := [97]
abbrev nb : Bs := [98]
def sw1 : St := { steps := 1, left := -1, room := 2000, files := [([], 0)], dir := [(na, 0)], sure := [], chg := [[(na, 0)]] }
def sw2 (O : Bs) : St := { steps := 2, left := -1, room := 2000, files := [(O, 0)], dir := [(na, 0)], sure := [], chg := [[(na, 0)]] }
def sw3 (O : Bs) : St := { steps := 3, left := -1, room := 2000, files := [(O, O.length)], dir := [(na, 0)], sure := [], chg := [[(na, 0)]] }
def sw4 (O : Bs) : St := { steps := 4, left := -1, room := 2000, files := [(O, O.length)], dir := [(na, 0)], sure := [(na, 0)], chg := [] }
def sw5 (O : Bs) : St := { steps := 5, left := -1, room := 2000, files := [(O, O.length), ([], 0)], dir := [(na, 0), (nb, 1)], sure := [(na, 0)], chg := [[(nb, 1)]] }
def sw6 (O F : Bs) : St := { steps := 6, left := -1, room := 2000, files := [(O, O.length), (F, 0)], dir := [(na, 0), (nb, 1)], sure := [(na, 0)], chg := [[(nb, 1)]] }
def sw7 (O F : Bs) : St := { steps := 7, left := -1, room := 2000, files := [(O, O.length), (F, F.length)], dir := [(na, 0), (nb, 1)], sure := [(na, 0)], chg := [[(nb, 1)]] }
def sw8 (O F : Bs) : St := { steps := 8, left := -1, room := 2000, files := [(O, O.length), (F, F.length)], dir := [(na, 1)], sure := [(na, 0)], chg := [[(nb, 1)], [(nb, -1), (na, 1)]] }
def sw9 (O F : Bs) : St := { steps := 9, left := -1, room := 2000, files := [(O, O.length), (F, F.length)], dir := [(na, 1)], sure := [(na, 1)], chg := [] }
theorem sw1_eq : (newS 2000).create na = sw1 := rfl
theorem sw2_eq (O : Bs) : sw1.append 0 O = sw2 O := rfl
theorem sw3_eq (O : Bs) : (sw2 O).sync 0 = sw3 O := rfl
theorem sw4_eq (O : Bs) : (sw3 O).syncDir = sw4 O := rfl
theorem sw5_eq (O : Bs) : (sw4 O).create nb = sw5 O := rfl
theorem sw6_eq (O F : Bs) : (sw5 O).append 1 F = sw6 O F := rfl
theorem sw7_eq (O F : Bs) : (sw6 O F).sync 1 = sw7 O F := rfl
theorem sw8_eq (O F : Bs) : (sw7 O F).rename nb na 1 = sw8 O F := rfl
theorem sw9_eq (O F : Bs) : (sw8 O F).syncDir = sw9 O F := rfl
theorem sw5_used (O : Bs) : (sw5 O).used = O.length := by show ([O.length, 0] : List Nat).sum = _; simp
theorem cr9 (O F : Bs) (d : Int) : ((sw9 O F).crash d []).files = [(F, F.length)] ∧ ((sw9 O F).crash d []).dir = [(na, 0)] := by
  have e : crashDir (sw9 O F) d = [(na, 1)] := by
    unfold crashDir
    rw [show (sw9 O F).chg = [] from rfl]
    simp
    rfl
  unfold St.crash
  rw [e]
  refine ⟨?_, rfl⟩
  show [(F.take F.length, (F.take F.length).length)] = _
  rw [List.take_length]
theorem cr8 (O F : Bs) (d : Int) : (d ≤ 0 → ((sw8 O F).crash d []).files = [(O, O.length)] ∧ ((sw8 O F).crash d []).dir = [(na, 0)]) ∧
    (d = 1 → ((sw8 O F).crash d []).files = [(O, O.length), (F, F.length)] ∧ ((sw8 O F).crash d []).dir = [(na, 0), (nb, 1)]) ∧
    (2 ≤ d → ((sw8 O F).crash d []).files = [(F, F.length)] ∧ ((sw8 O F).crash d []).dir = [(na, 0)]) := by
  have hc : (sw8 O F).chg = [[(nb, 1)], [(nb, -1), (na, 1)]] := rfl
  refine ⟨fun h => ?_, fun h => ?_, fun h => ?_⟩
  · have e : crashDir (sw8 O F) d = [(na, 0)] := by
      unfold crashDir
      rw [hc, show (max 0 (min d (([[(nb, 1)], [(nb, -1), (na, 1)]] : List Chg).length : Int))).toNat = 0 from by simp; omega]
      rfl
    unfold St.crash
    rw [e]
    refine ⟨?_, rfl⟩
    show [(O.take O.length, (O.take O.length).length)] = _
    rw [List.take_length]
  · have e : crashDir (sw8 O F) d = [(na, 0), (nb, 1)] := by
      unfold crashDir
      rw [hc, show (max 0 (min d (([[(nb, 1)], [(nb, -1), (na, 1)]] : List Chg).length : Int))).toNat = 1 from by simp; omega]
      rfl
    unfold St.crash
    rw [e]
    refine ⟨?_, rfl⟩
    show [(O.take O.length, (O.take O.length).length), (F.take F.length, (F.take F.length).length)] = _
    rw [List.take_length, List.take_length]
  · have e : crashDir (sw8 O F) d = [(na, 1)] := by
      unfold crashDir
      rw [hc, show (max 0 (min d (([[(nb, 1)], [(nb, -1), (na, 1)]] : List Chg).length : Int))).toNat = 2 from by simp; omega]
      rfl
    unfold St.crash
    rw [e]
    refine ⟨?_, rfl⟩
    show [(F.take F.length, (F.take F.length).length)] = _
    rw [List.take_length]
/-! ### rows of other cells beside the file system -/
theorem Fs.keepOther {w w' : World} {N b : Nat} {s : St} {row : Option Nat} {T : TypeId} (h : Fs w N b s) (hg : w.grownBy w' row) (hrow : ∀ k, row = some k → ∃ a f, w.heap[k]? = some (Obj.cells a T f)) (hT : T ∉ flT ++ csT ++ [52]) : Fs w' N b s := by
  obtain ⟨X, h⟩ := h
  have hs : Same (Of (flT ++ csT ++ [52])) w w' := Same.of_row hg fun k hk o ho => by
    obtain ⟨a, f, hf⟩ := hrow k hk
    rw [hf] at ho
    injection ho with ho
    subst ho
    exact not_of hT
  have maps : ∀ d : Nat, (∃ es c, w.heap[d]? = some (Obj.map es c)) → w'.heap[d]? = w.heap[d]? := by
    rintro d ⟨es, c, hd⟩
    refine hg.block _ (lt_of_block hd) fun e => ?_
    obtain ⟨a, f, hf⟩ := hrow d e.symm
    rw [hd] at hf
    cases hf
  refine ⟨X, h.keepRow (hs.less fun o ⟨a, t, f, e, ht⟩ => ⟨a, t, f, e, List.mem_append_left _ ht⟩) (maps _ h.dir.block) (maps _ h.sure.block) hg.size rfl rfl rfl rfl (hs _ _ h.blk ⟨_, _, _, rfl, by simp⟩) h.wf⟩
set_option maxHeartbeats 400000 in
/-- As syncdir_ok; other cells stay. -/
theorem syncdir_keep {w : World} {N b : Nat} {s : St} (h : Fs w N b s) (hs : s.steps ≤ 1000000000) (h0 : s.left ≠ 0) :
    Calls Try.prog 15 #[ptr b] w fun e w' => e = .returned (.int .i64 0) ∧ Fs w' N b s.syncDir ∧ Below N w w' ∧ Same (Of [26]) w w' := by
  obtain ⟨X, h⟩ := h
  have H := hide (And.intro h (And.intro h0 hs))
  clear h h0 hs
  unfold ptr
  go_enter Try.func15, Try.ntmps15
  go_wp2_with fail
  refine (step_alive H.out.1 H.out.2.1 H.out.2.2).mono ?_
  rintro e' w1 ⟨rfl, h1, hg1, hz1⟩
  have c5 := h1.c5
  have s1 : Same (Of [26]) w w1 := Same.of_grown hg1 H.out.1.blk (not_of (by decide))
  have H1 := hide (And.intro h1 (And.intro (below_grown hg1 H.out.1.lo.1 H.out.1.lt) s1))
  clear h1 hg1 hz1 s1
  go_wp2_with fail
  refine (mapclone_any H1.out.1.dir).mono ?_
  rintro e' w2 ⟨rfl, hd2, hb2, hz2⟩
  have h3 := H1.out.1.syncedDir hd2 hb2 hz2
  have f6 := frozen_of_row w2 b 6 _ _ h3.1
  have f7 := frozen_of_row w2 b 7 _ _ h3.1
  have c6 := cell_of_row w2 b 6 _ _ _ h3.1
  have c7 := cell_of_row w2 b 7 _ _ _ h3.1
  simp only [fsCells] at c6 c7
  have s3 : Same (Of [26]) w2 ((w2.setCell ⟨b, 6, none⟩ (.map (some w1.heap.size))).setCell ⟨b, 7, none⟩ (.slice none 0 0)) := Same.of_grown (grown_setCell (grown_setCell (World.grownBy.refl _ _))) h3.1 (not_of (by decide))
  have H3 := hide (And.intro h3.2.1 (And.intro (H1.out.2.1.trans h3.2.2) ((H1.out.2.2.trans (Same.of_below hb2)).trans s3)))
  clear hd2 hb2 hz2 h3 s3
  go_wp2_with fail
  go_ret
  exact ⟨rfl, ⟨_, H3.out.1⟩, H3.out.2⟩
theorem zeros_row {w : World} {n : Nat} {T : TypeId} (N : Nat) (hN : N ≤ w.heap.size) (hn : n ≤ maxLen) : (w.alloc (.cells (List.replicate n (Value.int .i64 0)).toArray T)).ownsRow N T 1 (.slice (some ⟨w.heap.size, 0, none⟩) n n) n (List.replicate n (Value.int .i64 0)) :=
  ⟨by simp, .inr ⟨w.heap.size, n, _, rfl, hN, heap_alloc_new _ _, Nat.le_refl _, hn, by simp, by simp⟩⟩
theorem Try.infoErr : (Try.prog.info? 26).map (fun i => (i.zero, i.size, i.bytes)) = some (some (.int .i64 0), 1, 8) := by kernel_rfl
theorem own_cells {w : World} {N k n : Nat} {v : Value} {T : TypeId} {xs : List Value} (h : w.ownsRow N T k v n xs) : ∀ g, v.ownBlock = some g → ∃ a f, w.heap[g]? = some (Obj.cells a T f) := by
  intro g hg
  rcases h.2 with ⟨rfl, _⟩ | ⟨g', cap, cur, rfl, _, hgg, _⟩
  · cases hg
  · have : g' = g := by simpa [Value.ownBlock] using hg
    subst this
    exact ⟨_, _, hgg⟩
theorem okc8 (O F : Bs) : ∀ c ∈ (sw8 O F).chg, Okc c := by
  show ∀ c ∈ ([[(nb, 1)], [(nb, -1), (na, 1)]] : List Chg), Okc c
  unfold Okc
  decide
theorem okc9 (O F : Bs) : ∀ c ∈ (sw9 O F).chg, Okc c := by
  intro c hc
  cases hc
end Go.Proofs.Ytlnmjkilefnjpaa
