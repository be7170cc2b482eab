/-
  The walk of taking bytes in.
-/
import Derived.Test.YtmeilpehlkpofaaBlock
import Derived.Deep.LoopGhost
namespace Go.Proofs.Ytmeilpehlkpofaa
open Go.RowKit
open sha

/-- The own bytes behind the first 64. -/
theorem OwnB.drop64 {w : World} {base n c g o : Nat} {l : List UInt8} (h : OwnB w base (.slice (some ⟨g, o, none⟩) n c) n l) (hn : 64 ≤ n) (o' : Nat) (ho : o' = o + 64 ∨ (c = 64 ∧ o' = o)) :
    OwnB w base (.slice (some ⟨g, o', none⟩) (n - 64) (c - 64)) (n - 64) (l.drop 64) := by
  refine ⟨by rw [List.length_drop, h.1], .inr ?_⟩
  rcases h.2 with ⟨hv, h0⟩ | ⟨g1, o1, cap, cur, hv, hb, hg, hnc, hcm, hsz, ht⟩
  · omega
  · cases hv
    refine ⟨g, o', c - 64, cur, rfl, hb, hg, by omega, by unfold maxLen at *; omega, by omega, ?_⟩
    rw [← u8s_drop, ← ht]
    rcases ho with rfl | ⟨hc, rfl⟩
    · rw [List.drop_take, List.drop_drop]
    · have : n = 64 := by omega
      subst this
      simp
theorem OwnB.addr {w : World} {base n c : Nat} {A : Option Addr} {l : List UInt8} (h : OwnB w base (.slice A n c) n l) (hn : 0 < n) : ∃ g o, A = some ⟨g, o, none⟩ := by
  rcases h.2 with ⟨hv, h0⟩ | ⟨g1, o1, cap, cur, hv, _⟩
  · omega
  · cases hv; exact ⟨g1, o1, rfl⟩
theorem lt_of_block {w : World} {S : Nat} {o : Obj} (h : w.heap[S]? = some o) : S < w.heap.size := (Array.getElem?_eq_some_iff.1 h).1
theorem OwnB.setCell {w : World} {base n S j : Nat} {v u : Value} {l : List UInt8} {cs : Array Value} {T : TypeId} {fr : Nat × Nat} (h : OwnB w base v n l) (hS : w.heap[S]? = some (.cells cs T fr)) (hT : T ≠ 5) :
    OwnB (w.setCell ⟨S, j, none⟩ u) base v n l :=
  h.kept (grown_setCell (World.grownBy.refl w _)) (.inr (h.other hS hT))
theorem below_grown {w w' : World} {base S : Nat} (h : w.grownBy w' (some S)) (hb : base ≤ S) (hS : S < w.heap.size) : Below base w w' :=
  (Below.refl base w).grown h (by omega) (fun q hq => by injection hq with hq; omega)
theorem stz_not8 {h k : List W32} {A : Option Addr} {n c N i : Nat} {z : Int} (e : (stz h k (.slice A n c) N)[i]? = some (.int .u8 z)) : False := by
  simp only [stz, List.getElem?_toArray] at e
  have hm := List.mem_of_getElem? e
  simp [u32s] at hm
/-- A store into the state changes no bytes. -/
theorem Rb.setState {w : World} {B S j N n m c : Nat} {h : List W32} {A C : Option Addr} {x : List UInt8} {u : Value} (hx : Rb w B C m x) (hS : w.heap[S]? = some (.cells (stz h K (.slice A n c) N) 58 (0, 0))) :
    Rb (w.setCell ⟨S, j, none⟩ u) B C m x := by
  refine ⟨Rd.len hx, fun i v hv => ?_⟩
  obtain ⟨b, o, e, hb, hc⟩ := Rd.cell hx i v hv
  refine ⟨b, o, e, hb, ?_⟩
  rw [World.cell?_setCell_other]
  · exact hc
  · intro e2
    obtain ⟨hj, rfl⟩ := u8s_get x hv
    have : b = S := by injection e2 with e3; exact e3.symm
    subst this
    rw [cell_of_row _ _ _ _ _ _ hS] at hc
    exact stz_not8 hc
theorem state_after {w w' : World} {S N : Nat} {h : V8} {v u : Value} (hS : w.heap[S]? = some (.cells (stz h.l K v N) 58 (0, 0))) (hne : u.ownBlock ≠ some S) (hg : w.grownBy w' u.ownBlock) :
    w'.cell? ⟨S, 72, none⟩ = some v ∧ w'.frozen? ⟨S, 72, none⟩ = false ∧ w'.heap[S]? = some (.cells (stz h.l K v N) 58 (0, 0)) := by
  have h2 : w'.heap[S]? = some (.cells (stz h.l K v N) 58 (0, 0)) := by rw [hg.block S (lt_of_block hS) (fun e => hne e.symm), hS]
  exact ⟨by rw [cell_of_row _ _ _ _ _ _ h2, stz_v (V8.l_length h) K_length], frozen_of_row _ _ _ _ _ h2, h2⟩
/-- Blocks of other types, but the state's, are as they were. -/
def Others (w w' : World) (S : Nat) : Prop := ∀ k cs T fr, w.heap[k]? = some (.cells cs T fr) → T ≠ 5 → k ≠ S → w'.heap[k]? = some (.cells cs T fr)
theorem Others.refl (w : World) (S : Nat) : Others w w S := fun _ _ _ _ h _ _ => h
theorem Others.trans {w w1 w2 : World} {S : Nat} (h : Others w w1 S) (h2 : Others w1 w2 S) : Others w w2 S := fun k cs T fr hk hT hS => h2 k cs T fr (h k cs T fr hk hT hS) hT hS
theorem Others.of_grown {w w' : World} {S : Nat} (hg : w.grownBy w' (some S)) : Others w w' S := fun k cs T fr hk _ hS => by rw [hg.block k (lt_of_block hk) (by intro e; injection e with e; exact hS e), hk]
theorem Others.of_new {w w' : World} {S : Nat} (hg : w.grownBy w' none) : Others w w' S := Others.of_grown (grown_row_any hg)
theorem Others.of_append {w w' : World} {S base n : Nat} {v : Value} {l : List UInt8} (hown : OwnB w base v n l) (hg : w.grownBy w' v.ownBlock) : Others w w' S := fun k cs T fr hk hT _ => by
  rw [hg.block k (lt_of_block hk) (fun e => hown.other hk hT e.symm), hk]
theorem Others.set (w : World) (S j : Nat) (u : Value) : Others w (w.setCell ⟨S, j, none⟩ u) S := Others.of_grown (grown_setCell (World.grownBy.refl _ _))
/-- The state at S: the words h, the bytes l left over, N bytes in all. -/
def Holds (w : World) (S base N : Nat) (h : V8) (l : List UInt8) : Prop :=
  ∃ A n c, w.heap[S]? = some (.cells (stz h.l K (.slice A n c) N) 58 (0, 0)) ∧ OwnB w base (.slice A n c) n l
set_option maxRecDepth 100000 in
set_option maxHeartbeats 1600000 in
theorem take_any {w : World} {S base B N n m c : Nat} (d : Nat) {h : V8} {A C : Option Addr} {l x : List UInt8}
    (hS : w.heap[S]? = some (.cells (stz h.l K (.slice A n c) N) 58 (0, 0))) (hown : OwnB w base (.slice A n c) n l) (hx : Rb w B C m x) (hbS : base ≤ S) (hN : N + m ≤ 1000000000) (hm : n + m ≤ 1000000000) :
    Calls Try.prog 20 #[.pointer (some ⟨S, 0, none⟩), .slice C m d] w fun e w' => e = .returned (.tuple #[]) ∧ Holds w' S base (N + m) (eat h (l ++ x)) (rest (l ++ x)) ∧ Below base w w' ∧ Others w w' S := by
  have hSl := lt_of_block hS
  have hSl := lt_of_block hS
  have c73 : w.cell? ⟨S, 73, none⟩ = some (.int .u64 (N : Int)) := by rw [cell_of_row _ _ _ _ _ _ hS, stz_n (V8.l_length h) K_length]
  have c72 : w.cell? ⟨S, 72, none⟩ = some (.slice A n c) := by rw [cell_of_row _ _ _ _ _ _ hS, stz_v (V8.l_length h) K_length]
  have f73 : w.frozen? ⟨S, 73, none⟩ = false := frozen_of_row _ _ _ _ _ hS
  have f72 : w.frozen? ⟨S, 72, none⟩ = false := frozen_of_row _ _ _ _ _ hS
  have i1 : IntKind.u64.wrap (m : Int) = (m : Int) := by rw [IntKind.wrap_u64]; omega
  have i2 : IntKind.u64.wrap ((N : Int) + (m : Int)) = (N : Int) + (m : Int) := by rw [IntKind.wrap_u64]; omega
  have hS1 : (w.setCell ⟨S, 73, none⟩ (.int .u64 ((N : Int) + (m : Int)))).heap[S]? = some (.cells (stz h.l K (.slice A n c) (N + m)) 58 (0, 0)) := by
    rw [heap_setCell_same _ _ _ _ _ _ hS, show ((N : Int) + (m : Int)) = ((N + m : Nat) : Int) from by omega, stz_setN (V8.l_length h) K_length]
  have hg1 : w.grownBy (w.setCell ⟨S, 73, none⟩ (.int .u64 ((N : Int) + (m : Int)))) (some S) := grown_setCell (World.grownBy.refl _ _)
  have hown1 : OwnB (w.setCell ⟨S, 73, none⟩ (.int .u64 ((N : Int) + (m : Int)))) base (.slice A n c) n l := hown.setCell hS (by decide)
  have hx1 : Rb (w.setCell ⟨S, 73, none⟩ (.int .u64 ((N : Int) + (m : Int)))) B C m x := hx.setState hS
  have hs1 : base ≤ (w.setCell ⟨S, 73, none⟩ (.int .u64 ((N : Int) + (m : Int)))).heap.size := by rw [World.size_setCell]; omega
  have hother := hown.other hS (by decide)
  have hb1 := below_grown hg1 hbS hSl
  have HN := hide hN
  have HM := hide hm
  have HB := hide hbS
  have H1 := hide (And.intro hown1 (And.intro hx1 (And.intro hs1 (And.intro hS1 (And.intro hother hb1)))))
  clear hS hown hbS hSl hS1 hg1 hown1 hx hx1 hs1 hother hb1 hN hm
  go_enter Try.func20, Try.ntmps20
  go_wp2_with ((with_reducible show wpList _ _ _ ({ dst := _, op := .call { callee := .builtin .append, args := #[_, _], argTypes := #[22, 22] }, type := _, pos := _, after := _, guard := _ } :: _) _ _); refine wpList_append_b rfl rfl H1.out.1 H1.out.2.1 HM.out H1.out.2.2.1 ?_; intro A2 c2 w2 hown2 hg2; have ST2 := state_after H1.out.2.2.2.1 (H1.out.1.other H1.out.2.2.2.1 (by decide)) hg2; have c72 := ST2.1; have f72 := ST2.2.1; have H2 := hide (And.intro hown2 (And.intro hg2 ST2.2.2)); clear ST2 hown2 hg2)
  have hS2 : (w2.setCell ⟨S, 72, none⟩ (.slice A2 (n + m) c2)).heap[S]? = some (.cells (stz h.l K (.slice A2 (n + m) c2) (N + m)) 58 (0, 0)) := by
    rw [heap_setCell_same _ _ _ _ _ _ H2.out.2.2, stz_setV (V8.l_length h) K_length]
  have ho2 : OwnB (w2.setCell ⟨S, 72, none⟩ (.slice A2 (n + m) c2)) base (.slice A2 (n + m) c2) (n + m) (l ++ x) := H2.out.1.setCell H2.out.2.2 (by decide)
  have hb2 : Below base w (w2.setCell ⟨S, 72, none⟩ (.slice A2 (n + m) c2)) :=
    (H1.out.2.2.2.2.2.grown H2.out.2.1 H1.out.2.2.1 (fun q hq => (H1.out.1.lt q hq).1)).setCell HB.out _
  have hot : Others w (w2.setCell ⟨S, 72, none⟩ (.slice A2 (n + m) c2)) S := ((Others.set w S 73 _).trans (Others.of_append H1.out.1 H2.out.2.1)).trans (Others.set w2 S 72 _)
  have H3 := hide (And.intro hS2 (And.intro ho2 (And.intro hb2 hot)))
  clear hS2 ho2 hb2 hot c72 f72 H1 H2
  go_loopg [] (n + m) (fun g wr => ∃ (A' : Option Addr) (c' : Nat) (l' : List UInt8) (h' : V8), wr.heap[S]? = some (.cells (stz h'.l K (.slice A' g c') (N + m)) 58 (0, 0)) ∧ OwnB wr base (.slice A' g c') g l' ∧ eat h' l' = eat h (l ++ x) ∧ rest l' = rest (l ++ x) ∧ Below base w wr ∧ Others w wr S)
  case atStart => exact ⟨A2, c2, l ++ x, h, H3.out.1, H3.out.2.1, rfl, rfl, H3.out.2.2.1, H3.out.2.2.2⟩
  case round =>
    obtain ⟨A', c', l', h', hS, hown, he, hr, hb, hot⟩ := hrel
    have c72 : wr.cell? ⟨S, 72, none⟩ = some (.slice A' gk c') := by rw [cell_of_row _ _ _ _ _ _ hS, stz_v (V8.l_length h') K_length]
    by_cases hlt : (64 : Int) ≤ (gk : Int)
    · obtain ⟨g, o, rfl⟩ := hown.addr (by omega)
      have hcap := hown.cap
      have hcap1 : (gk : Int) ≤ (c' : Int) := by omega
      have hcap2 : (64 : Int) ≤ (c' : Int) := by omega
      have hb64 := hown.rb.take (m := 64) (by omega)
      have HR := hide (And.intro hS (And.intro hown (And.intro he (And.intro hr (And.intro hb (And.intro hb64 (And.intro hcap hot)))))))
      clear hS hown he hr hb hb64 hcap hot
      go_wp2_with fail
      refine (block_any _ HR.out.1 HR.out.2.2.2.2.2.1 (Nat.le_refl _) (by omega)).mono ?_
      rintro e w4 ⟨rfl, hS4, hg4⟩
      have c72 : w4.cell? ⟨S, 72, none⟩ = some (.slice (some ⟨g, o, none⟩) gk c') := by rw [cell_of_row _ _ _ _ _ _ hS4, stz_v (V8.l_length _) K_length]
      have f72 : w4.frozen? ⟨S, 72, none⟩ = false := frozen_of_row _ _ _ _ _ hS4
      have ho4 := HR.out.2.1.kept hg4 (.inr (HR.out.2.1.other HR.out.1 (by decide)))
      have hb4 := HR.out.2.2.2.2.1.trans (below_grown hg4 HB.out (lt_of_block HR.out.1))
      have hot4 := HR.out.2.2.2.2.2.2.2.trans (Others.of_grown hg4)
      have H4 := hide (And.intro hS4 (And.intro ho4 (And.intro hb4 hot4)))
      clear hS4 hg4 ho4 hb4 hot4
      go_wp2_with fail
      · have hc : c' = 64 := by assumption
        subst hc
        go_roundg (gk - 64)
        case measure => omega
        case rel =>
          refine ⟨_, 0, l'.drop 64, eatB h' (l'.take 64), ?_, (H4.out.2.1.drop64 (by omega) o (.inr ⟨rfl, rfl⟩)).setCell H4.out.1 (by decide), ?_, ?_, H4.out.2.2.1.setCell HB.out _, H4.out.2.2.2.trans (Others.set _ S 72 _)⟩
          · rw [heap_setCell_same _ _ _ _ _ _ H4.out.1, stz_setV (V8.l_length _) K_length]
          · rw [← HR.out.2.2.1, eat_block h' l' (by rw [HR.out.2.1.1]; omega)]
          · rw [← HR.out.2.2.2.1, rest_block l' (by rw [HR.out.2.1.1]; omega)]
      · go_roundg (gk - 64)
        case measure => omega
        case rel =>
          refine ⟨_, c' - 64, l'.drop 64, eatB h' (l'.take 64), ?_, (H4.out.2.1.drop64 (by omega) (o + 64) (.inl rfl)).setCell H4.out.1 (by decide), ?_, ?_, H4.out.2.2.1.setCell HB.out _, H4.out.2.2.2.trans (Others.set _ S 72 _)⟩
          · rw [heap_setCell_same _ _ _ _ _ _ H4.out.1, stz_setV (V8.l_length _) K_length]
          · rw [← HR.out.2.2.1, eat_block h' l' (by rw [HR.out.2.1.1]; omega)]
          · rw [← HR.out.2.2.2.1, rest_block l' (by rw [HR.out.2.1.1]; omega)]
    · have HR := hide (And.intro hS (And.intro hown (And.intro he (And.intro hr (And.intro hb hot)))))
      clear hS hown he hr hb hot
      go_wp2_with fail
      have hl := HR.out.2.1.1
      refine bodyPost_end (v := .tuple #[]) (by simp [results, Try.results20, go_sem]) rfl ⟨rfl, ⟨A', gk, c', ?_, ?_⟩, HR.out.2.2.2.2.1, HR.out.2.2.2.2.2⟩
      · rw [HR.out.1, ← HR.out.2.2.1, eat_short h' l' (by omega)]
      · rw [← HR.out.2.2.2.1, rest_short l' (by omega)]
        exact HR.out.2.1
theorem Holds.grown {w w' : World} {S base N : Nat} {h : V8} {l : List UInt8} (hH : Holds w S base N h l) (hg : w.grownBy w' none) : Holds w' S base N h l := by
  obtain ⟨A, n, c, hS, hown⟩ := hH
  refine ⟨A, n, c, by rw [hg.block S (lt_of_block hS) (by simp), hS], hown.kept hg ?_⟩
  cases hv : (Value.slice A n c).ownBlock with
  | none => exact .inl rfl
  | some k => exact .inr (by simp)
theorem Holds.lt {w : World} {S base N : Nat} {h : V8} {l : List UInt8} (hH : Holds w S base N h l) : S < w.heap.size := by
  obtain ⟨A, n, c, hS, hown⟩ := hH
  exact lt_of_block hS
theorem Holds.cN {w : World} {S base N : Nat} {h : V8} {l : List UInt8} (hH : Holds w S base N h l) : w.cell? ⟨S, 73, none⟩ = some (.int .u64 (N : Int)) := by
  obtain ⟨A, n, c, hS, hown⟩ := hH
  rw [cell_of_row _ _ _ _ _ _ hS, stz_n (V8.l_length h) K_length]
theorem Holds.cL {w : World} {S base N : Nat} {h : V8} {l : List UInt8} (hH : Holds w S base N h l) : ∃ A c, w.cell? ⟨S, 72, none⟩ = some (.slice A l.length c) ∧ w.frozen? ⟨S, 72, none⟩ = false ∧ w.heap[S]? = some (.cells (stz h.l K (.slice A l.length c) N) 58 (0, 0)) ∧ OwnB w base (.slice A l.length c) l.length l := by
  obtain ⟨A, n, c, hS, hown⟩ := hH
  obtain rfl := hown.1
  exact ⟨A, c, by rw [cell_of_row _ _ _ _ _ _ hS, stz_v (V8.l_length h) K_length], frozen_of_row _ _ _ _ _ hS, hS, hown⟩
theorem take_h {w : World} {S base B N m : Nat} (d : Nat) {h : V8} {C : Option Addr} {l x : List UInt8}
    (hH : Holds w S base N h l) (hx : Rb w B C m x) (hbS : base ≤ S) (hN : N + m ≤ 1000000000) (hm : l.length + m ≤ 1000000000) :
    Calls Try.prog 20 #[.pointer (some ⟨S, 0, none⟩), .slice C m d] w fun e w' => e = .returned (.tuple #[]) ∧
      Holds w' S base (N + m) (eat h (l ++ x)) (rest (l ++ x)) ∧ Below base w w' ∧ Others w w' S := by
  obtain ⟨A, n, c, hS, hown⟩ := hH
  exact take_any d hS hown hx hbS hN (by rw [← hown.1]; exact hm)
end Go.Proofs.Ytmeilpehlkpofaa
