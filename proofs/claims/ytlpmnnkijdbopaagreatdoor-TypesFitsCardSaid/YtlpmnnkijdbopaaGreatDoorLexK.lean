/-
  The walks of the reference's states: Now, Fail, Step, Is, Word, Want, Name, Down, Up, End.
-/
import Derived.Test.YtlpmnnkijdbopaaGreatDoorLexJ
namespace Go.Proofs.YtlpmnnkijdbopaaGreatDoor
open Go.RowKit Go.Maps

theorem Tryz.sizeSt : (Tryz.prog.info? 69).map (·.size) = some 5 := by kernel_rfl
abbrev stc (A : Option Addr) (n c : Nat) (i d k p : Int) : Array Value := #[.slice A n c, .int .i64 i, .int .i64 d, .int .i64 k, .int .i64 p]
abbrev stv (A : Option Addr) (n c : Nat) (i d k p : Int) : Value := .agg #[.slice A n c, .int .i64 i, .int .i64 d, .int .i64 k, .int .i64 p]
theorem run_tk0 (a0 a1 a2 : Value) (w : World) : (Instr.field 93 (.agg #[a0, a1, a2]) 0).run Tryz.prog w = .ok a0 w := by kernel_rfl
theorem run_tk1 (a0 a1 a2 : Value) (w : World) : (Instr.field 93 (.agg #[a0, a1, a2]) 1).run Tryz.prog w = .ok a1 w := by kernel_rfl
theorem run_tk2 (a0 a1 a2 : Value) (w : World) : (Instr.field 93 (.agg #[a0, a1, a2]) 2).run Tryz.prog w = .ok a2 w := by kernel_rfl
theorem st_one (A : Option Addr) (n c : Nat) (i d k p : Int) : (stc A n c i d k p).all (·.oneCell') = true := by simp [Value.oneCell']
/-- the tokens lie there -/
structure Env (m : Nat) (w : World) (S : Nat → Prop) (A : Option Addr) (l : List Tk) : Prop where
  sl : Sl w S 3 A RTk l
  lt : ∀ b, S b → b < w.heap.size
  tk : Toks m l
theorem Env.more {m : Nat} {w w' : World} {S : Nat → Prop} {A : Option Addr} {l : List Tk} (h : Env m w S A l) (hb : Below w.heap.size w w') : Env m w' S A l :=
  ⟨h.sl.map (fun _ h => h) (fun b hS => hb.block b (h.lt b hS)) (fun _ _ h => h), fun b hS => Nat.lt_of_lt_of_le (h.lt b hS) hb.size, h.tk⟩
theorem Env.at_ {m : Nat} {w : World} {S : Nat → Prop} {A : Option Addr} {l : List Tk} (h : Env m w S A l) {j : Nat} {t : Tk} (hj : l[j]? = some t) : ∃ b o, A = some ⟨b, o, none⟩ ∧ b < w.heap.size ∧ w.rangeAt b (o + j * 3) t.cs := by
  obtain ⟨b, o, cs, e, hb, _, hr, hR⟩ := h.sl j t hj
  unfold RTk at hR
  subst hR
  exact ⟨b, o, e, h.lt b hb, hr⟩
/-- a state in a block of its own, and the block of the result -/
structure Bx (w wr : World) (cs : Array Value) : Prop where
  box : wr.heap[w.heap.size]? = some (.cells cs 69 (0, 0))
  below : Below w.heap.size w wr
structure Bo (w wr : World) (z : Array Value) (t : TypeId) : Prop where
  out : wr.heap[w.heap.size + 1]? = some (.cells z t (0, 0))
section
variable {w wr w2 : World} {cs z : Array Value} {t : TypeId}
theorem bx_one (w : World) (cs : Array Value) : Bx w (w.alloc (.cells cs 69)) cs := ⟨heap_alloc_new w _, (Below.refl _ _).alloc (Nat.le_refl _) _⟩
theorem bx_two (w : World) (cs z : Array Value) (t : TypeId) : Bx w ((w.alloc (.cells cs 69)).alloc (.cells z t)) cs := by
  refine ⟨by rw [heap_alloc_old _ _ (by simp)]; exact heap_alloc_new w _, ((Below.refl _ _).alloc (Nat.le_refl _) _).alloc (by simp) _⟩
theorem bo_two (w : World) (cs z : Array Value) (t : TypeId) : Bo w ((w.alloc (.cells cs 69)).alloc (.cells z t)) z t := by
  refine ⟨?_⟩
  have h := heap_alloc_new (w.alloc (.cells cs 69)) (.cells z t)
  rwa [World.size_alloc] at h
theorem Bx.more (h : Bx w wr cs) (hb : Below wr.heap.size wr w2) : Bx w w2 cs := ⟨by rw [hb.block _ (lt_of_block h.box)]; exact h.box, h.below.trans (hb.mono h.below.size)⟩
theorem Bo.more (h : Bo w wr z t) (hb : Below wr.heap.size wr w2) : Bo w w2 z t := ⟨by rw [hb.block _ (lt_of_block h.out)]; exact h.out⟩
theorem Bx.f (h : Bx w wr cs) (j : Nat) : wr.frozen? ⟨w.heap.size, j, none⟩ = false := frozen_of_row _ _ _ _ _ h.box
theorem Bx.c (h : Bx w wr cs) (j : Nat) : wr.cell? ⟨w.heap.size, j, none⟩ = cs[j]? := cell_of_row _ _ _ _ _ _ h.box
theorem Bx.set (h : Bx w wr cs) (j : Nat) (v : Value) : Bx w (wr.setCell ⟨w.heap.size, j, none⟩ v) (cs.setIfInBounds j v) :=
  ⟨heap_setCell_same _ _ j _ _ _ h.box, h.below.setCell (Nat.le_refl _) _⟩
theorem Bo.set (h : Bo w wr z t) (j : Nat) (v : Value) : Bo w (wr.setCell ⟨w.heap.size, j, none⟩ v) z t :=
  ⟨by rw [heap_setCell_other _ _ _ _ (by simp)]; exact h.out⟩
theorem Bx.row (h : Bx w wr cs) (cs' : Array Value) : Bx w (wr.setRow w.heap.size cs') cs' := ⟨setRow_heap _ _ _ _ _ _ h.box, below_setRow h.below (Nat.le_refl _) _⟩
theorem Bo.row (h : Bo w wr z t) (cs' : Array Value) : Bo w (wr.setRow w.heap.size cs') z t := ⟨by rw [setRow_other _ _ _ _ (by omega)]; exact h.out⟩
theorem Bx.out (h : Bx w wr cs) (cs' : Array Value) : Bx w (wr.setRow (w.heap.size + 1) cs') cs := ⟨by rw [setRow_other _ _ _ _ (by omega)]; exact h.box, below_setRow h.below (by omega) _⟩
theorem Bo.done (h : Bo w wr z t) (cs' : Array Value) : (wr.setRow (w.heap.size + 1) cs').heap[w.heap.size + 1]? = some (.cells cs' t (0, 0)) := setRow_heap _ _ _ _ _ _ h.out
theorem Bx.range {a b c d e : Value} (h : Bx w wr #[a, b, c, d, e]) : wr.rangeAt w.heap.size 0 [a, b, c, d, e] := fun j u hu => by
  rw [cell_of_row _ _ _ _ _ _ h.box, Nat.zero_add]
  simpa using hu
end
abbrev z5 : Array Value := #[.slice none 0 0, .int .i64 0, .int .i64 0, .int .i64 0, .int .i64 0]
set_option maxHeartbeats 800000 in
theorem now_any {m n c : Nat} {w : World} {S : Nat → Prop} {A : Option Addr} {l : List Tk} (h : Env m w S A l) (hn : l.length = n) {j : Nat} {t : Tk} (hj : l[j]? = some t) (d k p : Int) : Calls Tryz.prog 65 #[stv A n c (j : Int) d k p] w fun e w' => e = .returned (.agg #[.int .i64 t.kind, .string t.text, .int .i64 t.pos]) ∧ Below w.heap.size w w' := by
  have hlt : j < n := by rw [← hn]; exact (List.getElem?_eq_some_iff.1 hj).1
  have i1 : (n : Int) ≤ 1501 := by have := h.tk.cnt; omega
  have q0 := run_tk0
  have q1 := run_tk1
  have q2 := run_tk2
  have H := hide (And.intro h (And.intro hn hj))
  clear h hn hj
  go_enter Tryz.func65, Tryz.ntmps65
  go_upto_region 1 with fail
  obtain ⟨wz, hwz⟩ : ∃ wz, wz = (w.alloc (.cells #[.slice A n c, .int .i64 (j : Int), .int .i64 d, .int .i64 k, .int .i64 p] 69)).alloc (.cells #[.int .i64 0, .string ⟨#[]⟩, .int .i64 0] 93) := ⟨_, rfl⟩
  rw [← hwz]
  have HX := hide (show Bx w wz (stc A n c j d k p) from by rw [hwz]; exact bx_two _ _ _ _)
  have HO := hide (show Bo w wz #[.int .i64 0, .string ⟨#[]⟩, .int .i64 0] 93 from by rw [hwz]; exact bo_two _ _ _ _)
  clear hwz
  have c0 := HX.out.c 0
  have c1 := HX.out.c 1
  obtain ⟨g, o, rfl, hg, hr⟩ := (H.out.1.more HX.out.below).at_ H.out.2.2
  go_wp2_with (first
    | ((with_reducible show wpList _ _ _ ({ dst := _, op := .indexAddr 67 _ _, type := _, pos := _, after := _, guard := _ } :: _) _ _); refine wpList_index Tryz.underlying67 Tryz.sizeTk rfl rfl rfl hlt rfl ?_)
    | ((with_reducible show wpList _ _ _ ({ dst := _, op := .load 93 _, type := _, pos := _, after := _, guard := _ } :: _) _ _); refine wpList_loadE rfl hr Tryz.underlying93 rfl Tryz.sizeTk rfl ?_)
    | ((with_reducible show wpList _ _ _ ({ dst := _, op := .store 93 _ _, type := _, pos := _, after := _, guard := _ } :: _) _ _); refine wpList_store_row rfl 93 _ _ rfl (w.heap.size + 1) #[.int .i64 t.kind, .string t.text, .int .i64 t.pos] rfl rfl 93 _ HO.out.out Tryz.sizeTk rfl (tok_one _ _ _) ?_))
  refine bodyPost_ret (v := .agg #[.int .i64 t.kind, .string t.text, .int .i64 t.pos]) (results_cell_row Tryz.results65 _ _ (w.heap.size + 1) 93 _ (0, 0) _ rfl (HO.out.done _) Tryz.underlying93 rfl Tryz.sizeTk) rfl ⟨rfl, (HX.out.out _).below⟩
def StR (A : Option Addr) (n c : Nat) (w : World) (Q : Int → Int → Int → Prop) (e : Ending) (w' : World) : Prop := ∃ i' d' k' p' : Int, e = .returned (stv A n c i' d' k' p') ∧ Q i' d' k' ∧ Below w.heap.size w w'
def BoR (w : World) (Q : Prop) (e : Ending) (w' : World) : Prop := ∃ q : Bool, e = .returned (.bool q) ∧ (q = true → Q) ∧ Below w.heap.size w w'
theorem step_lt {m n : Nat} {w : World} {S : Nat → Prop} {A : Option Addr} {l : List Tk} (h : Env m w S A l) (hn : l.length = n) {j : Nat} {t : Tk} (hj : l[j]? = some t) (hk : t.kind ≠ 0) : j + 1 < n := by
  have hlt : j < l.length := (List.getElem?_eq_some_iff.1 hj).1
  rcases Nat.lt_or_ge (j + 1) n with h1 | h1
  · exact h1
  · have e : j = l.length - 1 := by omega
    rw [e] at hj
    exact absurd (h.tk.fin t hj) hk
set_option maxRecDepth 20000 in
set_option maxHeartbeats 800000 in
theorem fail_any {m n c : Nat} {w : World} {S : Nat → Prop} {A : Option Addr} {l : List Tk} (h : Env m w S A l) (hn : l.length = n) {j : Nat} {t : Tk} (hj : l[j]? = some t) (d k p : Int) {code : Int} (hc : code ≠ 0) : Calls Tryz.prog 66 #[stv A n c (j : Int) d k p, .int .i64 code] w (StR A n c w fun i' d' k' => i' = j ∧ d' = d ∧ k' ≠ 0) := by
  have hlt : j < n := by rw [← hn]; exact (List.getElem?_eq_some_iff.1 hj).1
  have i1 : (n : Int) ≤ 1501 := by have := h.tk.cnt; omega
  have q0 := run_tk0
  have q1 := run_tk1
  have q2 := run_tk2
  have H := hide (And.intro h (And.intro hn hj))
  clear h hn hj
  have HC := hide hc
  clear hc
  go_enter Tryz.func66, Tryz.ntmps66
  go_upto_region 1 with fail
  obtain ⟨wz, hwz⟩ : ∃ wz, wz = (w.alloc (.cells #[.slice A n c, .int .i64 (j : Int), .int .i64 d, .int .i64 k, .int .i64 p] 69)).alloc (.cells #[.slice none 0 0, .int .i64 0, .int .i64 0, .int .i64 0, .int .i64 0] 69) := ⟨_, rfl⟩
  rw [← hwz]
  have HX := hide (show Bx w wz (stc A n c j d k p) from by rw [hwz]; exact bx_two _ _ _ _)
  have HO := hide (show Bo w wz #[.slice none 0 0, .int .i64 0, .int .i64 0, .int .i64 0, .int .i64 0] 69 from by rw [hwz]; exact bo_two _ _ _ _)
  clear hwz
  have c3 := HX.out.c 3
  have f3 := HX.out.f 3
  by_cases hk : k = 0
  · subst hk
    have H1 := hide (show Bx w (wz.setCell ⟨w.heap.size, 3, none⟩ (.int .i64 code)) (stc A n c j d code p) from HX.out.set 3 _)
    have hr := H1.out.range
    go_wp2_with ((with_reducible show wpList _ _ _ ({ dst := _, op := .load 69 _, type := _, pos := _, after := _, guard := _ } :: _) _ _); refine wpList_loadE rfl hr Tryz.underlying69 rfl Tryz.sizeSt rfl ?_)
    refine (now_any (H.out.1.more H1.out.below) H.out.2.1 H.out.2.2 d code p).mono ?_
    rintro e w2 ⟨rfl, hb2⟩
    have H2 := hide (H1.out.more hb2)
    have O2 := hide ((HO.out.set 3 (.int .i64 code)).more hb2)
    clear hb2 hr c3 f3
    have c4 := H2.out.c 4
    have f4 := H2.out.f 4
    have H3 := hide (show Bx w (w2.setCell ⟨w.heap.size, 4, none⟩ (.int .i64 t.pos)) (stc A n c j d code t.pos) from H2.out.set 4 _)
    have O3 := hide (O2.out.set 4 (.int .i64 t.pos))
    have hr := H3.out.range
    go_wp2_with (first | ((with_reducible show wpList _ _ _ ({ dst := _, op := .load 69 _, type := _, pos := _, after := _, guard := _ } :: _) _ _); refine wpList_loadE rfl hr Tryz.underlying69 rfl Tryz.sizeSt rfl ?_) | ((with_reducible show wpList _ _ _ ({ dst := _, op := .store 69 _ _, type := _, pos := _, after := _, guard := _ } :: _) _ _); refine wpList_store_row rfl 69 _ _ rfl (w.heap.size + 1) (stc A n c (j : Int) d code t.pos) rfl rfl 69 _ O3.out.out Tryz.sizeSt rfl (st_one _ _ _ _ _ _ _) ?_))
    refine bodyPost_ret (v := stv A n c (j : Int) d code t.pos) (results_cell_row Tryz.results66 _ _ (w.heap.size + 1) 69 _ (0, 0) _ rfl (O3.out.done _) Tryz.underlying69 rfl Tryz.sizeSt) rfl ⟨_, _, _, _, rfl, ⟨rfl, rfl, HC.out⟩, (H3.out.out _).below⟩
  · have kb : (k == 0) = false := by simpa using hk
    have hr := HX.out.range
    go_wp2_with (first | ((with_reducible show wpList _ _ _ ({ dst := _, op := .load 69 _, type := _, pos := _, after := _, guard := _ } :: _) _ _); refine wpList_loadE rfl hr Tryz.underlying69 rfl Tryz.sizeSt rfl ?_) | ((with_reducible show wpList _ _ _ ({ dst := _, op := .store 69 _ _, type := _, pos := _, after := _, guard := _ } :: _) _ _); refine wpList_store_row rfl 69 _ _ rfl (w.heap.size + 1) (stc A n c (j : Int) d k p) rfl rfl 69 _ HO.out.out Tryz.sizeSt rfl (st_one _ _ _ _ _ _ _) ?_))
    refine bodyPost_ret (v := stv A n c (j : Int) d k p) (results_cell_row Tryz.results66 _ _ (w.heap.size + 1) 69 _ (0, 0) _ rfl (HO.out.done _) Tryz.underlying69 rfl Tryz.sizeSt) rfl ⟨_, _, _, _, rfl, ⟨rfl, rfl, hk⟩, (HX.out.out _).below⟩
set_option maxRecDepth 20000 in
set_option maxHeartbeats 800000 in
theorem step_any {m n c : Nat} {w : World} {S : Nat → Prop} {A : Option Addr} {l : List Tk} (h : Env m w S A l) (hn : l.length = n) {j : Nat} {t : Tk} (hj : l[j]? = some t) (d k p : Int) : Calls Tryz.prog 63 #[stv A n c (j : Int) d k p] w (StR A n c w fun i' d' k' => d' = d ∧ k' = k ∧ ∃ j' : Nat, i' = j' ∧ j' < n ∧ (k = 0 → t.kind ≠ 0 → j' = j + 1)) := by
  have hlt : j < n := by rw [← hn]; exact (List.getElem?_eq_some_iff.1 hj).1
  have i1 : (n : Int) ≤ 1501 := by have := h.tk.cnt; omega
  have q0 := run_tk0
  have q1 := run_tk1
  have q2 := run_tk2
  have H := hide (And.intro h (And.intro hn hj))
  clear h hn hj
  have HL := hide (step_lt H.out.1 H.out.2.1 H.out.2.2)
  go_enter Tryz.func63, Tryz.ntmps63
  go_upto_region 1 with fail
  obtain ⟨wz, hwz⟩ : ∃ wz, wz = (w.alloc (.cells #[.slice A n c, .int .i64 (j : Int), .int .i64 d, .int .i64 k, .int .i64 p] 69)).alloc (.cells #[.slice none 0 0, .int .i64 0, .int .i64 0, .int .i64 0, .int .i64 0] 69) := ⟨_, rfl⟩
  rw [← hwz]
  have HX := hide (show Bx w wz (stc A n c j d k p) from by rw [hwz]; exact bx_two _ _ _ _)
  have HO := hide (show Bo w wz #[.slice none 0 0, .int .i64 0, .int .i64 0, .int .i64 0, .int .i64 0] 69 from by rw [hwz]; exact bo_two _ _ _ _)
  clear hwz
  have c3 := HX.out.c 3
  have hr := HX.out.range
  by_cases hk : k = 0
  · subst hk
    go_wp2_with ((with_reducible show wpList _ _ _ ({ dst := _, op := .load 69 _, type := _, pos := _, after := _, guard := _ } :: _) _ _); refine wpList_loadE rfl hr Tryz.underlying69 rfl Tryz.sizeSt rfl ?_)
    refine (now_any (H.out.1.more HX.out.below) H.out.2.1 H.out.2.2 d 0 p).mono ?_
    rintro e w2 ⟨rfl, hb2⟩
    have H2 := hide (HX.out.more hb2)
    have O2 := hide (HO.out.more hb2)
    clear hb2 hr c3
    by_cases hz : t.kind = 0
    · have zb : (t.kind != 0) = false := by simp [hz]
      have HZ := hide hz
      clear hz
      have hr := H2.out.range
      go_wp2_with (first | ((with_reducible show wpList _ _ _ ({ dst := _, op := .load 69 _, type := _, pos := _, after := _, guard := _ } :: _) _ _); refine wpList_loadE rfl hr Tryz.underlying69 rfl Tryz.sizeSt rfl ?_) | ((with_reducible show wpList _ _ _ ({ dst := _, op := .store 69 _ _, type := _, pos := _, after := _, guard := _ } :: _) _ _); refine wpList_store_row rfl 69 _ _ rfl (w.heap.size + 1) (stc A n c (j : Int) d 0 p) rfl rfl 69 _ O2.out.out Tryz.sizeSt rfl (st_one _ _ _ _ _ _ _) ?_))
      refine bodyPost_ret (v := stv A n c (j : Int) d 0 p) (results_cell_row Tryz.results63 _ _ (w.heap.size + 1) 69 _ (0, 0) _ rfl (O2.out.done _) Tryz.underlying69 rfl Tryz.sizeSt) rfl ⟨_, _, _, _, rfl, ⟨rfl, rfl, j, rfl, hlt, by intros; exact absurd HZ.out (by assumption)⟩, (H2.out.out _).below⟩
    · have zb : (t.kind != 0) = true := by simpa using hz
      have HZ := hide (HL.out hz)
      clear hz
      have c1 := H2.out.c 1
      have f1 := H2.out.f 1
      have H3 := hide (show Bx w (w2.setCell ⟨w.heap.size, 1, none⟩ (.int .i64 ((j : Int) + 1))) (stc A n c ((j : Int) + 1) d 0 p) from H2.out.set 1 _)
      have O3 := hide (O2.out.set 1 (.int .i64 ((j : Int) + 1)))
      have hr := H3.out.range
      go_wp2_with (first | ((with_reducible show wpList _ _ _ ({ dst := _, op := .load 69 _, type := _, pos := _, after := _, guard := _ } :: _) _ _); refine wpList_loadE rfl hr Tryz.underlying69 rfl Tryz.sizeSt rfl ?_) | ((with_reducible show wpList _ _ _ ({ dst := _, op := .store 69 _ _, type := _, pos := _, after := _, guard := _ } :: _) _ _); refine wpList_store_row rfl 69 _ _ rfl (w.heap.size + 1) (stc A n c ((j : Int) + 1) d 0 p) rfl rfl 69 _ O3.out.out Tryz.sizeSt rfl (st_one _ _ _ _ _ _ _) ?_))
      refine bodyPost_ret (v := stv A n c ((j : Int) + 1) d 0 p) (results_cell_row Tryz.results63 _ _ (w.heap.size + 1) 69 _ (0, 0) _ rfl (O3.out.done _) Tryz.underlying69 rfl Tryz.sizeSt) rfl ⟨_, _, _, _, rfl, ⟨rfl, rfl, j + 1, rfl, HZ.out, by intros; rfl⟩, (H3.out.out _).below⟩
  · have kb : (k == 0) = false := by simpa using hk
    go_wp2_with (first | ((with_reducible show wpList _ _ _ ({ dst := _, op := .load 69 _, type := _, pos := _, after := _, guard := _ } :: _) _ _); refine wpList_loadE rfl hr Tryz.underlying69 rfl Tryz.sizeSt rfl ?_) | ((with_reducible show wpList _ _ _ ({ dst := _, op := .store 69 _ _, type := _, pos := _, after := _, guard := _ } :: _) _ _); refine wpList_store_row rfl 69 _ _ rfl (w.heap.size + 1) (stc A n c (j : Int) d k p) rfl rfl 69 _ HO.out.out Tryz.sizeSt rfl (st_one _ _ _ _ _ _ _) ?_))
    refine bodyPost_ret (v := stv A n c (j : Int) d k p) (results_cell_row Tryz.results63 _ _ (w.heap.size + 1) 69 _ (0, 0) _ rfl (HO.out.done _) Tryz.underlying69 rfl Tryz.sizeSt) rfl ⟨_, _, _, _, rfl, ⟨rfl, rfl, j, rfl, hlt, fun h => absurd h hk⟩, (HX.out.out _).below⟩
set_option maxRecDepth 20000 in
set_option maxHeartbeats 800000 in
theorem is_any2 {m n c : Nat} {w : World} {S : Nat → Prop} {A : Option Addr} {l : List Tk} (h : Env m w S A l) (hn : l.length = n) {j : Nat} {t : Tk} (hj : l[j]? = some t) (d k p : Int) (sign : ByteArray) : Calls Tryz.prog 59 #[stv A n c (j : Int) d k p, .string sign] w (BoR w (k = 0 ∧ t.kind = 5)) := by
  have hlt : j < n := by rw [← hn]; exact (List.getElem?_eq_some_iff.1 hj).1
  have i1 : (n : Int) ≤ 1501 := by have := h.tk.cnt; omega
  have q0 := run_tk0
  have q1 := run_tk1
  have q2 := run_tk2
  have H := hide (And.intro h (And.intro hn hj))
  clear h hn hj
  go_enter Tryz.func59, Tryz.ntmps59
  go_upto_region 1 with fail
  obtain ⟨wz, hwz⟩ : ∃ wz, wz = w.alloc (.cells #[.slice A n c, .int .i64 (j : Int), .int .i64 d, .int .i64 k, .int .i64 p] 69) := ⟨_, rfl⟩
  rw [← hwz]
  have HX := hide (show Bx w wz (stc A n c j d k p) from by rw [hwz]; exact bx_one _ _)
  clear hwz
  have c3 := HX.out.c 3
  have hr := HX.out.range
  by_cases hk : k = 0
  · subst hk
    go_wp2_with ((with_reducible show wpList _ _ _ ({ dst := _, op := .load 69 _, type := _, pos := _, after := _, guard := _ } :: _) _ _); refine wpList_loadE rfl hr Tryz.underlying69 rfl Tryz.sizeSt rfl ?_)
    refine (now_any (H.out.1.more HX.out.below) H.out.2.1 H.out.2.2 d 0 p).mono ?_
    rintro e w2 ⟨rfl, hb2⟩
    have H2 := hide (HX.out.more hb2)
    clear hb2 hr c3
    by_cases hz : t.kind = 5
    · have zb : (t.kind == 5) = true := by simp [hz]
      have HZ := hide hz
      clear hz
      have hr := H2.out.range
      go_wp2_with ((with_reducible show wpList _ _ _ ({ dst := _, op := .load 69 _, type := _, pos := _, after := _, guard := _ } :: _) _ _); refine wpList_loadE rfl hr Tryz.underlying69 rfl Tryz.sizeSt rfl ?_)
      refine (now_any (H.out.1.more H2.out.below) H.out.2.1 H.out.2.2 d 0 p).mono ?_
      rintro e w3 ⟨rfl, hb3⟩
      have H3 := hide (H2.out.more hb3)
      clear hb3 hr
      go_wp2
      go_ret
      exact ⟨_, rfl, fun _ => ⟨by trivial, HZ.out⟩, H3.out.below⟩
    · have zb : (t.kind == 5) = false := by simpa using hz
      clear hz
      go_wp2
      go_ret
      exact ⟨_, rfl, fun h => absurd h (by decide), H2.out.below⟩
  · have kb : (k == 0) = false := by simpa using hk
    go_wp2_with fail
    go_ret
    exact ⟨_, rfl, fun h => absurd h (by decide), HX.out.below⟩
set_option maxRecDepth 20000 in
set_option maxHeartbeats 800000 in
theorem word_any {m n c : Nat} {w : World} {S : Nat → Prop} {A : Option Addr} {l : List Tk} (h : Env m w S A l) (hn : l.length = n) {j : Nat} {t : Tk} (hj : l[j]? = some t) (d k p : Int) : Calls Tryz.prog 92 #[stv A n c (j : Int) d k p, .string ⟨#[]⟩] w (BoR w (k = 0 ∧ t.kind = 1)) := by
  have hlt : j < n := by rw [← hn]; exact (List.getElem?_eq_some_iff.1 hj).1
  have i1 : (n : Int) ≤ 1501 := by have := h.tk.cnt; omega
  have q0 := run_tk0
  have q1 := run_tk1
  have q2 := run_tk2
  have H := hide (And.intro h (And.intro hn hj))
  clear h hn hj
  go_enter Tryz.func92, Tryz.ntmps92
  go_upto_region 1 with fail
  obtain ⟨wz, hwz⟩ : ∃ wz, wz = w.alloc (.cells #[.slice A n c, .int .i64 (j : Int), .int .i64 d, .int .i64 k, .int .i64 p] 69) := ⟨_, rfl⟩
  rw [← hwz]
  have HX := hide (show Bx w wz (stc A n c j d k p) from by rw [hwz]; exact bx_one _ _)
  clear hwz
  have c3 := HX.out.c 3
  have hr := HX.out.range
  by_cases hk : k = 0
  · subst hk
    go_wp2_with ((with_reducible show wpList _ _ _ ({ dst := _, op := .load 69 _, type := _, pos := _, after := _, guard := _ } :: _) _ _); refine wpList_loadE rfl hr Tryz.underlying69 rfl Tryz.sizeSt rfl ?_)
    refine (now_any (H.out.1.more HX.out.below) H.out.2.1 H.out.2.2 d 0 p).mono ?_
    rintro e w2 ⟨rfl, hb2⟩
    have H2 := hide (HX.out.more hb2)
    clear hb2 hr c3
    by_cases hz : t.kind = 1
    · have zb : (t.kind == 1) = true := by simp [hz]
      have HZ := hide hz
      clear hz
      go_wp2
      go_ret
      exact ⟨_, rfl, fun _ => ⟨by trivial, HZ.out⟩, H2.out.below⟩
    · have zb : (t.kind == 1) = false := by simpa using hz
      clear hz
      go_wp2
      go_ret
      exact ⟨_, rfl, fun h => absurd h (by decide), H2.out.below⟩
  · have kb : (k == 0) = false := by simpa using hk
    go_wp2_with fail
    go_ret
    exact ⟨_, rfl, fun h => absurd h (by decide), HX.out.below⟩
set_option maxRecDepth 20000 in
set_option maxHeartbeats 800000 in
theorem want_any {m n c : Nat} {w : World} {S : Nat → Prop} {A : Option Addr} {l : List Tk} (h : Env m w S A l) (hn : l.length = n) {j : Nat} {t : Tk} (hj : l[j]? = some t) (d k p : Int) (sign : ByteArray) : Calls Tryz.prog 91 #[stv A n c (j : Int) d k p, .string sign] w (StR A n c w fun i' d' k' => d' = d ∧ ∃ j' : Nat, i' = j' ∧ j' < n ∧ (k' = 0 → k = 0 ∧ j' = j + 1)) := by
  have hlt : j < n := by rw [← hn]; exact (List.getElem?_eq_some_iff.1 hj).1
  have i1 : (n : Int) ≤ 1501 := by have := h.tk.cnt; omega
  have q0 := run_tk0
  have q1 := run_tk1
  have q2 := run_tk2
  have H := hide (And.intro h (And.intro hn hj))
  clear h hn hj
  go_enter Tryz.func91, Tryz.ntmps91
  go_upto_region 1 with fail
  obtain ⟨wz, hwz⟩ : ∃ wz, wz = (w.alloc (.cells #[.slice A n c, .int .i64 (j : Int), .int .i64 d, .int .i64 k, .int .i64 p] 69)).alloc (.cells #[.slice none 0 0, .int .i64 0, .int .i64 0, .int .i64 0, .int .i64 0] 69) := ⟨_, rfl⟩
  rw [← hwz]
  have HX := hide (show Bx w wz (stc A n c j d k p) from by rw [hwz]; exact bx_two _ _ _ _)
  have HO := hide (show Bo w wz #[.slice none 0 0, .int .i64 0, .int .i64 0, .int .i64 0, .int .i64 0] 69 from by rw [hwz]; exact bo_two _ _ _ _)
  clear hwz
  have hr := HX.out.range
  go_wp2_with ((with_reducible show wpList _ _ _ ({ dst := _, op := .load 69 _, type := _, pos := _, after := _, guard := _ } :: _) _ _); refine wpList_loadE rfl hr Tryz.underlying69 rfl Tryz.sizeSt rfl ?_)
  refine (is_any2 (H.out.1.more HX.out.below) H.out.2.1 H.out.2.2 d k p sign).mono ?_
  rintro e w2 ⟨q, rfl, hq, hb2⟩
  have H2 := hide (HX.out.more hb2)
  have O2 := hide (HO.out.more hb2)
  clear hb2 hr
  have hr := H2.out.range
  cases q with
  | true =>
    have HQ := hide (hq (by trivial))
    clear hq
    go_wp2_with ((with_reducible show wpList _ _ _ ({ dst := _, op := .load 69 _, type := _, pos := _, after := _, guard := _ } :: _) _ _); refine wpList_loadE rfl hr Tryz.underlying69 rfl Tryz.sizeSt rfl ?_)
    refine (step_any (H.out.1.more H2.out.below) H.out.2.1 H.out.2.2 d k p).mono ?_
    rintro e w3 ⟨i', d', k', p', rfl, ⟨rfl, rfl, j', rfl, hj', hs⟩, hb3⟩
    have H3 := hide (H2.out.more hb3)
    have O3 := hide (O2.out.more hb3)
    have HS := hide (hs HQ.out.1 (by rw [HQ.out.2]; decide))
    clear hb3 hr hs
    go_wp2_with ((with_reducible show wpList _ _ _ ({ dst := _, op := .store 69 _ _, type := _, pos := _, after := _, guard := _ } :: _) _ _); refine wpList_store_row rfl 69 _ _ rfl (w.heap.size + 1) (stc A n c (j' : Int) d' k' p') rfl rfl 69 _ O3.out.out Tryz.sizeSt rfl (st_one _ _ _ _ _ _ _) ?_)
    refine bodyPost_ret (v := stv A n c (j' : Int) d' k' p') (results_cell_row Tryz.results91 _ _ (w.heap.size + 1) 69 _ (0, 0) _ rfl (O3.out.done _) Tryz.underlying69 rfl Tryz.sizeSt) rfl ⟨_, _, _, _, rfl, ⟨rfl, j', rfl, hj', fun h => ⟨h, HS.out⟩⟩, (H3.out.out _).below⟩
  | false =>
    clear hq
    go_wp2_with ((with_reducible show wpList _ _ _ ({ dst := _, op := .load 69 _, type := _, pos := _, after := _, guard := _ } :: _) _ _); refine wpList_loadE rfl hr Tryz.underlying69 rfl Tryz.sizeSt rfl ?_)
    refine (fail_any (H.out.1.more H2.out.below) H.out.2.1 H.out.2.2 d k p (code := 41) (by decide)).mono ?_
    rintro e w3 ⟨i', d', k', p', rfl, ⟨rfl, rfl, hk'⟩, hb3⟩
    have H3 := hide (H2.out.more hb3)
    have O3 := hide (O2.out.more hb3)
    have HS := hide hk'
    clear hb3 hr hk'
    go_wp2_with ((with_reducible show wpList _ _ _ ({ dst := _, op := .store 69 _ _, type := _, pos := _, after := _, guard := _ } :: _) _ _); refine wpList_store_row rfl 69 _ _ rfl (w.heap.size + 1) (stc A n c (j : Int) d' k' p') rfl rfl 69 _ O3.out.out Tryz.sizeSt rfl (st_one _ _ _ _ _ _ _) ?_)
    refine bodyPost_ret (v := stv A n c (j : Int) d' k' p') (results_cell_row Tryz.results91 _ _ (w.heap.size + 1) 69 _ (0, 0) _ rfl (O3.out.done _) Tryz.underlying69 rfl Tryz.sizeSt) rfl ⟨_, _, _, _, rfl, ⟨rfl, j, rfl, hlt, fun h => absurd h HS.out⟩, (H3.out.out _).below⟩
end Go.Proofs.YtlpmnnkijdbopaaGreatDoor
