/-
  The walk of the fixed fact.
-/
import Derived.Test.YtlnmjkilefnjpaaCrash
import Derived.Lib.SlBytesConst
namespace Go.Proofs.Ytlnmjkilefnjpaa
open Go.RowKit Go.Maps

section
variable {P : Program} {ops : Array Oper} {rest : List Oper} {a : Act} {Q : Exit → Act → World → Prop} {w : World} {dst : Option Tmp} {ty : TypeId} {pos : String} {af : Array Edge} {g : Option (Nat × Bool)}
theorem wpList_bytes_string_g {s d e : TypeId} {x : Operand} (hs : P.underlying s = some (.slice e)) (he : P.underlying e = some (.int .u8)) (hd : P.underlying d = some .string)
    (hw : Region.wanted { dst := dst, op := .convert s d x, type := ty, pos := pos, after := af, guard := g } (yielded ops a.tmps) = true)
    {B n c : Nat} {A : Option Addr} {l : List UInt8} (hx : a.eval x = .slice A n c) (hr : Rb w B A n l)
    (h : wpList P ops Q rest (a.put dst (.string ⟨l.toArray⟩)) w) : wpList P ops Q ({ dst := dst, op := .convert s d x, type := ty, pos := pos, after := af, guard := g } :: rest) a w :=
  wpList_step fun _ hK => by
    rw [if_pos hw]
    unfold Oper.wp execOp
    simp only [hx, Sem.run_bind, run_bytes_string hs he hd c hr, Result.andThen_ok, Sem.run_pure]
    exact hK _ _ h
end
theorem Rb.lit (w : World) (l : List UInt8) (e : TypeId) (fr : Nat × Nat) : Rb (w.alloc (.cells (u8s l).toArray e fr)) (w.heap.size + 1) (some ⟨w.heap.size, 0, none⟩) l.length l := by
  refine ⟨by rw [u8s_length, Nat.mul_one], fun j u hu => ⟨w.heap.size, 0, rfl, by omega, ?_⟩⟩
  rw [cell_of_row _ _ _ _ e fr (heap_alloc_new w _), Nat.zero_add]
  simpa using hu
theorem Ri.lit (w : World) (l : List Int) (e : TypeId) (fr : Nat × Nat) : Ri (w.alloc (.cells (l.map (Value.int .i64)).toArray e fr)) (w.heap.size + 1) (some ⟨w.heap.size, 0, none⟩) l.length l := by
  refine ⟨by rw [List.length_map, Nat.mul_one], fun j u hu => ⟨w.heap.size, 0, rfl, by omega, ?_⟩⟩
  rw [cell_of_row _ _ _ _ e fr (heap_alloc_new w _), Nat.zero_add]
  simpa using hu
theorem Ri.nil (w : World) (B : Nat) : Ri w B none 0 [] := Rd.nil' w B 1 none
theorem Fs.lo {w : World} {N b : Nat} {s : St} (h : Fs w N b s) : N ≤ w.heap.size := by
  obtain ⟨X, h⟩ := h
  exact h.hN
theorem list_fs {w : World} {N b : Nat} {s : St} (h : Fs w N b s) (hl : s.dir.length ≤ 1000000) :
    Calls Try.prog 13 #[ptr b] w fun e w' => ∃ A c, e = .returned (.slice A s.dir.length c) ∧ Fs w' N b s ∧ Below w.heap.size w w' := by
  obtain ⟨X, h⟩ := h
  refine (list_any h hl).mono ?_
  rintro e w' ⟨A, c, rfl, _, h2, hb⟩
  exact ⟨A, c, rfl, ⟨X, h2⟩, hb⟩
def aw1 : St := (newS 100).create [97]
def aw2 : St := aw1.append 0 [120, 121, 122]
def aw3 : St := aw2.sync 0
def aw4 : St := aw3.append 0 [117, 118]
set_option maxRecDepth 100000 in
set_option maxHeartbeats 3200000 in
theorem awake_any (w : World) :
    Calls Try.prog 8 #[] w fun e w' => e = .returned (.bool true) ∧ Below w.heap.size w w' := by
  have kc := fun (w : World) (C : Array Value) (n c : Nat) => Lib.run_convert_bytes_const (P := Try.prog) w 29 5 C n c Try.underlying29 Try.underlying5
  go_enter Try.func8, Try.ntmps8
  go_wp2_with fail
  refine (new_any 100 _ (by omega) (by omega)).mono ?_
  rintro e w1 ⟨rfl, h1, hb1⟩
  have H1 := hide (And.intro h1 hb1)
  clear h1 hb1
  unfold ptr
  go_wp2_with fail
  refine (create_ok (k := [97]) H1.out.1 (by decide) (by decide) (by decide) (by decide) (by decide) (by decide) (by decide) (by decide)).mono ?_
  rintro e w2 ⟨rfl, h2, hb2⟩
  have h2 : Fs w2 w.heap.size (w.heap.size + 2) aw1 := h2
  have hx2 : Below w2.heap.size w2 (w2.alloc (.cells (u8s [120, 121, 122]).toArray 5 (3, 4))) := (Below.refl _ _).alloc (Nat.le_refl _) _
  have H2 := hide (And.intro (h2.below hx2) ((H1.out.2.trans hb2).trans (hx2.mono h2.lo)))
  clear h2 hb2 hx2
  go_wp2_with fail
  refine (append_ok (d := 3) (k := [97]) (i := 0) (f := ([], 0)) H2.out.1 (by decide) (by decide) (by decide) (by decide) (by decide) (by decide) (by decide) (by decide) (by decide) (by decide) (by decide) (Rb.lit w2 [120, 121, 122] 5 (3, 4)) (by simp)).mono ?_
  rintro e w3 ⟨rfl, h3, hb3⟩
  have h3 : Fs w3 w.heap.size (w.heap.size + 2) aw2 := h3
  have H3 := hide (And.intro h3 (H2.out.2.trans hb3))
  clear h3 hb3
  go_wp2_with fail
  refine (sync_ok (k := [97]) (i := 0) H3.out.1 (by decide) (by decide) (by decide) (by decide) (by decide)).mono ?_
  rintro e w4 ⟨rfl, h4, hb4⟩
  have h4 : Fs w4 w.heap.size (w.heap.size + 2) aw3 := h4
  have hx4 : Below w4.heap.size w4 (w4.alloc (.cells (u8s [117, 118]).toArray 5 (2, 3))) := (Below.refl _ _).alloc (Nat.le_refl _) _
  have H4 := hide (And.intro (h4.below hx4) ((H3.out.2.trans hb4).trans (hx4.mono h4.lo)))
  clear h4 hb4 hx4
  go_wp2_with fail
  refine (append_ok (d := 2) (k := [97]) (i := 0) (f := ([120, 121, 122], 3)) H4.out.1 (by decide) (by decide) (by decide) (by decide) (by decide) (by decide) (by decide) (by decide) (by decide) (by decide) (by decide) (Rb.lit w4 [117, 118] 5 (2, 3)) (by simp)).mono ?_
  rintro e w5 ⟨rfl, h5, hb5⟩
  have h5 : Fs w5 w.heap.size (w.heap.size + 2) aw4 := h5
  have hx5 : Below w5.heap.size w5 (w5.alloc (.cells ([1].map (Value.int .i64)).toArray 3)) := (Below.refl _ _).alloc (Nat.le_refl _) _
  have H5 := hide (And.intro (h5.below hx5) ((H4.out.2.trans hb5).trans (hx5.mono h5.lo)))
  clear h5 hb5 hx5
  go_wp2_with fail
  refine (crash_any (ts := [1]) (c := 1) H5.out.1 (Ri.lit w5 [1] 3 (0, 0)) (by simp) (by decide) (by decide) (by unfold Okc; decide) (by decide) (by decide) (by decide) (by decide) (by decide) (by decide)).mono ?_
  rintro e w6 ⟨b6, rfl, h6, hb6⟩
  have H6 := hide (And.intro h6 (And.intro (H5.out.1.below hb6) (And.intro (H5.out.2.trans (hb6.mono H5.out.1.lo)) H5.out.1.lo)))
  clear h6 hb6
  unfold ptr
  go_wp2_with fail
  refine (crash_any (ts := []) (c := 0) H6.out.2.1 (Ri.nil w6 w6.heap.size) (Nat.le_refl _) (by decide) (by decide) (by unfold Okc; decide) (by decide) (by decide) (by decide) (by decide) (by decide) (by decide)).mono ?_
  rintro e w7 ⟨b7, rfl, h7, hb7⟩
  have H7 := hide (And.intro h7 (And.intro (H6.out.1.below hb7) (H6.out.2.2.1.trans (hb7.mono H6.out.2.1.lo))))
  clear h7 hb7
  unfold ptr
  go_wp2_with fail
  refine (read_ok (k := [97]) (i := 0) (f := ([120, 121, 122, 117], 4)) H7.out.2.1 (by decide) (by decide) (by decide) (by decide) (by decide)).mono ?_
  rintro e w8 ⟨A8, c8, rfl, hr8, h8, hb8⟩
  have hN7 := H7.out.1.lo
  have hbw8 := H7.out.2.2.trans (hb8.mono H7.out.2.2.size)
  have H8 := hide (And.intro hr8 (And.intro (H7.out.1.below hb8) hbw8))
  clear hr8 h8 hb8 hN7 hbw8
  go_wp2_with ((with_reducible show wpList _ _ _ ({ dst := _, op := .convert 29 9 _, type := _, pos := _, after := _, guard := _ } :: _) _ _); refine wpList_bytes_string_g Try.underlying29 Try.underlying5 Try.underlying9 rfl rfl H8.out.1 ?_)
  refine (list_fs H8.out.2.1 (by decide)).mono ?_
  rintro e w9 ⟨A9, c9, rfl, h9, hb9⟩
  have H9 := hide (H8.out.2.2.trans (hb9.mono H8.out.2.2.size))
  clear h9 hb9
  go_wp2_with fail
  go_ret
  exact ⟨rfl, H9.out⟩
end Go.Proofs.Ytlnmjkilefnjpaa
