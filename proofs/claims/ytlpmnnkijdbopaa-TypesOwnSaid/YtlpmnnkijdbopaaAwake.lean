/-
  The document's example: awake returns true.
-/
import Derived.Test.YtlpmnnkijdbopaaTexts
import Derived.Test.YtlpmnnkijdbopaaPlaw
namespace Go.Proofs.Ytlpmnnkijdbopaa
open Go.RowKit Go.Maps

def exL : List Td :=
  [{ kind := 2, name := [65], impls := [[73]], fields := [], members := [], inputs := [], pos := 0 },
   { kind := 2, name := [66], impls := [[73]], fields := [], members := [], inputs := [], pos := 0 },
   { kind := 3, name := [73], impls := [], fields := [], members := [], inputs := [], pos := 0 },
   { kind := 4, name := [85], impls := [], fields := [], members := [[65]], inputs := [], pos := 0 }]
theorem exL_few : FewL 1 exL := by
  have fi : FewI 1 [] := ⟨by decide, fun d hd => by simp at hd⟩
  refine ⟨by decide, fun t ht => ?_⟩
  simp only [exL, List.mem_cons, List.not_mem_nil, or_false] at ht
  rcases ht with rfl | rfl | rfl | rfl <;> exact ⟨by decide, ⟨by decide, by decide⟩, ⟨by decide, by decide⟩, ⟨by decide, fun f hf => by simp at hf⟩, fi⟩
theorem exT : mkT exL = exL := rfl
theorem raw1 : raw (mkT exL) [73] = [[65], [66]] := by decide
theorem raw2 : raw (mkT exL) [85] = [[65]] := by decide
theorem ex1 : poss (mkT exL) [73] = [[65], [66]] := rise_eq (poss_rise _ _) (by decide) fun x => by rw [poss_mem, raw1]
theorem ex1b : poss (mkT exL) [85] = [[65]] := rise_eq (poss_rise _ _) (by decide) fun x => by rw [poss_mem, raw2]
theorem ex2 : over (mkT exL) [73] [85] = true := by unfold over; rw [ex1, ex1b]; decide
theorem ex3 : fits (mkT exL) [91, 65, 33, 93, 33] [91, 73, 93] = true := by decide
theorem ex4 : fits (mkT exL) [91, 73, 93] [91, 73, 33, 93] = false := by decide
theorem row_lit (w : World) (l : List Bs) {g : Nat} (hg : w.heap.size = g) : Row (w.alloc (.cells (l.map tx).toArray 9)) g (some ⟨g, 0, none⟩) l := by
  subst hg
  exact .inr ⟨_, _, rfl, Nat.le_refl _, heap_alloc_new w _, by simp; exact List.take_of_length_le (by simp)⟩
theorem one_rs {w : World} {g : Nat} {s : Bs} {S : Nat → Prop} (h : w.heap[g]? = some (.cells #[tx s] 9 (0, 0))) (hS : S g) : Sl w S 1 (some ⟨g, 0, none⟩) RS [s] := by
  have hr : Row w g (some ⟨g, 0, none⟩) [s] := .inr ⟨g, _, rfl, Nat.le_refl _, h, rfl⟩
  intro j x hx
  obtain ⟨b, o, cs, e, hb, hl, hr, hR⟩ := hr.sl (S := fun b => b = b) (fun _ _ _ => rfl) j x hx
  exact ⟨b, o, cs, e, by injection e with e; injection e with e; rw [← e]; exact hS, hl, hr, hR⟩
def exC (g0 g1 g2 : Nat) : Array Value := #[.int .i64 2, .string ⟨#[65]⟩, .slice (some ⟨g0, 0, none⟩) 1 1, .slice none 0 0, .slice none 0 0, .slice none 0 0, .int .i64 0, .int .i64 2, .string ⟨#[66]⟩, .slice (some ⟨g1, 0, none⟩) 1 1, .slice none 0 0, .slice none 0 0, .slice none 0 0, .int .i64 0, .int .i64 3, .string ⟨#[73]⟩, .slice none 0 0, .slice none 0 0, .slice none 0 0, .slice none 0 0, .int .i64 0, .int .i64 4, .string ⟨#[85]⟩, .slice none 0 0, .slice none 0 0, .slice (some ⟨g2, 0, none⟩) 1 1, .slice none 0 0, .int .i64 0]
theorem ex_sl {w : World} {g0 g1 g2 g3 : Nat} {S : Nat → Prop} (h0 : w.heap[g0]? = some (.cells #[tx [73]] 9 (0, 0))) (h1 : w.heap[g1]? = some (.cells #[tx [73]] 9 (0, 0))) (h2 : w.heap[g2]? = some (.cells #[tx [65]] 9 (0, 0)))
    (h3 : w.heap[g3]? = some (.cells (exC g0 g1 g2) 35 (0, 0))) (s0 : S g0) (s1 : S g1) (s2 : S g2) (s3 : S g3) : Sl w S 7 (some ⟨g3, 0, none⟩) (RT w S 1) exL := by
  intro j x hx
  match j with
  | 0 =>
    injection hx with hx
    subst hx
    exact ⟨g3, 0, [.int .i64 2, .string ⟨#[65]⟩, .slice (some ⟨g0, 0, none⟩) 1 1, .slice none 0 0, .slice none 0 0, .slice none 0 0, .int .i64 0], rfl, s3, rfl, World.rangeAt_of_block h3 0 7, some ⟨g0, 0, none⟩, 1, none, 0, none, 0, none, 0, rfl, one_rs h0 s0, Sl.nil' _ _ _ _ _, Sl.nil' _ _ _ _ _, Sl.nil' _ _ _ _ _⟩
  | 1 =>
    injection hx with hx
    subst hx
    exact ⟨g3, 0, [.int .i64 2, .string ⟨#[66]⟩, .slice (some ⟨g1, 0, none⟩) 1 1, .slice none 0 0, .slice none 0 0, .slice none 0 0, .int .i64 0], rfl, s3, rfl, World.rangeAt_of_block h3 7 7, some ⟨g1, 0, none⟩, 1, none, 0, none, 0, none, 0, rfl, one_rs h1 s1, Sl.nil' _ _ _ _ _, Sl.nil' _ _ _ _ _, Sl.nil' _ _ _ _ _⟩
  | 2 =>
    injection hx with hx
    subst hx
    exact ⟨g3, 0, [.int .i64 3, .string ⟨#[73]⟩, .slice none 0 0, .slice none 0 0, .slice none 0 0, .slice none 0 0, .int .i64 0], rfl, s3, rfl, World.rangeAt_of_block h3 14 7, none, 0, none, 0, none, 0, none, 0, rfl, Sl.nil' _ _ _ _ _, Sl.nil' _ _ _ _ _, Sl.nil' _ _ _ _ _, Sl.nil' _ _ _ _ _⟩
  | 3 =>
    injection hx with hx
    subst hx
    exact ⟨g3, 0, [.int .i64 4, .string ⟨#[85]⟩, .slice none 0 0, .slice none 0 0, .slice (some ⟨g2, 0, none⟩) 1 1, .slice none 0 0, .int .i64 0], rfl, s3, rfl, World.rangeAt_of_block h3 21 7, none, 0, none, 0, some ⟨g2, 0, none⟩, 1, none, 0, rfl, Sl.nil' _ _ _ _ _, Sl.nil' _ _ _ _ _, one_rs h2 s2, Sl.nil' _ _ _ _ _⟩
  | j + 4 => cases hx
set_option maxRecDepth 20000 in
set_option maxHeartbeats 3200000 in
theorem awake_any (w : World) : Calls Try.prog 6 #[] w fun e w' => e = .returned (.bool true) ∧ Below w.heap.size w w' := by
  go_enter Try.func6, Try.ntmps6
  go_wp2_with fail
  obtain ⟨wm, hwm⟩ : ∃ wm, wm = ((((w.alloc (.cells #[.string ⟨#[73]⟩] 9)).alloc (.cells #[.string ⟨#[73]⟩] 9)).alloc (.cells #[.string ⟨#[65]⟩] 9)).alloc (.cells #[.int .i64 2, .string ⟨#[65]⟩, .slice (some ⟨w.heap.size, 0, none⟩) 1 1, .slice none 0 0, .slice none 0 0, .slice none 0 0, .int .i64 0, .int .i64 2, .string ⟨#[66]⟩, .slice (some ⟨w.heap.size + 1, 0, none⟩) 1 1, .slice none 0 0, .slice none 0 0, .slice none 0 0, .int .i64 0, .int .i64 3, .string ⟨#[73]⟩, .slice none 0 0, .slice none 0 0, .slice none 0 0, .slice none 0 0, .int .i64 0, .int .i64 4, .string ⟨#[85]⟩, .slice none 0 0, .slice none 0 0, .slice (some ⟨w.heap.size + 1 + 1, 0, none⟩) 1 1, .slice none 0 0, .int .i64 0] 35)) := ⟨_, rfl⟩
  rw [← hwm]
  have hbm : Below w.heap.size w wm := by rw [hwm]; exact ((((Below.refl _ w).alloc (Nat.le_refl _) _).alloc (by simp) _).alloc (by simp; omega) _).alloc (by simp; omega) _
  have hsz : wm.heap.size = w.heap.size + 4 := by rw [hwm]; simp
  have k0 : wm.heap[w.heap.size]? = some (.cells #[tx [73]] 9 (0, 0)) := by
    rw [hwm, heap_alloc_old _ _ (by simp; omega), heap_alloc_old _ _ (by simp; omega), heap_alloc_old _ _ (by simp)]
    exact heap_alloc_new w _
  have k1 : wm.heap[w.heap.size + 1]? = some (.cells #[tx [73]] 9 (0, 0)) := by
    rw [hwm, heap_alloc_old _ _ (by simp), heap_alloc_old _ _ (by simp)]
    have := heap_alloc_new (w.alloc (.cells #[.string ⟨#[73]⟩] 9)) (.cells #[.string ⟨#[73]⟩] 9)
    rw [World.size_alloc] at this
    exact this
  have k2 : wm.heap[w.heap.size + 1 + 1]? = some (.cells #[tx [65]] 9 (0, 0)) := by
    rw [hwm, heap_alloc_old _ _ (by simp)]
    have := heap_alloc_new ((w.alloc (.cells #[.string ⟨#[73]⟩] 9)).alloc (.cells #[.string ⟨#[73]⟩] 9)) (.cells #[.string ⟨#[65]⟩] 9)
    rw [World.size_alloc, World.size_alloc] at this
    exact this
  have k3 : wm.heap[w.heap.size + 1 + 1 + 1]? = some (.cells (exC w.heap.size (w.heap.size + 1) (w.heap.size + 1 + 1)) 35 (0, 0)) := by
    rw [hwm]
    have := heap_alloc_new (((w.alloc (.cells #[.string ⟨#[73]⟩] 9)).alloc (.cells #[.string ⟨#[73]⟩] 9)).alloc (.cells #[.string ⟨#[65]⟩] 9)) (.cells #[.int .i64 2, .string ⟨#[65]⟩, .slice (some ⟨w.heap.size, 0, none⟩) 1 1, .slice none 0 0, .slice none 0 0, .slice none 0 0, .int .i64 0, .int .i64 2, .string ⟨#[66]⟩, .slice (some ⟨w.heap.size + 1, 0, none⟩) 1 1, .slice none 0 0, .slice none 0 0, .slice none 0 0, .int .i64 0, .int .i64 3, .string ⟨#[73]⟩, .slice none 0 0, .slice none 0 0, .slice none 0 0, .slice none 0 0, .int .i64 0, .int .i64 4, .string ⟨#[85]⟩, .slice none 0 0, .slice none 0 0, .slice (some ⟨w.heap.size + 1 + 1, 0, none⟩) 1 1, .slice none 0 0, .int .i64 0] 35)
    rw [World.size_alloc, World.size_alloc, World.size_alloc] at this
    exact this
  have hsl := ex_sl (S := fun b => b < wm.heap.size) k0 k1 k2 k3 (by omega) (by omega) (by omega) (by omega)
  have HM := hide (And.intro hsl (And.intro hbm hsz))
  clear hwm hbm hsz k0 k1 k2 k3 hsl
  refine (new_any (l := exL) 4 HM.out.1 (fun _ h => h) exL_few).mono ?_
  rintro e w1 ⟨X, rfl, hT, hb1⟩
  have H1 := hide (And.intro hT (HM.out.2.1.trans (hb1.mono HM.out.2.1.size)))
  clear hT hb1
  have P1 := possible_any (k := [73]) H1.out.1 (by decide)
  unfold PossPost at P1
  rw [ex1] at P1
  have PP := hide P1
  clear P1
  go_wp2_with fail
  refine PP.out.mono ?_
  rintro e w2 ⟨A2, rfl, hr2, hb2⟩
  have H2 := hide (And.intro (H1.out.1.below hb2) (And.intro (H1.out.2.trans (hb2.mono H1.out.2.size)) hr2))
  have h12 := hb2.size
  clear hr2 hb2 PP
  go_wp2_with fail
  have hb3 : Below w2.heap.size w2 (w2.alloc (.cells #[.string ⟨#[65]⟩, .string ⟨#[66]⟩] 9)) := (Below.refl _ _).alloc (Nat.le_refl _) _
  have hr3 : Row (w2.alloc (.cells #[.string ⟨#[65]⟩, .string ⟨#[66]⟩] 9)) w2.heap.size (some ⟨w2.heap.size, 0, none⟩) [[65], [66]] := row_lit w2 [[65], [66]] rfl
  obtain ⟨w3, hw3⟩ : ∃ w3, w3 = w2.alloc (.cells #[.string ⟨#[65]⟩, .string ⟨#[66]⟩] 9) := ⟨_, rfl⟩
  rw [← hw3] at hb3 hr3 ⊢
  clear hw3
  have s2 : Sl w3 (fun b => b < w3.heap.size) 1 A2 RS [[65], [66]] := (H2.out.2.2.sl (S := fun b => b < w2.heap.size) (fun _ _ h => h)).map (fun b h => Nat.lt_of_lt_of_le h hb3.size) (fun b h => hb3.block b h) (fun _ _ h => h)
  have s3 : Sl w3 (fun b => b < w3.heap.size) 1 (some ⟨w2.heap.size, 0, none⟩) RS [[65], [66]] := hr3.sl (fun _ _ h => h)
  have H3 := hide (And.intro (H2.out.1.below hb3) (And.intro (H2.out.2.1.trans (hb3.mono H2.out.2.1.size)) (And.intro s2 s3)))
  clear hb3 hr3 s2 s3
  refine (texts_any (l := [[65], [66]]) (m := [[65], [66]]) 2 2 H3.out.2.2.1 H3.out.2.2.2 (fun _ h => h) (fun _ h => h) (by decide) (by decide)).mono ?_
  rintro e w4 ⟨rfl, hb4⟩
  have H4 := hide (And.intro (H3.out.1.below hb4) (H3.out.2.1.trans (hb4.mono H3.out.2.1.size)))
  clear hb4
  have P4 := overlap_any (a := [73]) (b := [85]) H4.out.1 (by decide) (by decide)
  rw [ex2] at P4
  have PP := hide P4
  clear P4
  go_wp2_with fail
  refine PP.out.mono ?_
  rintro e w5 ⟨rfl, hb5⟩
  have H5 := hide (And.intro (H4.out.1.below hb5) (H4.out.2.trans (hb5.mono H4.out.2.size)))
  clear hb5 PP
  have P5 := fit_any (lo := wm.heap.size) 6 [91, 65, 33, 93, 33] [91, 73, 93] w5 H5.out.1 (by decide) (by decide) (by decide)
  rw [show fit (mkT exL) 6 [91, 65, 33, 93, 33] [91, 73, 93] = true from ex3] at P5
  have PP := hide P5
  clear P5
  go_wp2_with fail
  refine PP.out.mono ?_
  rintro e w6 ⟨rfl, hb6⟩
  have H6 := hide (And.intro (H5.out.1.below hb6) (H5.out.2.trans (hb6.mono H5.out.2.size)))
  clear hb6 PP
  have P6 := fit_any (lo := wm.heap.size) 4 [91, 73, 93] [91, 73, 33, 93] w6 H6.out.1 (by decide) (by decide) (by decide)
  rw [show fit (mkT exL) 4 [91, 73, 93] [91, 73, 33, 93] = false from ex4] at P6
  have PP := hide P6
  clear P6
  go_wp2_with fail
  refine PP.out.mono ?_
  rintro e w7 ⟨rfl, hb7⟩
  have H7 := hide (H6.out.2.trans (hb7.mono H6.out.2.size))
  clear hb7 PP
  go_wp2
  go_ret
  exact ⟨rfl, H7.out⟩
end Go.Proofs.Ytlpmnnkijdbopaa
