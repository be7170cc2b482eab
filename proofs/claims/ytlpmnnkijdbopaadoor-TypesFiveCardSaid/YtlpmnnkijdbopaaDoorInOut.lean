/-
  The walks of the program's Base (strings.Trim), Input, Output.
-/
import Derived.Test.YtlpmnnkijdbopaaDoorWf
import Derived.Test.YtlpmnnkijdbopaaDoorTrm
import Derived.Shelf.Strings.SlTrimAscii
namespace Go.Proofs.YtlpmnnkijdbopaaDoor
open Go.RowKit Go.Maps

/-- signs, a name, signs -/
theorem wf_parts {b : Bool} {s : Bs} (h : Wf b s) : ∃ p g q, s = p ++ (g ++ q) ∧ (∀ c ∈ p, sgn c = true) ∧ good g ∧ (∀ c ∈ q, sgn c = true) := by
  induction h with
  | name h => exact ⟨[], _, [], by simp, by simp, h, by simp⟩
  | list h ih =>
    obtain ⟨p, g, q, rfl, hp, hg, hq⟩ := ih
    refine ⟨91 :: p, g, q ++ [93], by simp, ?_, hg, ?_⟩
    · intro c hc
      rcases List.mem_cons.1 hc with rfl | hc
      · rfl
      · exact hp c hc
    · intro c hc
      rcases List.mem_append.1 hc with hc | hc
      · exact hq c hc
      · rw [List.mem_singleton.1 hc]; rfl
  | bang h ih =>
    obtain ⟨p, g, q, rfl, hp, hg, hq⟩ := ih
    refine ⟨p, g, q ++ [33], by simp, hp, hg, ?_⟩
    intro c hc
    rcases List.mem_append.1 hc with hc | hc
    · exact hq c hc
    · rw [List.mem_singleton.1 hc]; rfl
theorem good_sgn {g : Bs} (h : good g) : ∀ c ∈ g, sgn c = false := by
  intro c hc
  obtain ⟨h1, h2, h3⟩ := h.2 c hc
  unfold sgn
  have n1 : c ≠ 33 := fun e => h1 (by rw [e]; rfl)
  have n2 : c ≠ 91 := fun e => h2 (by rw [e]; rfl)
  have n3 : c ≠ 93 := fun e => h3 (by rw [e]; rfl)
  simp [n1, n2, n3]
theorem base_parts {p g q : Bs} (hp : ∀ c ∈ p, sgn c = true) (hg : good g) (hq : ∀ c ∈ q, sgn c = true) : base (p ++ (g ++ q)) = g := by
  unfold base
  rw [List.filter_append, List.filter_append]
  have e1 : p.filter (fun c => !sgn c) = [] := List.filter_eq_nil_iff.2 fun c hc => by simp [hp c hc]
  have e2 : q.filter (fun c => !sgn c) = [] := List.filter_eq_nil_iff.2 fun c hc => by simp [hq c hc]
  have e3 : g.filter (fun c => !sgn c) = g := List.filter_eq_self.2 fun c hc => by simp [good_sgn hg c hc]
  rw [e1, e2, e3]
  simp
theorem cut_sgn (c : UInt8) : ([91, 93, 33] : Bs).contains c = sgn c := by
  unfold sgn
  simp only [List.contains, List.elem]
  cases h1 : (c == 91) <;> cases h2 : (c == 93) <;> cases h3 : (c == 33) <;> rfl
theorem dropWhile_head {g r : Bs} (hne : g ≠ []) (hg : ∀ c ∈ g, sgn c = false) : (g ++ r).dropWhile sgn = g ++ r := by
  cases g with
  | nil => exact absurd rfl hne
  | cons x t => rw [List.cons_append, List.dropWhile_cons_of_neg (by simp [hg x (by simp)])]
theorem dropWhile_signs {p r : Bs} (hp : ∀ c ∈ p, sgn c = true) : (p ++ r).dropWhile sgn = r.dropWhile sgn := by
  induction p with
  | nil => rfl
  | cons x t ih =>
    rw [List.cons_append, List.dropWhile_cons_of_pos (by simpa using hp x (by simp))]
    exact ih fun c hc => hp c (by simp [hc])
theorem trim_parts {p g q : Bs} (hp : ∀ c ∈ p, sgn c = true) (hg : good g) (hq : ∀ c ∈ q, sgn c = true) : Lib.trimS (p ++ (g ++ q)) [91, 93, 33] = g := by
  have hf : (fun c : UInt8 => ([91, 93, 33] : Bs).contains c) = sgn := funext cut_sgn
  unfold Lib.trimS Lib.trimLeftS Lib.trimRightS
  rw [hf]
  have e1 : (p ++ (g ++ q)).reverse = q.reverse ++ (g.reverse ++ p.reverse) := by simp
  rw [e1, dropWhile_signs (fun c hc => hq c (by simpa using hc)), dropWhile_head (by simpa using hg.1) (fun c hc => good_sgn hg c (by simpa using hc))]
  simp only [List.reverse_append, List.reverse_reverse]
  rw [dropWhile_signs hp]
  have := dropWhile_head (r := []) hg.1 (good_sgn hg)
  simpa using this
theorem trim_base {a : Bs} (h : WfT a) : Lib.trimS a [91, 93, 33] = base a := by
  obtain ⟨_, h⟩ := h
  obtain ⟨p, g, q, rfl, hp, hg, hq⟩ := wf_parts h
  rw [trim_parts hp hg hq, base_parts hp hg hq]
theorem vbase_any {a : Bs} (w : World) (h : WfT a) (hl : a.length ≤ 1000) : Calls Tryd.prog 26 #[tx a] w fun e w' => e = .returned (tx (base a)) ∧ Below w.heap.size w w' := by
  have hcon := Any.strings_Trim_laid Tryd.lays160 (by kernel_rfl) ⟨a.toArray⟩ ⟨#[91, 93, 33]⟩ w (by show a.toArray.size ≤ _; simp; omega) (by decide) (ascii_of_all (by decide))
  change Calls Tryd.prog 42 _ _ (fun e w' => e = .returned (.string ⟨(Lib.trimS a [91, 93, 33]).toArray⟩) ∧ Below w.heap.size w w') at hcon
  rw [trim_base h] at hcon
  have HC := hide hcon
  clear hcon h hl
  go_enter Tryd.func26, Tryd.ntmps26
  go_wp2_with fail
  refine HC.out.mono ?_
  rintro e w1 ⟨rfl, hb⟩
  have HB := hide hb
  clear hb
  go_wp2
  go_ret
  exact ⟨rfl, HB.out⟩
theorem base_len (a : Bs) : (base a).length ≤ a.length := List.length_filter_le _ _
set_option maxHeartbeats 800000 in
theorem input_any {n lo hi p : Nat} {w : World} {T : Ts} {X : TL} {a : Bs} (h : TysX n w lo hi p T X) (ha : WfT a) (hl : a.length ≤ 1000) :
    Calls Tryd.prog 12 #[.pointer (some ⟨p, 0, none⟩), tx a] w fun e w' => e = .returned (.bool (isK T (base a) [1, 5, 6])) ∧ Below w.heap.size w w' := by
  have H := hide (And.intro h (And.intro ha hl))
  clear h ha hl
  go_enter Tryd.func12, Tryd.ntmps12
  go_wp2_with fail
  refine (vbase_any w H.out.2.1 H.out.2.2).mono ?_
  rintro e w1 ⟨rfl, hb1⟩
  have H1 := hide (And.intro (H.out.1.below hb1) hb1)
  clear hb1
  go_wp2_with fail
  refine (is_any (ks := [1, 5, 6]) 3 (tys_alloc H1.out.1 _) (by have := base_len a; have := H.out.2.2; unfold maxLen; omega) (rn_new w1 [1, 5, 6] 3) (by decide)).mono ?_
  rintro e w2 ⟨rfl, rfl⟩
  go_wp2
  go_ret
  exact ⟨rfl, H1.out.2.alloc H1.out.2.size _⟩
set_option maxHeartbeats 800000 in
theorem output_any {n lo hi p : Nat} {w : World} {T : Ts} {X : TL} {a : Bs} (h : TysX n w lo hi p T X) (ha : WfT a) (hl : a.length ≤ 1000) :
    Calls Tryd.prog 13 #[.pointer (some ⟨p, 0, none⟩), tx a] w fun e w' => e = .returned (.bool (isK T (base a) [1, 5, 2, 3, 4])) ∧ Below w.heap.size w w' := by
  have H := hide (And.intro h (And.intro ha hl))
  clear h ha hl
  go_enter Tryd.func13, Tryd.ntmps13
  go_wp2_with fail
  refine (vbase_any w H.out.2.1 H.out.2.2).mono ?_
  rintro e w1 ⟨rfl, hb1⟩
  have H1 := hide (And.intro (H.out.1.below hb1) hb1)
  clear hb1
  go_wp2_with fail
  refine (is_any (ks := [1, 5, 2, 3, 4]) 5 (tys_alloc H1.out.1 _) (by have := base_len a; have := H.out.2.2; unfold maxLen; omega) (rn_new w1 [1, 5, 2, 3, 4] 3) (by decide)).mono ?_
  rintro e w2 ⟨rfl, rfl⟩
  go_wp2
  go_ret
  exact ⟨rfl, H1.out.2.alloc H1.out.2.size _⟩
end Go.Proofs.YtlpmnnkijdbopaaDoor
