/-
  The walks of Used and List.
-/
import Derived.Test.YtlnmjkilefnjpaaClone
namespace Go.Proofs.Ytlnmjkilefnjpaa
open Go.RowKit Go.Maps

theorem wpList_next_dir {ops : Array Oper} {rest : List Oper} {a : Act} {Q : Exit → Act → World → Prop} {w : World} {dst : Option Tmp} {ty : TypeId} {pos : String} {af : Array Edge} {it : Operand} {b r n cnt : Nat} {l : Dir} {left : Lit → Bool}
    (hit : a.eval it = .pointer (some ⟨r, 0, none⟩)) (h : w.ranges (H := Unit) Try.prog 9 (plainElem Try.prog 3) b r n (dirD l) left cnt)
    (hDone : (∀ kl, left kl = false) → wpList Try.prog ops Q rest (a.put dst (.tuple #[.bool false])) w)
    (hMore : ∀ (x : Bs) (i : Nat) (w' : World) (cnt' : Nat), dget l x = some i → left (.string x) = true → w'.ranges (H := Unit) Try.prog 9 (plainElem Try.prog 3) b r n (dirD l) (fun z => left z && !z.sameKey (.string x)) cnt' → cnt' < cnt →
      w.grownBy w' (some r) → w'.heap.size = w.heap.size → (Instr.entry (.pointer (some ⟨r, 0, none⟩))).run Try.prog w' = .ok (.tuple #[tx x, .int .i64 (i : Int)]) w' → wpList Try.prog ops Q rest (a.put dst (.tuple #[.bool true, tx x, .int .i64 (i : Int)])) w') :
    wpList Try.prog ops Q ({ dst := dst, op := .next it false, type := ty, pos := pos, after := af, guard := none } :: rest) a w :=
  wpList_next_ranges w rfl it rfl 9 law (plainElem Try.prog 3) tx (Value.int .i64)
    (fun key kl hk => by obtain ⟨x, hx, _, _⟩ := Maps.keyOf_str Try.underlying9 hk; exact ⟨x, hx⟩)
    (fun v y hv => by obtain ⟨c, rfl, _⟩ := plainElem_int_inv Try.underlying3 hv; exact ⟨c, rfl⟩) b r n (dirD l) left cnt hit h (fun _ hl => hDone hl)
    fun x c kl y w' cnt' hk hlk hv hat hr hlt hg hsz hen => by
      obtain ⟨x', hx', rfl, _⟩ := Maps.keyOf_str Try.underlying9 hk
      have hxx : x = x' := encStr_inj hx'
      subst hxx
      obtain ⟨c', hc, rfl, _⟩ := plainElem_int_inv Try.underlying3 hv
      injection hc with _ hc
      subst hc
      have hh := Maps.has_true_of_atKey hat
      rw [dirD_has] at hh
      obtain ⟨i, hi⟩ := Option.isSome_iff_exists.1 hh
      have h2 := hat (.lit (.int .i64 0))
      rw [dirD_at, hi] at h2
      injection h2 with h2
      injection h2 with _ h2
      have h2 : (i : Int) = c := h2
      subst h2
      exact hMore x i w' cnt' hi hlk hr hlt hg hsz hen

/-- What is still to be counted. -/
def restSum (files : List (Bs × Nat)) (l : Dir) (left : Lit → Bool) : Nat := usedL files (l.filter fun p => left (.string p.1))
theorem restSum_start (files : List (Bs × Nat)) {l : Dir} (hs : Srt l) : restSum files l (Maps.has (dirD l)) = usedL files l := by
  unfold restSum
  rw [List.filter_eq_self.2]
  intro p hp
  obtain ⟨k, i⟩ := p
  rw [dirD_has, dget_of_mem hs hp]
  rfl
theorem restSum_end (files : List (Bs × Nat)) {l : Dir} {left : Lit → Bool} (h : ∀ kl, left kl = false) : restSum files l left = 0 := by
  unfold restSum
  rw [List.filter_eq_nil_iff.2 (fun p _ => by simp [h])]
  rfl
theorem restSum_step (files : List (Bs × Nat)) {x : Bs} {i : Nat} {left : Lit → Bool} (hl : left (.string x) = true) : ∀ {l : Dir}, Srt l → dget l x = some i →
    restSum files l left = ((files[i]?).getD ([], 0)).1.length + restSum files l (fun z => left z && !z.sameKey (.string x)) := by
  intro l
  have hsk : ∀ q : Bs × Nat, (Lit.string q.1).sameKey (.string x) = (q.1 == x) := fun _ => rfl
  have hcons : ∀ (q : Bs × Nat) (r : Dir) (lf : Lit → Bool), restSum files (q :: r) lf = (if lf (.string q.1) = true then ((files[q.2]?).getD ([], 0)).1.length else 0) + restSum files r lf := by
    intro q r lf
    unfold restSum usedL
    rw [List.filter_cons]
    split <;> simp
  induction l with
  | nil => intro _ h; cases h
  | cons y r ih =>
    intro hs hd
    obtain ⟨h1, h2⟩ := List.pairwise_cons.1 hs
    have hn := (List.pairwise_cons.1 (srt_ne hs)).1
    rw [hcons, hcons, hsk]
    by_cases hy : y.1 = x
    · have hdi : i = y.2 := by
        unfold dget at hd
        rw [List.find?_cons, show (y.1 == x) = true from by simpa using hy] at hd
        simpa using hd.symm
      have hrest : restSum files r left = restSum files r (fun z => left z && !z.sameKey (.string x)) := by
        unfold restSum
        congr 1
        refine List.filter_congr fun q hq => ?_
        have : q.1 ≠ x := by rw [← hy]; exact fun e => hn q hq e.symm
        show left (.string q.1) = (left (.string q.1) && !(q.1 == x))
        rw [show (q.1 == x) = false from by simpa using this]
        simp
      rw [hy, hl, show (x == x) = true from by simp, hdi, ← hrest]
      simp
    · have hdr : dget r x = some i := by
        unfold dget at hd ⊢
        rw [List.find?_cons, show (y.1 == x) = false from by simpa using hy] at hd
        exact hd
      rw [ih h2 hdr, show (y.1 == x) = false from by simpa using hy]
      simp only [Bool.not_false, Bool.and_true]
      omega
theorem FileAt.val {w : World} {N : Nat} {e : Nat × Value} {f : Bs × Nat} (h : FileAt w N e f) : ∃ A c, e.2 = .slice A f.1.length c ∧ f.1.length ≤ c ∧ c ≤ maxLen := by
  rcases h.row.2 with ⟨hv, h0⟩ | ⟨g, cap, cur, hv, _, _, hn, hc, _⟩
  · exact ⟨none, 0, by rw [hv, h0], by omega, by unfold maxLen; omega⟩
  · exact ⟨_, _, hv, hn, hc⟩
set_option maxHeartbeats 1600000 in
theorem used_any {w : World} {N b : Nat} {s : St} {X : Lay} (h : FsX w N b s X) (hu : s.used ≤ 1000000000) :
    Calls Try.prog 12 #[ptr b] w fun e w' => e = .returned (.int .i64 (s.used : Int)) ∧ FsX w' N b s X ∧ Below w.heap.size w w' := by
  have c5 := h.c5
  have H := hide (And.intro h (And.intro h.dir hu))
  have hsrt := hide h.dir.srt
  clear h hu
  unfold ptr
  go_enter Try.func12, Try.ntmps12
  go_wp2_with (at_range; refine wpList_range_own _ rfl _ 49 rfl 9 3 law Try.underlying49 (plainElem Try.prog 3) _ _ _ rfl H.out.2.1 ?_; intro w2 hr2 hg2 hz2; have H2 := hide (And.intro hr2 (And.intro (below_of_grown hg2) hz2)); clear hr2 hg2 hz2)
  go_frame
  go_loopw [3] (fun n wr => ∃ m : Nat, n = .int .i64 m ∧ Hid (∃ left cnt, wr.ranges (H := Unit) Try.prog 9 (plainElem Try.prog 3) X.db w.heap.size s.dir.length (dirD s.dir) left cnt ∧ m + restSum s.files s.dir left = s.used ∧ Below w.heap.size w wr)) (fun _ wr => wr.rangeLeft X.db w.heap.size)
  case atStart => exact ⟨0, rfl, hide ⟨_, _, H2.out.1, by rw [restSum_start _ hsrt.out]; simp [St.used], H2.out.2.1⟩⟩
  case round =>
    obtain ⟨m, rfl, HR⟩ := hrel
    obtain ⟨left, cnt, hr, hm, hb⟩ := HR.out
    have hf := H.out.1.below hb
    have HH := hide (And.intro hr (And.intro hm (And.intro hb hf)))
    clear hr hm hb hf HR
    go_wp2_with (at_next; refine wpList_next_dir rfl HH.out.1 ?_ ?_)
    · intro hleft
      have h0 := hide (And.intro HH.out.2.1 (restSum_end s.files (l := s.dir) hleft))
      clear hleft
      go_wp2
      go_ret
      refine ⟨?_, HH.out.2.2.2, HH.out.2.2.1⟩
      have h1 := h0.out.1
      rw [h0.out.2] at h1
      have hms : (m : Int) = (s.used : Int) := by omega
      rw [← hms]; rfl
    · intro x i w3 cnt3 hi hlk hr3 hlt3 hg3 hz3 hen3
      have hil : i < s.files.length := H.out.1.wf.dir (x, i) (dget_mem hi)
      have hb3 : Below w.heap.size w w3 := HH.out.2.2.1.grown hg3 HH.out.2.2.1.size (fun q hq => by injection hq with hq; omega)
      have hf3 := H.out.1.below hb3
      obtain ⟨e, f, he, hfi, hF⟩ := hf3.fl.get hil
      have hstep := restSum_step s.files hlk hsrt.out hi
      rw [hfi] at hstep
      obtain ⟨A, c, hv, _, _⟩ := hF.val
      have c4 := hf3.c4
      obtain ⟨g, hA, hgl, hcell⟩ := hf3.fl.cell he
      rw [hA] at c4
      unfold ptr at hcell
      have d0 : w3.cell? ⟨e.1, 0, none⟩ = some (.slice A f.1.length c) := by rw [cell_of_row _ _ _ _ _ _ hF.blk, ← hv]; rfl
      have hle : (m : Int) + (f.1.length : Int) ≤ 1000000000 := by
        have h1 := HH.out.2.1
        have h2 := H.out.2.2
        rw [hstep] at h1
        simp only [Option.getD_some] at h1
        omega
      have HN := hide (And.intro hr3 (And.intro hstep (And.intro hb3 (And.intro hlt3 HH.out.1.left_eq))))
      clear hi hlk hr3 hlt3 hg3 hz3 hb3 hf3 he hfi hF hstep hv hA
      go_wp2
      go_roundw
      case rel =>
        refine ⟨m + f.1.length, by go_num, hide ⟨_, _, HN.out.1, ?_, HN.out.2.2.1⟩⟩
        have h1 := HH.out.2.1
        rw [HN.out.2.1] at h1
        simp only [Option.getD_some] at h1
        omega
      case measure => rw [HN.out.1.left_eq, HN.out.2.2.2.2]; exact HN.out.2.2.2.1
set_option maxHeartbeats 400000 in
theorem list_any {w : World} {N b : Nat} {s : St} {X : Lay} (h : FsX w N b s X) (hl : s.dir.length ≤ 1000000) :
    Calls Try.prog 13 #[ptr b] w fun e w' => ∃ A c, e = .returned (.slice A s.dir.length c) ∧ w'.ownsRow (w.heap.size + 1) 9 1 (.slice A s.dir.length c) s.dir.length (s.dir.map fun p => tx p.1) ∧ FsX w' N b s X ∧ Below w.heap.size w w' := by
  have c5 := h.c5
  have H := hide (And.intro h hl)
  clear h hl
  unfold ptr
  go_enter Try.func13, Try.ntmps13
  go_wp2_with fail
  refine (keys_any X.db _).mono ?_
  rintro e w1 ⟨rfl, rfl⟩
  go_wp2_with fail
  refine (sorted_any H.out.1.dir H.out.2).mono ?_
  rintro e w2 ⟨A, c, rfl, hrow, hb⟩
  have H2 := hide (And.intro hrow hb)
  clear hrow hb
  go_wp2_with fail
  go_ret
  exact ⟨A, c, rfl, H2.out.1, H.out.1.below H2.out.2, H2.out.2⟩
end Go.Proofs.Ytlnmjkilefnjpaa
