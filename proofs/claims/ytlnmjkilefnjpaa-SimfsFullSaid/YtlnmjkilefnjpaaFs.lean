/-
  A file system in memory: its block, its files, its maps, its changes; what each store does to it.
-/
import Derived.Test.YtlnmjkilefnjpaaIter
namespace Go.Proofs.Ytlnmjkilefnjpaa
open Go.RowKit Go.Maps

def ptr (b : Nat) : Value := .pointer (some ⟨b, 0, none⟩)
/-- A file's block and its bytes' row. -/
structure FileAt (w : World) (N : Nat) (e : Nat × Value) (f : Bs × Nat) : Prop where
  lo : N ≤ e.1
  blk : w.heap[e.1]? = some (.cells #[e.2, .int .i64 (f.2 : Int)] 61 (0, 0))
  row : w.ownsRow N 5 1 e.2 f.1.length (u8s f.1)
/-- The files: the row of their pointers, each file; no two files share a block. -/
structure Fl (w : World) (N : Nat) (v : Value) (es : List (Nat × Value)) (fs : List (Bs × Nat)) : Prop where
  len : es.length = fs.length
  row : w.ownsRow N 59 1 v fs.length (es.map fun e => ptr e.1)
  nodup : es.Pairwise fun a b => a.1 ≠ b.1
  apart : es.Pairwise fun a b => ∀ x, a.2.ownBlock = some x → b.2.ownBlock ≠ some x
  at_ : ∀ (i : Nat) (e : Nat × Value) (f : Bs × Nat), es[i]? = some e → fs[i]? = some f → FileAt w N e f
def flT : List TypeId := [59, 61, 5]
theorem FileAt.same {w w' : World} {N : Nat} {e : Nat × Value} {f : Bs × Nat} (h : FileAt w N e f) (hs : Same (Of flT) w w') : FileAt w' N e f :=
  ⟨h.lo, hs _ _ h.blk ⟨_, _, _, rfl, by simp [flT]⟩, owns_same h.row hs (by simp [flT])⟩
theorem Fl.same {w w' : World} {N : Nat} {v : Value} {es : List (Nat × Value)} {fs : List (Bs × Nat)} (h : Fl w N v es fs) (hs : Same (Of flT) w w') : Fl w' N v es fs :=
  ⟨h.len, owns_same h.row hs (by simp [flT]), h.nodup, h.apart, fun i e f he hf => (h.at_ i e f he hf).same hs⟩
theorem Fl.nil (w : World) (N : Nat) : Fl w N (.slice none 0 0) [] [] := ⟨rfl, World.ownsRow_nil _ _ _ _, List.Pairwise.nil, List.Pairwise.nil, fun i e f he => by simp at he⟩
theorem Fl.get {w : World} {N i : Nat} {v : Value} {es : List (Nat × Value)} {fs : List (Bs × Nat)} (h : Fl w N v es fs) (hi : i < fs.length) : ∃ e f, es[i]? = some e ∧ fs[i]? = some f ∧ FileAt w N e f := by
  have h1 : es[i]? = some (es[i]'(by rw [h.len]; exact hi)) := List.getElem?_eq_getElem _
  have h2 : fs[i]? = some fs[i] := List.getElem?_eq_getElem _
  exact ⟨_, _, h1, h2, h.at_ i _ _ h1 h2⟩
/-- A new file behind the others: the row of the pointers has grown. -/
theorem Fl.snoc {w w1 w2 : World} {N g : Nat} {v v' : Value} {es : List (Nat × Value)} {fs : List (Bs × Nat)} {dv : Value} {f : Bs × Nat} (h : Fl w N v es fs) (hs1 : Same (Of flT) w w1) (hw : w.heap.size ≤ g)
    (hg : w1.grownBy w2 v.ownBlock) (hrow : w2.ownsRow N 59 1 v' (fs.length + 1) (es.map (fun e => ptr e.1) ++ [ptr g])) (hf : FileAt w1 N (g, dv) f) (hd : ∀ x, dv.ownBlock = some x → w.heap.size ≤ x) :
    Fl w2 N v' (es ++ [(g, dv)]) (fs ++ [f]) := by
  have h1 := h.same hs1
  have hsame : Same (Of [61, 5]) w1 w2 := Same.of_row hg (owns_not h1.row (by decide))
  have keep : ∀ e f, FileAt w1 N e f → FileAt w2 N e f := fun e f hF => ⟨hF.lo, hsame _ _ hF.blk ⟨_, _, _, rfl, by simp⟩, owns_same hF.row hsame (by simp)⟩
  refine ⟨by simp [h.len], by simpa using hrow, ?_, ?_, fun i e f' he hf' => ?_⟩
  · refine List.pairwise_append.2 ⟨h.nodup, by simp, fun a ha b hb => ?_⟩
    obtain ⟨i, hi⟩ := List.mem_iff_getElem?.1 ha
    have hil : i < fs.length := by rw [← h.len]; exact (List.getElem?_eq_some_iff.1 hi).1
    have hF := h.at_ i a fs[i] hi (List.getElem?_eq_getElem _)
    have := lt_of_block hF.blk
    rw [List.mem_singleton.1 hb]
    show a.1 ≠ g
    omega
  · refine List.pairwise_append.2 ⟨h.apart, by simp, fun a ha b hb => ?_⟩
    obtain ⟨i, hi⟩ := List.mem_iff_getElem?.1 ha
    have hil : i < fs.length := by rw [← h.len]; exact (List.getElem?_eq_some_iff.1 hi).1
    have hF := h.at_ i a fs[i] hi (List.getElem?_eq_getElem _)
    rw [List.mem_singleton.1 hb]
    intro x hx hx2
    have h3 := (hF.row.lt x hx).2
    have h4 := hd x hx2
    omega
  · rcases Nat.lt_or_ge i es.length with hi | hi
    · rw [List.getElem?_append_left hi] at he
      rw [List.getElem?_append_left (by rw [← h.len]; exact hi)] at hf'
      exact keep _ _ (h1.at_ i e f' he hf')
    · rw [List.getElem?_append_right hi] at he
      rw [List.getElem?_append_right (by rw [← h.len]; exact hi)] at hf'
      have h0 : i - es.length = 0 := by
        have := (List.getElem?_eq_some_iff.1 he).1
        simp at this
        omega
      rw [h0] at he
      rw [← h.len, h0] at hf'
      simp at he hf'
      subst he hf'
      exact keep _ _ hf
theorem pair_lookup {α : Type} {R : α → α → Prop} (hR : ∀ a b, R a b → R b a) : ∀ {l : List α}, l.Pairwise R → ∀ {i j : Nat} {a b : α}, l[i]? = some a → l[j]? = some b → i ≠ j → R a b := by
  intro l hl i j a b hi hj hne
  obtain ⟨h3, h4⟩ := List.getElem?_eq_some_iff.1 hi
  obtain ⟨h5, h6⟩ := List.getElem?_eq_some_iff.1 hj
  subst h4 h6
  rcases Nat.lt_or_gt_of_ne hne with h | h
  · exact (List.pairwise_iff_getElem.1 hl) i j h3 h5 h
  · exact hR _ _ ((List.pairwise_iff_getElem.1 hl) j i h5 h3 h)
theorem modify_get {α : Type} {l : List α} {i j : Nat} {g : α → α} {x : α} (h : (l.modify i g)[j]? = some x) : (j ≠ i ∧ l[j]? = some x) ∨ (j = i ∧ ∃ y, l[j]? = some y ∧ x = g y) := by
  rw [List.getElem?_modify] at h
  cases e : l[j]? with
  | none => rw [e] at h; simp at h
  | some y =>
    rw [e] at h
    simp only [Option.map_eq_map, Option.map_some, Option.some.injEq] at h
    split at h
    · exact .inr ⟨by omega, y, rfl, h.symm⟩
    · exact .inl ⟨by omega, by rw [h]⟩
theorem set_get {α : Type} {l : List α} {i j : Nat} {x y : α} (h : (l.set i y)[j]? = some x) : (j ≠ i ∧ l[j]? = some x) ∨ (j = i ∧ x = y) := by
  rw [List.getElem?_set] at h
  split at h
  · split at h
    · injection h with h; exact .inr ⟨by omega, h.symm⟩
    · cases h
  · exact .inl ⟨by omega, h⟩
/-- One file's block is written: another value for its bytes, another number. -/
theorem Fl.mod {w w2 w3 : World} {N i : Nat} {v v2 : Value} {es : List (Nat × Value)} {fs : List (Bs × Nat)} {e : Nat × Value} {f f2 : Bs × Nat} (h : Fl w N v es fs) (he : es[i]? = some e) (hf : fs[i]? = some f)
    (hg : w.grownBy w2 e.2.ownBlock) (hg3 : w2.grownBy w3 (some e.1)) (hF : FileAt w3 N (e.1, v2) f2) (hv : ∀ x, v2.ownBlock = some x → e.2.ownBlock = some x ∨ w.heap.size ≤ x) {g : Bs × Nat → Bs × Nat} (hgf : g f = f2) :
    Fl w3 N v (es.set i (e.1, v2)) (fs.modify i g) := by
  have hFi := h.at_ i e f he hf
  have hil : i < es.length := (List.getElem?_eq_some_iff.1 he).1
  have hb2 : w2.heap[e.1]? = some (.cells #[e.2, .int .i64 (f.2 : Int)] 61 (0, 0)) := by
    rw [hg.block _ (lt_of_block hFi.blk) (fun e0 => owns_not hFi.row (l := [61]) (by decide) _ e0.symm _ hFi.blk ⟨_, _, _, rfl, by simp⟩)]
    exact hFi.blk
  have s1 : Same (Of [59, 61]) w w2 := Same.of_row hg (owns_not hFi.row (by decide))
  have s2 : Same (Of [59, 5]) w2 w3 := Same.of_grown hg3 hb2 (not_of (by decide))
  have keep : ∀ j e' f', j ≠ i → es[j]? = some e' → fs[j]? = some f' → FileAt w3 N e' f' := by
    intro j e' f' hj hej hfj
    have hFj := h.at_ j e' f' hej hfj
    have hne1 : e'.1 ≠ e.1 := pair_lookup (fun a b h => Ne.symm h) h.nodup hej he hj
    have hap : ∀ x, e'.2.ownBlock = some x → e.2.ownBlock ≠ some x := pair_lookup (R := fun a b => ∀ x, a.2.ownBlock = some x → b.2.ownBlock ≠ some x) (fun a b h x hx hx2 => h x hx2 hx) h.apart hej he hj
    refine ⟨hFj.lo, ?_, ?_⟩
    · have := s1 _ _ hFj.blk ⟨_, _, _, rfl, by simp⟩
      rw [hg3.block _ (lt_of_block this) (by intro h; injection h with h; exact hne1 h)]
      exact this
    · have hk : w2.ownsRow N 5 1 e'.2 f'.1.length (u8s f'.1) := hFj.row.kept hg (by
        cases hx : e'.2.ownBlock with
        | none => exact .inl rfl
        | some x => exact .inr (fun h2 => hap x hx h2.symm))
      exact owns_same hk s2 (by simp)
  refine ⟨by simp [h.len], ?_, ?_, ?_, fun j e' f' hej hfj => ?_⟩
  · have hrow := owns_same (owns_same h.row s1 (by simp)) s2 (by simp)
    have e1 : (es.set i (e.1, v2)).map (fun e => ptr e.1) = es.map fun e => ptr e.1 := by
      rw [List.map_set]
      apply List.ext_getElem?
      intro j
      rw [List.getElem?_set]
      split
      · rename_i hij
        subst hij
        rw [List.getElem?_map, he]
        simp [hil]
      · rfl
    rw [e1, List.length_modify]
    exact hrow
  · refine List.pairwise_iff_getElem.2 fun a b ha hb hab => ?_
    have ha' : a < es.length := by simpa using ha
    have hb' : b < es.length := by simpa using hb
    have h0 := (List.pairwise_iff_getElem.1 h.nodup) a b ha' hb' hab
    have hfst : ∀ (c : Nat) (hc : c < (es.set i (e.1, v2)).length) (hc' : c < es.length), ((es.set i (e.1, v2))[c]).1 = (es[c]).1 := by
      intro c hc hc'
      rw [List.getElem_set]
      split
      · rename_i hic
        subst hic
        rw [(List.getElem?_eq_some_iff.1 he).2]
      · rfl
    rw [hfst a ha ha', hfst b hb hb']
    exact h0
  · refine List.pairwise_iff_getElem.2 fun a b ha hb hab => ?_
    have ha' : a < es.length := by simpa using ha
    have hb' : b < es.length := by simpa using hb
    have h0 := (List.pairwise_iff_getElem.1 h.apart) a b ha' hb' hab
    have hei := (List.getElem?_eq_some_iff.1 he).2
    have old : ∀ (c : Nat) (hc : c < es.length) x, (es[c]).2.ownBlock = some x → x < w.heap.size := by
      intro c hc x hx
      have := h.at_ c es[c] (fs[c]'(by rw [← h.len]; exact hc)) (List.getElem?_eq_getElem _) (List.getElem?_eq_getElem _)
      exact (this.row.lt x hx).2
    intro x hxa hxb
    rw [List.getElem_set] at hxa hxb
    split at hxa
    · rename_i h1
      subst h1
      rw [if_neg (by omega)] at hxb
      rcases hv x hxa with h2 | h2
      · rw [hei] at h0; exact h0 x h2 hxb
      · have := old b hb' x hxb; omega
    · split at hxb
      · rename_i h1
        subst h1
        rcases hv x hxb with h2 | h2
        · rw [hei] at h0; exact h0 x hxa h2
        · have := old a ha' x hxa; omega
      · exact h0 x hxa hxb
  · rcases set_get hej with ⟨hj, hej⟩ | ⟨hj, rfl⟩
    · rcases modify_get hfj with ⟨_, hfj⟩ | ⟨hj2, _⟩
      · exact keep j e' f' hj hej hfj
      · exact absurd hj2 hj
    · rcases modify_get hfj with ⟨hj2, _⟩ | ⟨_, y, hy, rfl⟩
      · exact absurd hj hj2
      · subst hj
        rw [hf] at hy
        injection hy with hy
        subst hy
        rw [hgf]
        exact hF

/-! ### changes -/
def chs (c : Chg) : List Value := c.flatMap fun p => [tx p.1, .int .i64 p.2]
/-- one list of changes -/
def ChAt (w : World) (N : Nat) (v : Value) (c : Chg) : Prop := ∃ g cap, v = .slice (some ⟨g, 0, none⟩) c.length cap ∧ c.length ≤ cap ∧ N ≤ g ∧ w.heap[g]? = some (.cells (chs c).toArray 64 (0, 0))
structure Cs (w : World) (N : Nat) (v : Value) (cs : List Value) (l : List Chg) : Prop where
  len : cs.length = l.length
  row : w.ownsRow N 72 1 v l.length cs
  at_ : ∀ (i : Nat) (c : Value) (x : Chg), cs[i]? = some c → l[i]? = some x → ChAt w N c x
def csT : List TypeId := [72, 64]
theorem ChAt.same {w w' : World} {N : Nat} {v : Value} {c : Chg} (h : ChAt w N v c) (hs : Same (Of [64]) w w') : ChAt w' N v c := by
  obtain ⟨g, cap, hv, hc, hN, hb⟩ := h
  exact ⟨g, cap, hv, hc, hN, hs _ _ hb ⟨_, _, _, rfl, by simp⟩⟩
theorem Cs.same {w w' : World} {N : Nat} {v : Value} {cs : List Value} {l : List Chg} (h : Cs w N v cs l) (hs : Same (Of csT) w w') : Cs w' N v cs l :=
  ⟨h.len, owns_same h.row hs (by simp [csT]), fun i c x hc hx => (h.at_ i c x hc hx).same (hs.less fun o ⟨a, t, f, e, ht⟩ => ⟨a, t, f, e, by simp at ht; simp [csT, ht]⟩)⟩
theorem Cs.nil (w : World) (N : Nat) : Cs w N (.slice none 0 0) [] [] := ⟨rfl, World.ownsRow_nil _ _ _ _, fun i c x hc => by simp at hc⟩
theorem Cs.snoc {w w2 : World} {N : Nat} {v v' u : Value} {cs : List Value} {l : List Chg} {c : Chg} (h : Cs w N v cs l) (hc : ChAt w N u c) (hg : w.grownBy w2 v.ownBlock)
    (hrow : w2.ownsRow N 72 1 v' (l.length + 1) (cs ++ [u])) : Cs w2 N v' (cs ++ [u]) (l ++ [c]) := by
  have hs : Same (Of [64]) w w2 := Same.of_row hg (owns_not h.row (by decide))
  refine ⟨by simp [h.len], by simpa using hrow, fun i c' x hc' hx => ?_⟩
  rcases Nat.lt_or_ge i cs.length with hi | hi
  · rw [List.getElem?_append_left hi] at hc'
    rw [List.getElem?_append_left (by rw [← h.len]; exact hi)] at hx
    exact (h.at_ i c' x hc' hx).same hs
  · rw [List.getElem?_append_right hi] at hc'
    rw [List.getElem?_append_right (by rw [← h.len]; exact hi)] at hx
    have h0 : i - cs.length = 0 := by
      have := (List.getElem?_eq_some_iff.1 hc').1
      simp at this
      omega
    rw [h0] at hc'
    rw [← h.len, h0] at hx
    simp at hc' hx
    subst hc' hx
    exact hc.same hs

/-! ### the whole -/
/-- Where its parts lie. -/
structure Lay where
  FA : Option Addr
  fc : Nat
  es : List (Nat × Value)
  db : Nat
  sb : Nat
  CA : Option Addr
  cc : Nat
  cs : List Value
def fsCells (s : St) (X : Lay) : Array Value :=
  #[.int .i64 (s.steps : Int), .int .i64 s.left, .slice none 0 0, .int .i64 s.room, .slice X.FA s.files.length X.fc, .map (some X.db), .map (some X.sb), .slice X.CA s.chg.length X.cc]
structure FsM (w : World) (N b : Nat) (s : St) (X : Lay) : Prop where
  lo : N ≤ b ∧ N ≤ X.db ∧ N ≤ X.sb ∧ X.db ≠ X.sb ∧ N ≤ w.heap.size
  blk : w.heap[b]? = some (.cells (fsCells s X) 52 (0, 0))
  fl : Fl w N (.slice X.FA s.files.length X.fc) X.es s.files
  dir : Dr w X.db s.dir
  sure : Dr w X.sb s.sure
  cs : Cs w N (.slice X.CA s.chg.length X.cc) X.cs s.chg
structure FsX (w : World) (N b : Nat) (s : St) (X : Lay) : Prop extends FsM w N b s X where
  wf : Wf s
theorem FsX.of {w : World} {N b : Nat} {s : St} {X : Lay} (h : (N ≤ b ∧ N ≤ X.db ∧ N ≤ X.sb ∧ X.db ≠ X.sb ∧ N ≤ w.heap.size) ∧ w.heap[b]? = some (.cells (fsCells s X) 52 (0, 0)) ∧ Fl w N (.slice X.FA s.files.length X.fc) X.es s.files ∧ Dr w X.db s.dir ∧ Dr w X.sb s.sure ∧ Cs w N (.slice X.CA s.chg.length X.cc) X.cs s.chg ∧ Wf s) : FsX w N b s X :=
  ⟨⟨h.1, h.2.1, h.2.2.1, h.2.2.2.1, h.2.2.2.2.1, h.2.2.2.2.2.1⟩, h.2.2.2.2.2.2⟩
def Fs (w : World) (N b : Nat) (s : St) : Prop := ∃ X, FsX w N b s X
section
variable {w w' : World} {N b : Nat} {s : St} {X : Lay}
theorem FsX.lt (h : FsX w N b s X) : b < w.heap.size := lt_of_block h.blk
theorem FsM.below (h : FsM w N b s X) (hb : Below w.heap.size w w') : FsM w' N b s X :=
  ⟨⟨h.lo.1, h.lo.2.1, h.lo.2.2.1, h.lo.2.2.2.1, Nat.le_trans h.lo.2.2.2.2 hb.size⟩, by rw [hb.block _ (lt_of_block h.blk)]; exact h.blk, h.fl.same (Same.of_below hb), h.dir.below hb, h.sure.below hb, h.cs.same (Same.of_below hb)⟩
theorem FsX.below (h : FsX w N b s X) (hb : Below w.heap.size w w') : FsX w' N b s X := ⟨h.toFsM.below hb, h.wf⟩
theorem Fs.below (h : Fs w N b s) (hb : Below w.heap.size w w') : Fs w' N b s := by
  obtain ⟨X, h⟩ := h
  exact ⟨X, h.below hb⟩
theorem FsX.keepRow {w' : World} {N b : Nat} {s : St} {X : Lay} {w : World} (h : FsX w N b s X) (hs : Same (Of (flT ++ csT)) w w') (hd : w'.heap[X.db]? = w.heap[X.db]?) (hu : w'.heap[X.sb]? = w.heap[X.sb]?) (hz : w.heap.size ≤ w'.heap.size)
    {s2 : St} (e1 : s2.files = s.files) (e2 : s2.dir = s.dir) (e3 : s2.sure = s.sure) (e4 : s2.chg = s.chg) (hb : w'.heap[b]? = some (.cells (fsCells s2 X) 52 (0, 0))) (hwf : Wf s2) : FsX w' N b s2 X := by
  have q1 : ∀ o, Of flT o → Of (flT ++ csT) o := fun o ⟨a, t, f, e, ht⟩ => ⟨a, t, f, e, List.mem_append_left _ ht⟩
  have q2 : ∀ o, Of csT o → Of (flT ++ csT) o := fun o ⟨a, t, f, e, ht⟩ => ⟨a, t, f, e, List.mem_append_right _ ht⟩
  refine FsX.of ⟨⟨h.lo.1, h.lo.2.1, h.lo.2.2.1, h.lo.2.2.2.1, Nat.le_trans h.lo.2.2.2.2 hz⟩, hb, ?_, ?_, ?_, ?_, hwf⟩
  · rw [e1]; exact h.fl.same (hs.less q1)
  · rw [e2]; exact h.dir.same hd
  · rw [e3]; exact h.sure.same hu
  · rw [e4]; exact h.cs.same (hs.less q2)
/-- The block's own cells are written: the rest stays. -/
theorem FsX.cells (h : FsX w N b s X) (hg : w.grownBy w' (some b)) {s2 : St} (e1 : s2.files = s.files) (e2 : s2.dir = s.dir) (e3 : s2.sure = s.sure) (e4 : s2.chg = s.chg) (hb : w'.heap[b]? = some (.cells (fsCells s2 X) 52 (0, 0))) (hwf : Wf s2) : FsX w' N b s2 X := by
  obtain ⟨es, c, hd⟩ := h.dir.block
  obtain ⟨es', c', hu⟩ := h.sure.block
  refine h.keepRow (Same.of_grown hg h.blk (not_of (by decide))) ?_ ?_ hg.size e1 e2 e3 e4 hb hwf
  · exact hg.block _ h.dir.lt (by intro e; injection e with e; rw [e, h.blk] at hd; cases hd)
  · exact hg.block _ h.sure.lt (by intro e; injection e with e; rw [e, h.blk] at hu; cases hu)
end
end Go.Proofs.Ytlnmjkilefnjpaa
