/-
  The walk of Crash.
-/
import Derived.Test.YtlnmjkilefnjpaaCrashL
import Derived.StillTailTactics
import Derived.IntWalk
namespace Go.Proofs.Ytlnmjkilefnjpaa
open Go.RowKit Go.Maps

/-- Where a list of changes lies. -/
theorem Cs.cell {w : World} {N k n c : Nat} {A : Option Addr} {cs : List Value} {l : List Chg} {v : Value} (h : Cs w N (.slice A n c) cs l) (hv : cs[k]? = some v) : ∃ g, A = some ⟨g, 0, none⟩ ∧ w.cell? ⟨g, k, none⟩ = some v := by
  rcases h.row.2 with ⟨hv0, h0⟩ | ⟨g, cap, cur, hv0, hb, hg, hn, hc, hsz, ht⟩
  · have := (List.getElem?_eq_some_iff.1 hv).1
    rw [h.len] at this
    omega
  · cases hv0
    refine ⟨g, rfl, ?_⟩
    rw [cell_of_row _ _ _ _ _ _ hg]
    have hm := hv
    rw [← ht, List.getElem?_take] at hm
    split at hm
    · rw [← Array.getElem?_toList]; exact hm
    · cases hm
/-- numbers of a slice -/
def Ri (w : World) (B : Nat) (A : Option Addr) (n : Nat) (l : List Int) : Prop := Rd w B 1 A n (l.map (Value.int .i64))
/-- how many changes are kept -/
def kept (s : St) (dirs : Int) : Nat := (max 0 (min dirs s.chg.length)).toNat
theorem kept_le (s : St) (dirs : Int) : kept s dirs ≤ s.chg.length := by unfold kept; omega
theorem crashDir_eq (s : St) (dirs : Int) : crashDir s dirs = (s.chg.take (kept s dirs)).foldl doL s.sure := rfl
theorem fold_length (cs : List Chg) : ∀ l : Dir, (cs.foldl doL l).length ≤ l.length + (cs.map List.length).sum := by
  induction cs with
  | nil => intro l; simp
  | cons c r ih =>
    intro l
    have h1 := ih (doL l c)
    have h2 := doL_length l c
    simp only [List.foldl_cons, List.map_cons, List.sum_cons]
    omega
theorem fold_idx {n : Nat} (cs : List Chg) (hc : ∀ c ∈ cs, ∀ p ∈ c, p.2 < (n : Int)) : ∀ l : Dir, (∀ p ∈ l, p.2 < n) → ∀ p ∈ cs.foldl doL l, p.2 < n := by
  induction cs with
  | nil => exact fun l h => h
  | cons c r ih => exact fun l h => ih (fun d hd => hc d (by simp [hd])) (doL l c) (doL_idx c (hc c (by simp)) l h)
theorem sum_take (l : List Nat) : ∀ k, (l.take k).sum ≤ l.sum := by
  induction l with
  | nil => intro k; simp
  | cons x r ih =>
    intro k
    cases k with
    | zero => simp
    | succ k => have := ih k; simp; omega
theorem FsX.sizes {w : World} {N b : Nat} {s : St} {X : Lay} (h : FsX w N b s X) : s.chg.length ≤ maxLen ∧ s.files.length ≤ maxLen ∧ s.chg.length ≤ X.cc ∧ X.cc ≤ maxLen := by
  have h1 := owns_cap h.cs.row
  have h2 := owns_cap h.fl.row
  exact ⟨by omega, by omega, h1.1, h1.2⟩
theorem FsX.keepMap {w w' : World} {N b D : Nat} {s : St} {X : Lay} (h : FsX w N b s X) (hg : w.grownBy w' (some D)) (hD : ∃ es c, w.heap[D]? = some (Obj.map es c)) (h1 : D ≠ X.db) (h2 : D ≠ X.sb) : FsX w' N b s X := by
  obtain ⟨es, c, hm⟩ := hD
  refine h.keepRow (Same.of_grown hg hm not_of_map) ?_ ?_ hg.size rfl rfl rfl rfl ?_ h.wf
  · exact hg.block _ h.dir.lt (by intro e; injection e with e; exact h1 e.symm)
  · exact hg.block _ h.sure.lt (by intro e; injection e with e; exact h2 e.symm)
  · rw [hg.block _ h.lt (by intro e; injection e with e; rw [← e, h.blk] at hm; cases hm)]; exact h.blk
theorem row_cell {w : World} {N n c k : Nat} {A : Option Addr} {T : TypeId} {xs : List Value} {v : Value} (h : w.ownsRow N T 1 (.slice A n c) n xs) (hv : xs[k]? = some v) : ∃ g, A = some ⟨g, 0, none⟩ ∧ w.cell? ⟨g, k, none⟩ = some v := by
  rcases h.2 with ⟨hv0, h0⟩ | ⟨g, cap, cur, hv0, hb, hg, hn, hc, hsz, ht⟩
  · have h1 := (List.getElem?_eq_some_iff.1 hv).1
    have h2 := h.1
    omega
  · cases hv0
    refine ⟨g, rfl, ?_⟩
    rw [cell_of_row _ _ _ _ _ _ hg]
    have hm := hv
    rw [← ht, List.getElem?_take] at hm
    split at hm
    · rw [← Array.getElem?_toList]; exact hm
    · cases hm
theorem fold_files (s : St) (ts : List Int) : ∀ (l : Dir) (c : St), (l.foldl (crashAdd s ts) c).files.length = c.files.length + l.length ∧ (l.foldl (crashAdd s ts) c).dir.length ≤ c.dir.length + l.length
  | [], c => ⟨rfl, Nat.le_refl _⟩
  | p :: r, c => by
    have ih := fold_files s ts r (crashAdd s ts c p)
    have h1 : (crashAdd s ts c p).files.length = c.files.length + 1 := by simp [crashAdd]
    have h2 : (crashAdd s ts c p).dir.length ≤ c.dir.length + 1 := dput_length _ _ _
    simp only [List.foldl_cons, List.length_cons]
    omega
/-- how many bytes are kept beside the sure ones -/
def more (ts : List Int) (i : Nat) (f : Bs × Nat) : Nat :=
  match ts[i]? with
  | some t => (max 0 (min t ((f.1.length : Int) - f.2))).toNat
  | none => 0
theorem keep_more (ts : List Int) (i : Nat) (f : Bs × Nat) : keep ts i f = f.1.take (f.2 + more ts i f) := by
  unfold keep more
  cases ts[i]? <;> rfl
theorem more_le (ts : List Int) (i : Nat) {f : Bs × Nat} (h : f.2 ≤ f.1.length) : f.2 + more ts i f ≤ f.1.length := by
  unfold more
  cases ts[i]? with
  | none => simpa using h
  | some t => simp only []; omega
set_option maxRecDepth 100000 in
set_option maxHeartbeats 6400000 in
theorem crash_any {w : World} {N b B n c : Nat} {s : St} {dirs : Int} {A : Option Addr} {ts : List Int} (h : Fs w N b s) (ht : Ri w B A n ts) (hB : B ≤ w.heap.size) (hr0 : 1 ≤ s.room) (hr1 : s.room ≤ 1048576)
    (hok : ∀ c ∈ s.chg, Okc c) (hlen : s.sure.length + (s.chg.map List.length).sum ≤ 100000) (hcn : s.chg.length ≤ 1000000) (hn : n ≤ 1000000) (hd0 : -9223372036854775808 ≤ dirs) (hd1 : dirs ≤ 9223372036854775807) (hdat : ∀ f ∈ s.files, f.1.length ≤ 1000000) :
    Calls Try.prog 17 #[ptr b, .int .i64 dirs, .slice A n c] w fun e w' => ∃ b', e = .returned (ptr b') ∧ Fs w' w.heap.size b' (s.crash dirs ts) ∧ Below w.heap.size w w' := by
  obtain ⟨X, h⟩ := h
  obtain ⟨i0, q1, q2, q3, q4⟩ := info_parts Try.infoFile
  have HI := hide (And.intro q1 (And.intro q2 (And.intro q3 q4)))
  clear q1 q2 q3 q4
  have c3 := h.c3
  have H := hide (And.intro h (And.intro (Rd.more ht hB) (And.intro hok (And.intro hlen (And.intro hn hdat)))))
  clear h ht hB hok hlen hn hdat
  unfold ptr
  go_enter Try.func17, Try.ntmps17
  go_wp2_with fail
  refine (new_any s.room _ hr0 hr1).mono ?_
  rintro e w1 ⟨rfl, ⟨Xc, hc1⟩, hb1⟩
  unfold ptr
  have hxd : w1.heap.size ≠ Xc.db := by have := hc1.dir.lt; omega
  have hxs : w1.heap.size ≠ Xc.sb := by have := hc1.sure.lt; omega
  have HXC := hide (And.intro hxd hxs)
  clear hxd hxs
  have h1 := H.out.1.below hb1
  have c6 := h1.c6
  have H1 := hide (And.intro hc1 (And.intro hb1 h1))
  clear hc1 hb1 h1
  go_wp2_with fail
  refine (mapclone_any H1.out.2.2.sure).mono ?_
  rintro e w2 ⟨rfl, hd2, hb2, hz2⟩
  have h2 := H1.out.2.2.below hb2
  have hc2 := H1.out.1.below hb2
  have c7 := h2.c7
  have sz := h2.sizes
  have hkl := kept_le s dirs
  have e1 : max 0 (min dirs (s.chg.length : Int)) = (kept s dirs : Int) := by unfold kept; omega
  have k1 : (kept s dirs : Int) ≤ (s.chg.length : Int) := by omega
  have k2 : (kept s dirs : Int) ≤ (X.cc : Int) := by omega
  have H2 := hide (And.intro hd2 (And.intro (H1.out.2.1.trans (hb2.mono H1.out.2.1.size)) (And.intro hz2 (And.intro h2 (And.intro hc2 sz)))))
  clear hd2 hb2 hz2 h2 hc2 sz hkl
  have k3 : max 0 (min dirs (s.chg.length : Int)) ≤ (X.cc : Int) := by omega
  have k4 : 0 ≤ max 0 (min dirs (s.chg.length : Int)) := by omega
  have HE := hide e1
  clear e1
  go_wp2_with fail
  go_still (by kernel_rfl)
  generalize hw3 : ({ heap := w2.heap, tape := w2.tape, drawn := w2.drawn + 1, os := w2.os, output := w2.output } : World) = w3
  have hb3 : Below w2.heap.size w2 w3 := by rw [← hw3]; exact (Below.refl _ _).drew
  have H3 := hide hb3
  clear hb3 hw3
  go_wp2_with fail
  have hKn : ((kept s dirs : Nat) : Int).toNat = kept s dirs := Int.toNat_natCast _
  rw [HE.out, hKn]
  clear HE hKn k1 k2 k3 k4
  have kK : (kept s dirs : Int) ≤ 1000000 := by
    have := kept_le s dirs
    omega
  have HCN := hide hcn
  clear hcn
  go_loopw [45] (fun i wr => ∃ k : Nat, i = .int .i64 k ∧ k ≤ kept s dirs ∧ Hid (Dr wr w1.heap.size ((s.chg.take k).foldl doL s.sure) ∧ w3.grownBy wr (some w1.heap.size))) (fun i _ => kept s dirs - (intOf i).toNat)
  case atStart => exact ⟨0, rfl, Nat.zero_le _, hide ⟨H2.out.1.below H3.out, World.grownBy.refl _ _⟩⟩
  case round =>
    obtain ⟨k, rfl, hk, HR⟩ := hrel
    by_cases hlt : k < kept s dirs
    · have hwD : w.heap.size ≤ w1.heap.size := H1.out.2.1.size
      have hz2 := H2.out.2.2.1
      have hbw : Below w.heap.size w wr := (H2.out.2.1.trans (H3.out.mono (by omega))).trans (below_grown HR.out.2 hwD (by have := H3.out.size; omega))
      have hf := H.out.1.below hbw
      have hkc : k < s.chg.length := by have := kept_le s dirs; omega
      have hp := List.getElem?_eq_getElem hkc
      obtain ⟨x, hx⟩ : ∃ x, x = s.chg[k] := ⟨_, rfl⟩
      rw [← hx] at hp
      have hkv : k < X.cs.length := by rw [hf.cs.len]; exact hkc
      have hv := List.getElem?_eq_getElem hkv
      obtain ⟨v, hv0⟩ : ∃ v, v = X.cs[k] := ⟨_, rfl⟩
      rw [← hv0] at hv
      have hch := hf.cs.at_ k v x hv hp
      obtain ⟨g, hA, hcell⟩ := hf.cs.cell hv
      obtain ⟨g2, cap2, rfl, hrest⟩ := hch
      have hch : ChAt wr N (.slice (some ⟨g2, 0, none⟩) x.length cap2) x := ⟨g2, cap2, rfl, hrest⟩
      have hokx := H.out.2.2.1 x (List.mem_of_getElem? hp)
      have hlx : ((s.chg.take k).foldl doL s.sure).length + x.length ≤ 1000000 := by
        have h1 := fold_length (s.chg.take (k + 1)) s.sure
        have h2 := fold_length (s.chg.take k) s.sure
        have h3 := sum_take (s.chg.map List.length) (k + 1)
        rw [← List.map_take] at h3
        rw [List.take_add_one, hp] at h3
        simp only [Option.toList_some, List.map_append, List.map_cons, List.map_nil, List.sum_append, List.sum_cons, List.sum_nil] at h3
        have := H.out.2.2.2.1
        omega
      have hsn : (s.chg.take (k + 1)).foldl doL s.sure = doL ((s.chg.take k).foldl doL s.sure) x := by
        rw [List.take_add_one, hp]; simp
      rw [hA]
      have HX := hide (And.intro hch (And.intro hokx (And.intro hlx hsn)))
      clear hwD hz2 hbw hf hkc hp hx hkv hv hv0 hch hokx hlx hsn hrest hA
      go_wp2_with fail
      refine (do_any HR.out.1 HX.out.1 HX.out.2.1 HX.out.2.2.1).mono ?_
      rintro e w4 ⟨rfl, hd4, hg4⟩
      have H4 := hide (And.intro hd4 (grown_trans HR.out.2 hg4))
      clear hd4 hg4
      go_wp2_with fail
      go_roundw
      case rel => exact ⟨k + 1, by go_num, by omega, hide ⟨by rw [HX.out.2.2.2]; exact H4.out.1, H4.out.2⟩⟩
      case measure => simp [intOf]; omega
    · have hkk : k = kept s dirs := by omega
      subst hkk
      obtain ⟨wo, rfl⟩ : ∃ wo : World, wo = wr := ⟨_, rfl⟩
      have hwD : w.heap.size ≤ w1.heap.size := H1.out.2.1.size
      have hz2 := H2.out.2.2.1
      have hDr : Dr wo w1.heap.size (crashDir s dirs) := by rw [crashDir_eq]; exact HR.out.1
      have hLlen : (crashDir s dirs).length ≤ 100000 := by
        have h1 := fold_length (s.chg.take (kept s dirs)) s.sure
        have h3 := sum_take (s.chg.map List.length) (kept s dirs)
        rw [← List.map_take] at h3
        have := H.out.2.2.2.1
        rw [crashDir_eq]
        omega
      have hLidx : ∀ p ∈ crashDir s dirs, p.2 < s.files.length := by
        rw [crashDir_eq]
        exact fold_idx _ (fun c hc => H.out.1.wf.chg c (List.mem_of_mem_take hc)) _ H.out.1.wf.sure
      have hbw : Below w.heap.size w wo := (H2.out.2.1.trans (H3.out.mono (by omega))).trans (below_grown HR.out.2 hwD (by have := H3.out.size; omega))
      have HD := hide (And.intro hDr (And.intro hLlen (And.intro hLidx hbw)))
      go_wp2_with fail
      refine (keys_any w1.heap.size _).mono ?_
      rintro e w4 ⟨rfl, rfl⟩
      go_wp2_with fail
      refine (sorted_any HD.out.1 (by have := HD.out.2.1; omega)).mono ?_
      rintro e w5 ⟨A5, c5, rfl, hrow5, hb5⟩
      have hDm : ∃ es c, w3.heap[w1.heap.size]? = some (Obj.map es c) := (H2.out.1.below H3.out).block
      have hcr : FsX wo w.heap.size (w.heap.size + 2) (newS s.room) Xc := (H2.out.2.2.2.2.1.below H3.out).keepMap HR.out.2 hDm HXC.out.1 HXC.out.2
      have hc5 := hcr.below hb5
      have hD5 := HD.out.1.below hb5
      have hrow5b := owns_base (N := w.heap.size) hrow5 (by have := HD.out.2.2.2.size; omega)
      have hbw5 := HD.out.2.2.2.trans (hb5.mono HD.out.2.2.2.size)
      obtain ⟨L, hL⟩ : ∃ L, L = crashDir s dirs := ⟨_, rfl⟩
      rw [← hL] at hD5 hrow5b ⊢
      have hLs : Srt L := hD5.srt
      have hLd : L.length ≤ 100000 := by rw [hL]; exact HD.out.2.1
      have hLi : ∀ p ∈ L, p.2 < s.files.length := by rw [hL]; exact HD.out.2.2.1
      have hLn : (L.length : Int) ≤ 100000 := by omega
      have HL := hide (And.intro hL (And.intro hLs (And.intro hLd hLi)))
      have H5 := hide (And.intro hD5 (And.intro hrow5b (And.intro hbw5 hc5)))
      clear hDm hcr hc5 hD5 hrow5b hbw5 hL hLs hLd hLi hb5 hrow5 hwD hz2 hDr hLlen hLidx hbw HD
      have hnn : (n : Int) ≤ 1000000 := by have := H.out.2.2.2.2.1; omega
      go_wp2_with fail
      go_loopw [57] (fun i wq => ∃ k : Nat, i = .int .i64 k ∧ k ≤ L.length ∧ Hid (Dr wq w1.heap.size L ∧ wq.ownsRow w.heap.size 9 1 (.slice A5 L.length c5) L.length (L.map fun p => tx p.1) ∧ Below w.heap.size w wq ∧ ∃ Xq, FsX wq w.heap.size (w.heap.size + 2) ((L.take k).foldl (crashAdd s ts) (newS s.room)) Xq ∧ w1.heap.size ≠ Xq.db)) (fun i _ => L.length - (intOf i).toNat)
      case atStart => exact ⟨0, rfl, Nat.zero_le _, hide ⟨H5.out.1, H5.out.2.1, H5.out.2.2.1, Xc, H5.out.2.2.2, HXC.out.1⟩⟩
      case round =>
        obtain ⟨k, rfl, hk, HQ⟩ := hrel
        by_cases hlt : k < L.length
        · obtain ⟨hqD, hqrow, hqb, Xq, hqc, hqne⟩ := HQ.out
          obtain ⟨st, hst⟩ : ∃ st, st = (L.take k).foldl (crashAdd s ts) (newS s.room) := ⟨_, rfl⟩
          rw [← hst] at hqc
          have hp := List.getElem?_eq_getElem hlt
          obtain ⟨p, hpd⟩ : ∃ p, p = L[k] := ⟨_, rfl⟩
          rw [← hpd] at hp
          have hsn : (L.take (k + 1)).foldl (crashAdd s ts) (newS s.room) = crashAdd s ts st p := by
            rw [List.take_add_one, hp, hst]; simp
          obtain ⟨nm, ix⟩ := p
          have hpm := List.mem_of_getElem? hp
          have hdg : dget L nm = some ix := dget_of_mem HL.out.2.1 hpm
          have hix : ix < s.files.length := HL.out.2.2.2 _ hpm
          have hqf := H.out.1.below hqb
          obtain ⟨e, f, he, hf, hF⟩ := hqf.fl.get hix
          obtain ⟨A0, c0, hv0, hcap0, hmax0⟩ := hF.val
          obtain ⟨g5, hA5, hcell5⟩ := row_cell (v := tx nm) hqrow (by rw [List.getElem?_map, hp]; rfl)
          obtain ⟨gf, hFA, _, hcellf⟩ := hqf.fl.cell he
          unfold ptr at hcellf
          have c4 := hqf.c4
          rw [hFA] at c4
          have x0 : wr.cell? ⟨e.1, 0, none⟩ = some (.slice A0 f.1.length c0) := by rw [cell_of_row _ _ _ _ _ _ hF.blk, ← hv0]; rfl
          have x1 : wr.cell? ⟨e.1, 1, none⟩ = some (.int .i64 (f.2 : Int)) := by rw [cell_of_row _ _ _ _ _ _ hF.blk]; rfl
          have hfm := List.mem_of_getElem? hf
          have hfd := H.out.1.wf.data f hfm
          have hfl := H.out.2.2.2.2.2 f hfm
          have hml := more_le ts ix hfd
          have hRt := Rd.below H.out.2.1 hqb
          have htl : ts.length = n := by have := hRt.len; simpa using this
          have hkl := keep_more ts ix f
          have hrb : Rb wr wr.heap.size A0 (f.2 + more ts ix f) (f.1.take (f.2 + more ts ix f)) := (hF.rb hv0).take hml
          obtain ⟨kl, hklv⟩ : ∃ kl, kl = keep ts ix f := ⟨_, rfl⟩
          have hkll : kl.length = f.2 + more ts ix f := by rw [hklv, hkl, List.length_take]; omega
          rw [← hkl, ← hklv] at hrb
          have hkle : kl = keep ts (nm, ix).2 ((s.files[(nm, ix).2]?).getD ([], 0)) := by rw [hklv]; simp only []; rw [hf]; rfl
          have hlens := fold_files s ts (L.take k) (newS s.room)
          rw [← hst] at hlens
          have hld := HL.out.2.2.1
          have hl1 : st.files.length ≤ 1000000 := by
            have := hlens.1
            rw [List.length_take] at this
            have h0 : (newS s.room).files.length = 0 := rfl
            omega
          have hl2 : st.dir.length ≤ 1000000 := by
            have := hlens.2
            rw [List.length_take] at this
            have h0 : (newS s.room).dir.length = 0 := rfl
            omega
          have hel : e.1 < wr.heap.size := lt_of_block hF.blk
          rw [hA5] at hqrow
          have HP := hide (And.intro hqD (And.intro hqrow (And.intro hqb (And.intro hqc (And.intro hqne (And.intro hsn (And.intro hdg hkle)))))))
          have HF := hide (And.intro hrb (And.intro hkll (And.intro hfl (And.intro hel (And.intro hl1 hl2)))))
          have i2 : (f.1.length : Int) ≤ 1000000 := by omega
          have i3 : (f.2 : Int) ≤ (f.1.length : Int) := by omega
          have i5 : (f.2 : Int) ≤ (c0 : Int) := by omega
          have hnm : nm.length ≤ maxLen := hqD.names hpm
          have HNM := hide hnm
          rw [hA5]
          cases htx : ts[ix]? with
          | none =>
            have hnix : (n : Int) ≤ (ix : Int) := by rw [← htl]; have := List.getElem?_eq_none_iff.1 htx; omega
            have hm0 : more ts ix f = 0 := by unfold more; rw [htx]
            have hr0 : Rb wr wr.heap.size A0 f.2 kl := by have := hrb; rw [hm0, Nat.add_zero] at this; exact this
            have HR0 := hide hr0
            have HB0 := hide (Below.refl wr.heap.size wr)
            clear hm0 hr0 hqD hqrow hqb hqc hqne hst hp hpd hsn hpm hdg hqf he hf hF hv0 hcap0 hmax0 hA5 hFA hfm hfd hfl hml hRt htl hkl hrb htx hnm HQ hklv hkll hkle hlens hld hl1 hl2 hel
            go_wp2_with (at_lookup; refine wpList_dget_at rfl HP.out.1 rfl HNM.out HP.out.2.2.2.2.2.2.1 ?_)
            have s1 : IntKind.i64.wrap ((f.2 : Int) + 0) = (f.2 : Int) := by rw [Int.add_zero]; exact IntWalk.i64_in _ (by omega)
            have s2 : IntKind.i64.wrap (f.2 : Int) = (f.2 : Int) := IntWalk.i64_in _ (by omega)
            have s3 : (0 : Int) ≤ (f.2 : Int) := by omega
            go_still_tail 11, (by kernel_rfl)
            generalize hw3 : ({ heap := wr.heap, tape := wr.tape, drawn := wr.drawn + 1, os := wr.os, output := wr.output } : World) = wd
            have hbd : Below wr.heap.size wr wd := by rw [← hw3]; exact (Below.refl _ _).drew
            have hbd2 : Below wr.heap.size wr wd := HB0.out.trans (hbd.mono HB0.out.size)
            have HBD := hide hbd2
            clear hw3 hbd hbd2 x0 x1
            go_wp2_with fail
            refine (clone_any c0 (HR0.out.below HBD.out) HBD.out.size (by have := HF.out.2.2.1; omega)).mono ?_
            rintro e7 w7 ⟨A7, c7, rfl, hrow7, hb7⟩
            have hbw7 : Below wr.heap.size wr w7 := HBD.out.trans (hb7.mono HBD.out.size)
            have hq7 := HP.out.2.2.2.1.below hbw7
            have q5 := hq7.c5
            have q4 := hq7.c4
            have H7 := hide (And.intro (owns_base hrow7 HBD.out.size) hbw7)
            have sfl : (st.files.length : Int) ≤ 1000000 := by have := HF.out.2.2.2.2.1; omega
            clear hrow7 hb7 hbw7 hq7
            go_wp2_with fail
            go_still_tail 10, (by kernel_rfl)
            generalize hw8 : ({ heap := w7.heap, tape := w7.tape, drawn := w7.drawn + 1, os := w7.os, output := w7.output } : World) = w8
            have hb8 : Below w7.heap.size w7 w8 := by rw [← hw8]; exact (Below.refl _ _).drew
            have hbw8 : Below wr.heap.size wr w8 := H7.out.2.trans (hb8.mono H7.out.2.size)
            have hrow8 := owns_below H7.out.1 hb8 (fun g hg => (H7.out.1.lt g hg).2)
            have hq8 := HP.out.2.2.2.1.below hbw8
            have H8 := hide (And.intro hrow8 (And.intro hbw8 hq8))
            clear hw8 hb8 hbw8 hrow8 hq8 q4 q5
            refine wpList_dputM rfl H8.out.2.2.dir rfl rfl HNM.out (by have := HF.out.2.2.2.2.1; omega) HF.out.2.2.2.2.2 ?_
            intro w9 hd9 hg9
            have hm9 := H8.out.2.2.toFsM.afterDir hd9 hg9
            have q4 : w9.cell? ⟨w.heap.size + 2, 4, none⟩ = some (.slice Xq.FA st.files.length Xq.fc) := by rw [cell_of_row _ _ _ _ _ _ hm9.blk]; rfl
            have hb10 : Below w9.heap.size w9 ((w9.alloc (.cells #[.slice A7 kl.length c7, .int .i64 (kl.length : Int)] 61)).alloc (.cells #[ptr w9.heap.size] 59)) := ((Below.refl _ _).alloc (Nat.le_refl _) _).alloc (by simp) _
            have hm10 := hm9.below hb10
            have hr10 := Rd.one (w9.alloc (.cells #[.slice A7 kl.length c7, .int .i64 (kl.length : Int)] 61)) (ptr w9.heap.size) 59
            rw [World.size_alloc] at hr10
            have H9 := hide (And.intro hd9 (And.intro hg9 (And.intro hm10 hr10)))
            clear hd9 hg9 hm9 hb10 hm10 hr10
            unfold ptr at H9
            go_wp2_with ((with_reducible show wpList _ _ _ ({ dst := _, op := .call { callee := .builtin .append, args := #[_, _], argTypes := #[48, 48] }, type := _, pos := _, after := _, guard := _ } :: _) _ _); refine wpList_append_g Try.underlying48 HI.out.1 HI.out.2.1 HI.out.2.2.1 HI.out.2.2.2 rfl (by decide) rfl rfl H9.out.2.2.1.fl.row H9.out.2.2.2 (by intro u hu; simp at hu; subst hu; rfl) (by have := HF.out.2.2.2.2.1; show st.files.length + 1 ≤ _; unfold maxLen; omega) (by have := HF.out.2.2.2.2.1; show (st.files.length + 1) * _ ≤ _; omega) H9.out.2.2.1.lo.2.2.2.2 ?_; intro A11 c11 w11 hown11 hg11; have H11 := hide (crash_file (s := s) (ts := ts) (p := (nm, ix)) HP.out.2.2.2.1 HP.out.2.2.2.2.2.2.2 H8.out.2.1 H8.out.1 H9.out.1 H9.out.2.1 hg11 hown11); clear hown11 hg11; have f4 := frozen_of_row w11 (w.heap.size + 2) 4 _ _ H11.out.1; have q6 := cell_of_row w11 (w.heap.size + 2) 4 _ _ _ H11.out.1; simp only [fsCells] at q6)
            go_roundw
            case rel =>
              obtain ⟨esD, clD, hmD⟩ := HP.out.1.block
              obtain ⟨esq, clq, hmq⟩ := HP.out.2.2.2.1.dir.block
              refine ⟨k + 1, by go_num, by omega, hide ⟨HP.out.1.same ?_, owns_same HP.out.2.1 (l := [9]) ?_ (by simp), HP.out.2.2.1.trans H11.out.2.2.1, { Xq with FA := A11, fc := c11, es := Xq.es ++ [(w9.heap.size, .slice A7 kl.length c7)] }, ?_, HP.out.2.2.2.2.1⟩⟩
              · rw [hmD]
                exact H11.out.2.2.2 _ _ hmD HP.out.2.2.2.2.1 (fun a f e => by cases e) (fun a f e => by cases e)
              · rintro kb o hkb ⟨a, t, fr, rfl, ht⟩
                have ht9 : t = 9 := by simpa using ht
                subst ht9
                refine H11.out.2.2.2 kb _ hkb (fun e => ?_) (fun a f e => ?_) (fun a f e => ?_)
                · rw [e, hmq] at hkb; cases hkb
                · injection e with _ e; exact absurd e (by decide)
                · injection e with _ e; exact absurd e (by decide)
              · rw [HP.out.2.2.2.2.2.1]
                exact H11.out.2.1
            case measure => simp [intOf]; omega
          | some t =>
            have hnix : (ix : Int) < (n : Int) := by rw [← htl]; have := (List.getElem?_eq_some_iff.1 htx).1; omega
            obtain ⟨b0, o0, hA0, hb0, htc⟩ := hRt.cell ix (.int .i64 t) (by rw [List.getElem?_map, htx]; rfl)
            obtain ⟨mo, hmo⟩ : ∃ mo, mo = more ts ix f := ⟨_, rfl⟩
            have hme : max 0 (min t ((f.1.length : Int) - (f.2 : Int))) = (mo : Int) := by rw [hmo]; unfold more; rw [htx]; simp only []; omega
            have hr0 : Rb wr wr.heap.size A0 (f.2 + mo) kl := by rw [hmo]; exact hrb
            have hml2 : f.2 + mo ≤ f.1.length := by rw [hmo]; exact hml
            have j1 : (f.2 : Int) + (mo : Int) ≤ 1000000 := by omega
            have j2 : (f.2 : Int) + (mo : Int) ≤ (c0 : Int) := by omega
            have j3 : (0 : Int) ≤ (f.2 : Int) + (mo : Int) := by omega
            have j4 : ((f.2 : Int) + (mo : Int)).toNat = f.2 + mo := by omega
            have HJ := hide j4
            have HR0 := hide hr0
            have HME := hide hme
            have HX0 := hide (And.intro x0 x1)
            rw [hA0]
            clear hr0 hmo hme hml2 hb0 hA0 j4 hqD hqrow hqb hqc hqne hst hp hpd hsn hpm hdg hqf he hf hF hv0 hcap0 hmax0 hA5 hFA hfm hfd hfl hml hRt htl hkl hrb htx hnm HQ hklv hkll hkle hlens hld hl1 hl2 hel
            go_wp2_with (at_lookup; refine wpList_dget_at rfl HP.out.1 rfl HNM.out HP.out.2.2.2.2.2.2.1 ?_)
            have d1 : IntKind.i64.wrap ((f.1.length : Int) - (f.2 : Int)) = (f.1.length : Int) - (f.2 : Int) := IntWalk.i64_in _ (by omega)
            go_still (by kernel_rfl)
            rw [HME.out]
            generalize hwa : ({ heap := wr.heap, tape := wr.tape, drawn := wr.drawn + 1, os := wr.os, output := wr.output } : World) = wa
            have hba : Below wr.heap.size wr wa := by rw [← hwa]; exact (Below.refl _ _).drew
            have HB0 := hide hba
            clear x0 x1 hwa d1
            have x0 := (hba.cell (p := ⟨e.1, 0, none⟩) HF.out.2.2.2.1).trans HX0.out.1
            have x1 := (hba.cell (p := ⟨e.1, 1, none⟩) HF.out.2.2.2.1).trans HX0.out.2
            clear hba
            go_wp2_with fail
            have s1 : IntKind.i64.wrap ((f.2 : Int) + (mo : Int)) = (f.2 : Int) + (mo : Int) := IntWalk.i64_in _ (by omega)
            have j4 := HJ.out
            go_still_tail 11, (by kernel_rfl)
            generalize hw3 : ({ heap := wa.heap, tape := wa.tape, drawn := wa.drawn + 1, os := wa.os, output := wa.output } : World) = wd
            have hbd : Below wa.heap.size wa wd := by rw [← hw3]; exact (Below.refl _ _).drew
            have hbd2 : Below wr.heap.size wr wd := HB0.out.trans (hbd.mono HB0.out.size)
            have HBD := hide hbd2
            clear hw3 hbd hbd2 x0 x1
            go_wp2_with fail
            refine (clone_any c0 (HR0.out.below HBD.out) HBD.out.size (by have := HF.out.2.2.1; omega)).mono ?_
            rintro e7 w7 ⟨A7, c7, rfl, hrow7, hb7⟩
            have hbw7 : Below wr.heap.size wr w7 := HBD.out.trans (hb7.mono HBD.out.size)
            have hq7 := HP.out.2.2.2.1.below hbw7
            have q5 := hq7.c5
            have q4 := hq7.c4
            have H7 := hide (And.intro (owns_base hrow7 HBD.out.size) hbw7)
            have sfl : (st.files.length : Int) ≤ 1000000 := by have := HF.out.2.2.2.2.1; omega
            clear hrow7 hb7 hbw7 hq7
            go_wp2_with fail
            go_still_tail 10, (by kernel_rfl)
            generalize hw8 : ({ heap := w7.heap, tape := w7.tape, drawn := w7.drawn + 1, os := w7.os, output := w7.output } : World) = w8
            have hb8 : Below w7.heap.size w7 w8 := by rw [← hw8]; exact (Below.refl _ _).drew
            have hbw8 : Below wr.heap.size wr w8 := H7.out.2.trans (hb8.mono H7.out.2.size)
            have hrow8 := owns_below H7.out.1 hb8 (fun g hg => (H7.out.1.lt g hg).2)
            have hq8 := HP.out.2.2.2.1.below hbw8
            have H8 := hide (And.intro hrow8 (And.intro hbw8 hq8))
            clear hw8 hb8 hbw8 hrow8 hq8 q4 q5
            refine wpList_dputM rfl H8.out.2.2.dir rfl rfl HNM.out (by have := HF.out.2.2.2.2.1; omega) HF.out.2.2.2.2.2 ?_
            intro w9 hd9 hg9
            have hm9 := H8.out.2.2.toFsM.afterDir hd9 hg9
            have q4 : w9.cell? ⟨w.heap.size + 2, 4, none⟩ = some (.slice Xq.FA st.files.length Xq.fc) := by rw [cell_of_row _ _ _ _ _ _ hm9.blk]; rfl
            have hb10 : Below w9.heap.size w9 ((w9.alloc (.cells #[.slice A7 kl.length c7, .int .i64 (kl.length : Int)] 61)).alloc (.cells #[ptr w9.heap.size] 59)) := ((Below.refl _ _).alloc (Nat.le_refl _) _).alloc (by simp) _
            have hm10 := hm9.below hb10
            have hr10 := Rd.one (w9.alloc (.cells #[.slice A7 kl.length c7, .int .i64 (kl.length : Int)] 61)) (ptr w9.heap.size) 59
            rw [World.size_alloc] at hr10
            have H9 := hide (And.intro hd9 (And.intro hg9 (And.intro hm10 hr10)))
            clear hd9 hg9 hm9 hb10 hm10 hr10
            unfold ptr at H9
            go_wp2_with ((with_reducible show wpList _ _ _ ({ dst := _, op := .call { callee := .builtin .append, args := #[_, _], argTypes := #[48, 48] }, type := _, pos := _, after := _, guard := _ } :: _) _ _); refine wpList_append_g Try.underlying48 HI.out.1 HI.out.2.1 HI.out.2.2.1 HI.out.2.2.2 rfl (by decide) rfl rfl H9.out.2.2.1.fl.row H9.out.2.2.2 (by intro u hu; simp at hu; subst hu; rfl) (by have := HF.out.2.2.2.2.1; show st.files.length + 1 ≤ _; unfold maxLen; omega) (by have := HF.out.2.2.2.2.1; show (st.files.length + 1) * _ ≤ _; omega) H9.out.2.2.1.lo.2.2.2.2 ?_; intro A11 c11 w11 hown11 hg11; have H11 := hide (crash_file (s := s) (ts := ts) (p := (nm, ix)) HP.out.2.2.2.1 HP.out.2.2.2.2.2.2.2 H8.out.2.1 H8.out.1 H9.out.1 H9.out.2.1 hg11 hown11); clear hown11 hg11; have f4 := frozen_of_row w11 (w.heap.size + 2) 4 _ _ H11.out.1; have q6 := cell_of_row w11 (w.heap.size + 2) 4 _ _ _ H11.out.1; simp only [fsCells] at q6)
            go_roundw
            case rel =>
              obtain ⟨esD, clD, hmD⟩ := HP.out.1.block
              obtain ⟨esq, clq, hmq⟩ := HP.out.2.2.2.1.dir.block
              refine ⟨k + 1, by go_num, by omega, hide ⟨HP.out.1.same ?_, owns_same HP.out.2.1 (l := [9]) ?_ (by simp), HP.out.2.2.1.trans H11.out.2.2.1, { Xq with FA := A11, fc := c11, es := Xq.es ++ [(w9.heap.size, .slice A7 kl.length c7)] }, ?_, HP.out.2.2.2.2.1⟩⟩
              · rw [hmD]
                exact H11.out.2.2.2 _ _ hmD HP.out.2.2.2.2.1 (fun a f e => by cases e) (fun a f e => by cases e)
              · rintro kb o hkb ⟨a, t, fr, rfl, ht⟩
                have ht9 : t = 9 := by simpa using ht
                subst ht9
                refine H11.out.2.2.2 kb _ hkb (fun e => ?_) (fun a f e => ?_) (fun a f e => ?_)
                · rw [e, hmq] at hkb; cases hkb
                · injection e with _ e; exact absurd e (by decide)
                · injection e with _ e; exact absurd e (by decide)
              · rw [HP.out.2.2.2.2.2.1]
                exact H11.out.2.1
            case measure => simp [intOf]; omega
        · have hkk : k = L.length := by omega
          subst hkk
          obtain ⟨hqD, hqrow, hqb, Xq, hqc, hqne⟩ := HQ.out
          rw [List.take_length] at hqc
          have q5 := hqc.c5
          have HP := hide (And.intro hqb hqc)
          clear hqD hqrow hqb hqc hqne HQ
          go_wp2_with fail
          refine (mapclone_any HP.out.2.dir).mono ?_
          rintro e w7 ⟨rfl, hd7, hb7, hz7⟩
          have h8 := HP.out.2.sured hd7 hb7 hz7
          have f6 := frozen_of_row w7 (w.heap.size + 2) 6 _ _ h8.1
          have q6 := cell_of_row w7 (w.heap.size + 2) 6 _ _ _ h8.1
          simp only [fsCells] at q6
          have hcr : { (L.foldl (crashAdd s ts) (newS s.room)) with sure := (L.foldl (crashAdd s ts) (newS s.room)).dir } = s.crash dirs ts := by
            rw [HL.out.1]; rfl
          have h82 := h8.2.1
          rw [hcr] at h82
          have H8 := hide (And.intro h82 (HP.out.1.trans h8.2.2))
          clear hd7 hb7 hz7 h8 hcr h82
          go_wp2_with fail
          go_ret
          exact ⟨_, rfl, ⟨_, H8.out.1⟩, H8.out.2⟩
end Go.Proofs.Ytlnmjkilefnjpaa
