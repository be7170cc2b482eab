/-
  The walk of the law of the steps.
-/
import Derived.Test.YtlnmjkilefnjpaaGood
import Derived.IntWalk
namespace Go.Proofs.Ytlnmjkilefnjpaa
open Go.RowKit Go.Maps

/-- What holds behind k rounds of the loop, armed with q steps. -/
def DInv (q k : Nat) (st : St) : Prop :=
  st.steps = 1 + min k q ∧ st.left = ((q - min k q : Nat) : Int) ∧ st.dir = [([97], 0)] ∧ st.room = 1000 ∧ st.chg.length ≤ 1 ∧ ∃ d su, st.files = [(d, su)] ∧ d.length ≤ k
theorem DInv.start (q : Nat) : DInv q 0 (((newS 1000).create [97]).arm (q : Int)) := ⟨by show 1 = _; omega, by show (q : Int) = _; omega, rfl, rfl, Nat.le_refl 1, [], 0, rfl, Nat.le_refl 0⟩
theorem DInv.used {q k : Nat} {st : St} (h : DInv q k st) : st.used ≤ k := by
  obtain ⟨_, _, hd, _, _, d, su, hf, hl⟩ := h
  unfold St.used usedL
  rw [hd, hf]
  simpa using hl
theorem DInv.live {q k : Nat} {st st2 : St} (h : DInv q k st) (hk : k < q) (h1 : st2.steps = st.steps + 1) (h2 : st2.left = max (st.left - 1) (-1)) (h3 : st2.dir = st.dir) (h4 : st2.room = st.room) (h5 : st2.chg.length ≤ 1)
    (h6 : ∃ d su, st2.files = [(d, su)] ∧ d.length ≤ k + 1) : DInv q (k + 1) st2 := by
  obtain ⟨a1, a2, a3, a4, a5, _⟩ := h
  refine ⟨by rw [h1, a1]; omega, by rw [h2, a2]; omega, by rw [h3, a3], by rw [h4, a4], h5, h6⟩
theorem DInv.append {q k : Nat} {st : St} (h : DInv q k st) (hk : k < q) : DInv q (k + 1) (st.append 0 [7]) := by
  have h0 := h
  obtain ⟨a1, a2, a3, a4, a5, d, su, hf, hl⟩ := h
  exact h0.live hk rfl rfl rfl rfl a5 ⟨d ++ [7], su, by show st.files.modify 0 _ = _; rw [hf]; rfl, by simp; omega⟩
theorem DInv.sync {q k : Nat} {st : St} (h : DInv q k st) (hk : k < q) : DInv q (k + 1) (st.sync 0) := by
  have h0 := h
  obtain ⟨a1, a2, a3, a4, a5, d, su, hf, hl⟩ := h
  exact h0.live hk rfl rfl rfl rfl a5 ⟨d, d.length, by show st.files.modify 0 _ = _; rw [hf]; rfl, by omega⟩
theorem DInv.syncDir {q k : Nat} {st : St} (h : DInv q k st) (hk : k < q) : DInv q (k + 1) st.syncDir := by
  have h0 := h
  obtain ⟨a1, a2, a3, a4, a5, d, su, hf, hl⟩ := h
  exact h0.live hk rfl rfl rfl rfl (Nat.zero_le 1) ⟨d, su, hf, by omega⟩
theorem DInv.dead {q k : Nat} {st : St} (h : DInv q k st) (hk : q ≤ k) : DInv q (k + 1) st ∧ st.left = 0 := by
  obtain ⟨a1, a2, a3, a4, a5, d, su, hf, hl⟩ := h
  exact ⟨⟨by rw [a1]; omega, by rw [a2]; omega, a3, a4, a5, d, su, hf, by omega⟩, by rw [a2]; omega⟩
theorem DInv.ne {q k : Nat} {st : St} (h : DInv q k st) (hk : k < q) : st.left ≠ 0 := by rw [h.2.1]; omega
theorem DInv.get {q k : Nat} {st : St} (h : DInv q k st) : dget st.dir [97] = some 0 := by rw [h.2.2.1]; rfl
theorem DInv.file {q k : Nat} {st : St} (h : DInv q k st) : ∃ f, st.files[0]? = some f ∧ f.1.length ≤ k := by
  obtain ⟨_, _, _, _, _, d, su, hf, hl⟩ := h
  exact ⟨(d, su), by rw [hf]; rfl, hl⟩

set_option maxRecDepth 100000 in
set_option maxHeartbeats 12800000 in
theorem dead_any {w : World} {B m : Nat} {A : Option Addr} {l : List UInt8} (n : Int) (c : Nat) (hr : Rb w B A m l) (hB : B ≤ w.heap.size) (hm : m ≤ maxLen) :
    Calls Try.prog 7 #[.int .i64 n, .slice A m c] w fun e w' => e = .returned (.bool true) ∧ Below w.heap.size w w' := by
  have hm1 : (m : Int) ≤ 9223372036854775807 := by unfold maxLen at hm; omega
  obtain ⟨u0, hu0⟩ : ∃ u0 : Nat, IntKind.u64.wrap n = (u0 : Int) := ⟨(IntKind.u64.wrap n).toNat, by rw [IntKind.wrap_u64]; omega⟩
  obtain ⟨q, p1, p2, p3⟩ : ∃ q : Nat, (u0 : Int) % 40 = (q : Int) ∧ (u0 : Int).tmod 40 = (q : Int) ∧ q < 40 := ⟨u0 % 40, by omega, by rw [Int.tmod_eq_emod_of_nonneg (by omega)]; omega, by omega⟩
  have p4 : (q : Int) < 40 := by omega
  have p5 : IntKind.i64.wrap (q : Int) = (q : Int) := IntWalk.i64_in _ (by omega)
  have H := hide (And.intro (hr.more hB) p3)
  clear hr hB hm p3
  go_enter Try.func7, Try.ntmps7
  go_wp2_with fail
  refine (awake_any _).mono ?_
  rintro e w1 ⟨rfl, hb1⟩
  have H1 := hide hb1
  clear hb1
  go_wp2_with fail
  clear hu0 p1 p2 p5
  refine (new_any 1000 _ (by omega) (by omega)).mono ?_
  rintro e w2 ⟨rfl, h2, hb2⟩
  have H2 := hide (And.intro h2 (H1.out.trans (hb2.mono H1.out.size)))
  clear h2 hb2
  unfold ptr
  go_wp2_with fail
  refine (create_ok (k := [97]) H2.out.1 (by decide) (by decide) (by decide) (by decide) (by decide) (by decide) (by decide) (by decide)).mono ?_
  rintro e w3 ⟨rfl, ⟨X3, h3⟩, hb3⟩
  have H3 := hide (And.intro h3 (H2.out.2.trans (hb3.mono H1.out.size)))
  clear h3 hb3
  go_wp2_with fail
  refine (arm_alive (n := (q : Int)) H3.out.1 (by decide) (by omega) (by omega)).mono ?_
  rintro e w4 ⟨rfl, h4, hb4⟩
  have H4 := hide (And.intro h4 (H3.out.2.trans (hb4.mono H1.out.size)))
  clear h4 hb4
  go_wp2_with fail
  go_loopw [7] (fun i wq => ∃ k : Nat, i = .int .i64 k ∧ k ≤ q + 3 ∧ Hid (∃ st, Fs wq w1.heap.size (w1.heap.size + 2) st ∧ DInv q k st ∧ Below w.heap.size w wq)) (fun i _ => q + 3 - (intOf i).toNat)
  case atStart => exact ⟨0, rfl, by omega, hide ⟨_, ⟨_, H4.out.1⟩, DInv.start q, H4.out.2⟩⟩
  case round =>
    obtain ⟨k, rfl, hk, HQ⟩ := hrel
    obtain ⟨st, hst, hi, hb⟩ := HQ.out
    by_cases hlt : (k : Int) < (q : Int) + 3
    · have hkq : k ≤ 42 := by have := H.out.2; omega
      have hu := hi.used
      have hg := hi.get
      have hs := hi.1
      have hrm := hi.2.2.2.1
      obtain ⟨f, hf, hfl⟩ := hi.file
      have hrb := H.out.1.below hb
      have HU := hide (And.intro hst (And.intro hi (And.intro hb (And.intro hg (And.intro hs (And.intro hrm (And.intro hf (And.intro hfl (And.intro hkq hu)))))))))
      clear hst hi hb hg hs hrm hf hfl hkq hu HQ
      by_cases hkm : k < m
      · obtain ⟨b0, o0, x, hA, _, hx, hcell⟩ := hrb.at_ hkm
        have hkm1 : (k : Int) < (m : Int) := by omega
        obtain ⟨r, r1, r2, r3⟩ : ∃ r : Nat, (x.toNat : Int) % 3 = (r : Int) ∧ (x.toNat : Int).tmod 3 = (r : Int) ∧ r < 3 := ⟨x.toNat % 3, by omega, by rw [Int.tmod_eq_emod_of_nonneg (by omega)]; omega, by omega⟩
        rw [hA]
        clear hkm hA hx hrb
        have hr3 : r = 0 ∨ r = 1 ∨ r = 2 := by omega
        clear r3
        rcases hr3 with rfl | rfl | rfl
        · by_cases hlive : (k : Int) < (q : Int)
          · have HK := hide (show k < q by omega)
            have hx : Below wr.heap.size wr (wr.alloc (.cells (u8s [7]).toArray 5)) := (Below.refl _ _).alloc (Nat.le_refl _) _
            have HX := hide (And.intro (HU.out.1.below hx) (HU.out.2.2.1.trans (hx.mono (HU.out.2.2.1.size))))
            clear hx
            go_wp2_with fail
            refine (append_ok (d := 1) (k := [97]) (i := 0) (f := f) HX.out.1 (by decide) (by decide) HU.out.2.2.2.1 HU.out.2.2.2.2.2.2.1 (by have := HU.out; show f.1.length + 1 ≤ 65536; omega) (by have := HU.out; omega) (by rw [HU.out.2.2.2.2.2.1]; decide) (by rw [HU.out.2.2.2.2.2.1]; decide) (HU.out.2.1.ne HK.out) (by have := HU.out; omega) (by rw [HU.out.2.2.2.2.2.1]; have := HU.out; show (st.used : Int) + ((1 : Nat) : Int) ≤ 1000; omega) (Rb.lit wr [7] 5 (0, 0)) (by simp)).mono ?_
            rintro e w5 ⟨rfl, h5, hb5⟩
            have HR : Hid (∃ st2, Fs w5 w1.heap.size (w1.heap.size + 2) st2 ∧ DInv q (k + 1) st2 ∧ Below w.heap.size w w5) := hide ⟨(st.append 0 [7]), h5, (HU.out.2.1.append HK.out), (HX.out.2.trans (hb5.mono H1.out.size))⟩
            clear h5 hb5
            go_wp2_with fail
            go_roundw
            case rel => exact ⟨k + 1, by go_num, by omega, HR⟩
            case measure => simp [intOf]; omega
          · have HK := hide (HU.out.2.1.dead (show q ≤ k by omega))
            have hx : Below wr.heap.size wr (wr.alloc (.cells (u8s [7]).toArray 5)) := (Below.refl _ _).alloc (Nat.le_refl _) _
            have HX := hide (And.intro (HU.out.1.below hx) (HU.out.2.2.1.trans (hx.mono (HU.out.2.2.1.size))))
            clear hx
            go_wp2_with fail
            refine (append_dead (d := 1) (k := [97]) (i := 0) (f := f) HX.out.1 (by decide) (by decide) HU.out.2.2.2.1 HU.out.2.2.2.2.2.2.1 (by have := HU.out; show f.1.length + 1 ≤ 65536; omega) (by have := HU.out; omega) (by rw [HU.out.2.2.2.2.2.1]; decide) (by rw [HU.out.2.2.2.2.2.1]; decide) HK.out.2).mono ?_
            rintro e w5 ⟨rfl, h5, hb5⟩
            have HR : Hid (∃ st2, Fs w5 w1.heap.size (w1.heap.size + 2) st2 ∧ DInv q (k + 1) st2 ∧ Below w.heap.size w w5) := hide ⟨st, h5, HK.out.1, (HX.out.2.trans (hb5.mono H1.out.size))⟩
            clear h5 hb5
            go_wp2_with fail
            go_roundw
            case rel => exact ⟨k + 1, by go_num, by omega, HR⟩
            case measure => simp [intOf]; omega
        · by_cases hlive : (k : Int) < (q : Int)
          · have HK := hide (show k < q by omega)
            go_wp2_with fail
            refine (sync_ok (k := [97]) (i := 0) HU.out.1 (by decide) (by decide) HU.out.2.2.2.1 (by have := HU.out; omega) (HU.out.2.1.ne HK.out)).mono ?_
            rintro e w5 ⟨rfl, h5, hb5⟩
            have HR : Hid (∃ st2, Fs w5 w1.heap.size (w1.heap.size + 2) st2 ∧ DInv q (k + 1) st2 ∧ Below w.heap.size w w5) := hide ⟨(st.sync 0), h5, (HU.out.2.1.sync HK.out), (HU.out.2.2.1.trans (hb5.mono H1.out.size))⟩
            clear h5 hb5
            go_wp2_with fail
            go_roundw
            case rel => exact ⟨k + 1, by go_num, by omega, HR⟩
            case measure => simp [intOf]; omega
          · have HK := hide (HU.out.2.1.dead (show q ≤ k by omega))
            go_wp2_with fail
            refine (sync_dead (k := [97]) (i := 0) HU.out.1 (by decide) (by decide) HU.out.2.2.2.1 HK.out.2).mono ?_
            rintro e w5 ⟨rfl, h5, hb5⟩
            have HR : Hid (∃ st2, Fs w5 w1.heap.size (w1.heap.size + 2) st2 ∧ DInv q (k + 1) st2 ∧ Below w.heap.size w w5) := hide ⟨st, h5, HK.out.1, (HU.out.2.2.1.trans (hb5.mono H1.out.size))⟩
            clear h5 hb5
            go_wp2_with fail
            go_roundw
            case rel => exact ⟨k + 1, by go_num, by omega, HR⟩
            case measure => simp [intOf]; omega
        · by_cases hlive : (k : Int) < (q : Int)
          · have HK := hide (show k < q by omega)
            go_wp2_with fail
            refine (syncdir_ok HU.out.1 (by have := HU.out; omega) (HU.out.2.1.ne HK.out)).mono ?_
            rintro e w5 ⟨rfl, h5, hb5⟩
            have HR : Hid (∃ st2, Fs w5 w1.heap.size (w1.heap.size + 2) st2 ∧ DInv q (k + 1) st2 ∧ Below w.heap.size w w5) := hide ⟨st.syncDir, h5, (HU.out.2.1.syncDir HK.out), (HU.out.2.2.1.trans (hb5.mono H1.out.size))⟩
            clear h5 hb5
            go_wp2_with fail
            go_roundw
            case rel => exact ⟨k + 1, by go_num, by omega, HR⟩
            case measure => simp [intOf]; omega
          · have HK := hide (HU.out.2.1.dead (show q ≤ k by omega))
            go_wp2_with fail
            refine (syncdir_dead HU.out.1 HK.out.2).mono ?_
            rintro e w5 ⟨rfl, h5, hb5⟩
            have HR : Hid (∃ st2, Fs w5 w1.heap.size (w1.heap.size + 2) st2 ∧ DInv q (k + 1) st2 ∧ Below w.heap.size w w5) := hide ⟨st, h5, HK.out.1, (HU.out.2.2.1.trans (hb5.mono H1.out.size))⟩
            clear h5 hb5
            go_wp2_with fail
            go_roundw
            case rel => exact ⟨k + 1, by go_num, by omega, HR⟩
            case measure => simp [intOf]; omega
      · have hkm1 : (m : Int) ≤ (k : Int) := by omega
        clear hkm hrb
        by_cases hlive : (k : Int) < (q : Int)
        · have HK := hide (show k < q by omega)
          have hx : Below wr.heap.size wr (wr.alloc (.cells (u8s [7]).toArray 5)) := (Below.refl _ _).alloc (Nat.le_refl _) _
          have HX := hide (And.intro (HU.out.1.below hx) (HU.out.2.2.1.trans (hx.mono (HU.out.2.2.1.size))))
          clear hx
          go_wp2_with fail
          refine (append_ok (d := 1) (k := [97]) (i := 0) (f := f) HX.out.1 (by decide) (by decide) HU.out.2.2.2.1 HU.out.2.2.2.2.2.2.1 (by have := HU.out; show f.1.length + 1 ≤ 65536; omega) (by have := HU.out; omega) (by rw [HU.out.2.2.2.2.2.1]; decide) (by rw [HU.out.2.2.2.2.2.1]; decide) (HU.out.2.1.ne HK.out) (by have := HU.out; omega) (by rw [HU.out.2.2.2.2.2.1]; have := HU.out; show (st.used : Int) + ((1 : Nat) : Int) ≤ 1000; omega) (Rb.lit wr [7] 5 (0, 0)) (by simp)).mono ?_
          rintro e w5 ⟨rfl, h5, hb5⟩
          have HR : Hid (∃ st2, Fs w5 w1.heap.size (w1.heap.size + 2) st2 ∧ DInv q (k + 1) st2 ∧ Below w.heap.size w w5) := hide ⟨(st.append 0 [7]), h5, (HU.out.2.1.append HK.out), (HX.out.2.trans (hb5.mono H1.out.size))⟩
          clear h5 hb5
          go_wp2_with fail
          go_roundw
          case rel => exact ⟨k + 1, by go_num, by omega, HR⟩
          case measure => simp [intOf]; omega
        · have HK := hide (HU.out.2.1.dead (show q ≤ k by omega))
          have hx : Below wr.heap.size wr (wr.alloc (.cells (u8s [7]).toArray 5)) := (Below.refl _ _).alloc (Nat.le_refl _) _
          have HX := hide (And.intro (HU.out.1.below hx) (HU.out.2.2.1.trans (hx.mono (HU.out.2.2.1.size))))
          clear hx
          go_wp2_with fail
          refine (append_dead (d := 1) (k := [97]) (i := 0) (f := f) HX.out.1 (by decide) (by decide) HU.out.2.2.2.1 HU.out.2.2.2.2.2.2.1 (by have := HU.out; show f.1.length + 1 ≤ 65536; omega) (by have := HU.out; omega) (by rw [HU.out.2.2.2.2.2.1]; decide) (by rw [HU.out.2.2.2.2.2.1]; decide) HK.out.2).mono ?_
          rintro e w5 ⟨rfl, h5, hb5⟩
          have HR : Hid (∃ st2, Fs w5 w1.heap.size (w1.heap.size + 2) st2 ∧ DInv q (k + 1) st2 ∧ Below w.heap.size w w5) := hide ⟨st, h5, HK.out.1, (HX.out.2.trans (hb5.mono H1.out.size))⟩
          clear h5 hb5
          go_wp2_with fail
          go_roundw
          case rel => exact ⟨k + 1, by go_num, by omega, HR⟩
          case measure => simp [intOf]; omega
    · have hkk : k = q + 3 := by omega
      subst hkk
      have h0 : st.left = 0 := by rw [hi.2.1]; omega
      have hs : st.steps = q + 1 := by rw [hi.1]; omega
      have hg := hi.get
      have hnb : dget st.dir [98] = none := by rw [hi.2.2.1]; rfl
      have hdl : st.dir.length < 64 := by rw [hi.2.2.1]; decide
      obtain ⟨f, hf, hfl⟩ := hi.file
      have hfl2 : f.1.length ≤ 1000000000 := by have := H.out.2; omega
      have HU := hide (And.intro hst (And.intro hb (And.intro h0 (And.intro hs (And.intro hg (And.intro hnb (And.intro hdl (And.intro hf hfl2))))))))
      clear hst hi hb h0 hs hg hnb hdl hf hfl hfl2 HQ
      go_wp2_with fail
      refine (read_ok (k := [97]) (i := 0) (f := f) HU.out.1 (by decide) (by decide) HU.out.2.2.2.2.1 HU.out.2.2.2.2.2.2.2.1 HU.out.2.2.2.2.2.2.2.2).mono ?_
      rintro e w5 ⟨A5, c5, rfl, _, ⟨X5, h5⟩, hb5⟩
      have H5 := hide (And.intro h5 (HU.out.2.1.trans (hb5.mono HU.out.2.1.size)))
      clear h5 hb5
      go_wp2_with fail
      refine (steps_any H5.out.1).mono ?_
      rintro e w6 ⟨rfl, rfl⟩
      rw [HU.out.2.2.2.1]
      go_wp2_with fail
      refine (arm_dead (n := 3) H5.out.1 HU.out.2.2.1 (by omega)).mono ?_
      rintro e w6 ⟨rfl, rfl⟩
      go_wp2_with fail
      refine (create_dead (k := [98]) ⟨X5, H5.out.1⟩ (by decide) (by decide) HU.out.2.2.2.2.2.1 HU.out.2.2.2.2.2.2.1 HU.out.2.2.1).mono ?_
      rintro e w7 ⟨rfl, h7, hb7⟩
      have H7 := hide (And.intro h7 (H5.out.2.trans (hb7.mono H1.out.size)))
      clear h7 hb7
      go_wp2_with fail
      refine (rename_dead (k := [97]) (to := [98]) (i := 0) H7.out.1 (by decide) (by decide) (by decide) (by decide) HU.out.2.2.2.2.1 HU.out.2.2.1).mono ?_
      rintro e w8 ⟨rfl, h8, hb8⟩
      have H8 := hide (And.intro h8 (H7.out.2.trans (hb8.mono H1.out.size)))
      clear h8 hb8
      go_wp2_with fail
      refine (remove_dead (k := [97]) (i := 0) H8.out.1 (by decide) (by decide) HU.out.2.2.2.2.1 HU.out.2.2.1).mono ?_
      rintro e w9 ⟨rfl, h9, hb9⟩
      have H9 := hide (H8.out.2.trans (hb9.mono H1.out.size))
      clear h9 hb9
      go_wp2_with fail
      go_ret
      exact ⟨rfl, H9.out⟩
end Go.Proofs.Ytlnmjkilefnjpaa
