/-
  The walk of the law of the room.
-/
import Derived.Test.YtlnmjkilefnjpaaFullLaw
import Derived.IntWalk
namespace Go.Proofs.Ytlnmjkilefnjpaa
open Go.RowKit Go.Maps

theorem run_make_bytes (w : World) (m : Nat) (hm : m ≤ 1000) : (Instr.makeSlice 29 (.int .i64 (m : Int)) (.int .i64 (m : Int))).run Try.prog w = .ok (.slice (some ⟨w.heap.size, 0, none⟩) m m) (w.alloc (.cells (u8s (List.replicate m 0)).toArray 5)) := by
  obtain ⟨i, hi, hz, hs, hb⟩ : ∃ i, Try.prog.info? 5 = some i ∧ i.zero = some (.int .u8 0) ∧ i.size = 1 ∧ i.bytes = 1 := ⟨_, rfl, rfl, rfl, rfl⟩
  have h := run_makeSlice (P := Try.prog) w 29 5 i (.int .u8 0) Try.underlying29 hi hz .i64 .i64 (m : Int) (m : Int) (by omega) (Int.le_refl _) (by rw [hs]; omega) (by rw [hb]; omega) (by omega)
  rw [h, hs, Int.toNat_natCast, Nat.mul_one]
  have e : madeCells (Value.int .u8 0).cells m = (u8s (List.replicate m 0)).toArray := by
    rw [← Array.toList_inj]
    refine (toList_madeCells_one (.int .u8 0) m).trans ?_
    simp [u8s]
  rw [e]
set_option maxRecDepth 100000 in
set_option maxHeartbeats 12800000 in
theorem full_some {w : World} {B m : Nat} {ad : Addr} {l : List Int} (n : Int) (c : Nat) (hr : Ri w B (some ad) m l) (hB : B ≤ w.heap.size) (hm : m ≤ maxLen) :
    Calls Try.prog 3 #[.int .i64 n, .slice (some ad) m c] w fun e w' => e = .returned (.bool true) ∧ Below w.heap.size w w' := by
  have hm1 : (m : Int) ≤ 9223372036854775807 := by unfold maxLen at hm; omega
  obtain ⟨u0, hu0⟩ : ∃ u0 : Nat, IntKind.u64.wrap n = (u0 : Int) := ⟨(IntKind.u64.wrap n).toNat, by rw [IntKind.wrap_u64]; omega⟩
  obtain ⟨q, p1, p2, p3⟩ : ∃ q : Nat, (u0 : Int) % 3000 = (q : Int) ∧ (u0 : Int).tmod 3000 = (q : Int) ∧ q < 3000 := ⟨u0 % 3000, by omega, by rw [Int.tmod_eq_emod_of_nonneg (by omega)]; omega, by omega⟩
  have p4 : (q : Int) < 3000 := by omega
  have p5 : IntKind.i64.wrap (q : Int) = (q : Int) := IntWalk.i64_in _ (by omega)
  have H := hide (And.intro (Rd.more hr hB) p3)
  clear hr hB hm p3
  go_enter Try.func3, Try.ntmps3
  go_wp2_with fail
  refine (awake_any _).mono ?_
  rintro e w1 ⟨rfl, hb1⟩
  have H1 := hide hb1
  clear hb1
  go_wp2_with fail
  clear hu0 p1 p2 p5
  have hqe : (q : Int) + 1 = ((q + 1 : Nat) : Int) := by omega
  rw [hqe]
  obtain ⟨R, hR⟩ : ∃ R, R = q + 1 := ⟨_, rfl⟩
  rw [← hR]
  have r1 : (1 : Int) ≤ (R : Int) := by omega
  have r2 : (R : Int) ≤ 3000 := by omega
  clear hqe hR p4
  refine (new_any (R : Int) _ r1 (by omega)).mono ?_
  rintro e w2 ⟨rfl, h2, hb2⟩
  have H2 := hide (And.intro h2 (H1.out.trans (hb2.mono H1.out.size)))
  clear h2 hb2
  unfold ptr
  go_wp2_with fail
  go_loopw [7, 8] (fun uu i wq => ∃ u k : Nat, uu = .int .i64 u ∧ i = .int .i64 k ∧ k ≤ 70 ∧ u ≤ R ∧ Hid (∃ st s, Fs wq w1.heap.size (w1.heap.size + 2) st ∧ FInv R (min k 64) u s st ∧ s ≤ 2 * k ∧ Below w.heap.size w wq)) (fun _ i _ => 70 - (intOf i).toNat)
  case atStart => exact ⟨0, 0, rfl, rfl, by omega, by omega, hide ⟨_, 0, H2.out.1, FInv.start R, by omega, H2.out.2⟩⟩
  case round =>
    obtain ⟨u, k, rfl, rfl, hk, huR, HQ⟩ := hrel
    obtain ⟨st, s, hst, hi, hs, hb⟩ := HQ.out
    by_cases hlt : k < 70
    · have hlt1 : (k : Int) < 70 := by omega
      have hk0 : (0 : Int) ≤ (k : Int) := by omega
      have hb8 : ∀ x : Nat, x < 70 → ((UInt8.ofNat (97 + x)).toNat : Int) = 97 + (x : Int) := by
        intro x hx
        rw [UInt8.toNat_ofNat', Nat.mod_eq_of_lt (by omega)]
        omega
      obtain ⟨b1, hb1⟩ : ∃ b1, b1 = UInt8.ofNat (97 + k % 10) := ⟨_, rfl⟩
      obtain ⟨b2, hb2⟩ : ∃ b2, b2 = UInt8.ofNat (97 + k / 10) := ⟨_, rfl⟩
      obtain ⟨N, hN⟩ : ∃ N, N = nm k := ⟨_, rfl⟩
      have hnm : ((⟨#[102]⟩ : ByteArray) ++ ⟨#[b1, b2]⟩) = ⟨N.toArray⟩ := by rw [hb1, hb2, hN]; rfl
      have hrb : Rb (wr.alloc (.cells #[.int .u8 (97 + (k : Int) % 10), .int .u8 (97 + (k : Int) / 10)] 5)) (wr.heap.size + 1) (some ⟨wr.heap.size, 0, none⟩) 2 [b1, b2] := by
        have h := Rb.lit wr [b1, b2] 5 (0, 0)
        have e : u8s [b1, b2] = [.int .u8 (97 + (k : Int) % 10), .int .u8 (97 + (k : Int) / 10)] := by
          show [Value.int .u8 _, Value.int .u8 _] = _
          rw [hb1, hb2, hb8 (k % 10) (by omega), hb8 (k / 10) (by omega)]
          simp
        rw [e] at h
        exact h
      have hgd : good N = true := by rw [hN]; exact nm_good k hlt
      have hNl : N.length ≤ 1000000 := by rw [hN]; exact Nat.le_of_ble_eq_true rfl
      obtain ⟨wx, hwx⟩ : ∃ wx, wx = wr.alloc (.cells #[.int .u8 (97 + (k : Int) % 10), .int .u8 (97 + (k : Int) / 10)] 5) := ⟨_, rfl⟩
      have hxb : Below wr.heap.size wr wx := by rw [hwx]; exact (Below.refl _ _).alloc (Nat.le_refl _) _
      have hst2 := hst.below hxb
      have hbx := hb.trans (hxb.mono hb.size)
      have hlen := hi.len
      have HB := hide hrb
      have HN := hide (And.intro hnm (And.intro hN (And.intro hgd hNl)))
      have HS := hide (And.intro hst2 (And.intro hi (And.intro hs (And.intro hbx hlen))))
      have HWX := hide hwx
      clear hst hi hs hb hb8 hrb hb1 hb2 hN hgd hNl hxb hst2 hbx hlen hwx HQ hnm
      go_wp2_with ((with_reducible show wpList _ _ _ ({ dst := some 43, op := .convert 29 9 _, type := _, pos := _, after := _, guard := _ } :: _) _ _); refine wpList_bytes_string_g Try.underlying29 Try.underlying5 Try.underlying9 rfl rfl HB.out ?_)
      rw [HN.out.1, ← HWX.out]
      by_cases hk64 : k < 64
      · have hmin : min k 64 = k := by omega
        have hi1 : FInv R k u s st := by have := HS.out.2.1; rw [hmin] at this; exact this
        have hmin2 : min (k + 1) 64 = k + 1 := by omega
        have hcr := hi1.create hk64
        rw [← HN.out.2.1] at hcr
        have hlt64 : (k : Int) < 64 := by omega
        have HI := hide (And.intro hi1 (And.intro hcr hmin2))
        clear hmin hi1 hcr hmin2
        refine (create_ok (k := N) HS.out.1 HN.out.2.2.2 HN.out.2.2.1 (by rw [HN.out.2.1]; exact HI.out.1.not (Nat.le_refl _) hlt) (by rw [HI.out.1.len]; exact hk64) (by rw [HI.out.1.1]; decide) (by have := HI.out.1.2.2.1; have := HS.out.2.2.1; omega) (by rw [HI.out.1.2.2.2.1]; omega) (by rw [HI.out.1.2.2.2.2.1]; omega)).mono ?_
        rintro e w5 ⟨rfl, h5, hb5⟩
        have H5 := hide (And.intro h5 (HS.out.2.2.2.1.trans (hb5.mono H1.out.size)))
        clear h5 hb5
        by_cases hkm : (k : Int) < (m : Int)
        · have hrd := H.out.1.below (H5.out.2)
          have hll : l.length = m := by have := Rd.len hrd; simpa using this
          obtain ⟨zz, hzz⟩ : ∃ zz, l[k]? = some zz := ⟨_, List.getElem?_eq_getElem (by omega)⟩
          have hcell := Rd.adds hrd k (.int .i64 zz) (by rw [List.getElem?_map, hzz]; rfl)
          clear hll hzz
          obtain ⟨v0, hv0⟩ : ∃ v0 : Nat, IntKind.u64.wrap zz = (v0 : Int) := ⟨(IntKind.u64.wrap zz).toNat, by rw [IntKind.wrap_u64]; omega⟩
          obtain ⟨a, a1, a2, a3⟩ : ∃ a : Nat, (v0 : Int) % 200 = (a : Int) ∧ (v0 : Int).tmod 200 = (a : Int) ∧ a < 200 := ⟨v0 % 200, by omega, by rw [Int.tmod_eq_emod_of_nonneg (by omega)]; omega, by omega⟩
          have a4 : IntKind.i64.wrap (a : Int) = (a : Int) := IntWalk.i64_in _ (by omega)
          have a5 : (a : Int) < 200 := by omega
          have hmk := run_make_bytes w5 a (by omega)
          clear hrd
          go_wp2_with fail
          have hx5 : Below w5.heap.size w5 (w5.alloc (.cells (u8s (List.replicate a 0)).toArray 5)) := (Below.refl _ _).alloc (Nat.le_refl _) _
          have h5x := H5.out.1.below hx5
          have hb5x := H5.out.2.trans (hx5.mono H5.out.2.size)
          have hdg : dget (st.create N).dir N = some k := by
            obtain ⟨X5, h5⟩ := H5.out.1
            have := HI.out.2.1.1.get (j := k) h5.dir.srt (Nat.lt_succ_self k)
            rw [← HN.out.2.1] at this
            exact this
          have hus : (st.create N).used = u := HI.out.2.1.1.used
          have hroom : (st.create N).room = (R : Int) := HI.out.2.1.1.2.1
          have hleft : (st.create N).left ≠ 0 := by rw [HI.out.2.1.1.1]; decide
          have hsteps : (st.create N).steps ≤ 1000000000 := by have := HI.out.2.1.1.2.2.1; have := HS.out.2.2.1; omega
          have hrl := Rb.lit w5 (List.replicate a 0) 5 (0, 0)
          rw [List.length_replicate] at hrl
          have HX := hide (And.intro h5x (And.intro hb5x (And.intro hdg (And.intro hus (And.intro hroom (And.intro hleft (And.intro hsteps hrl)))))))
          clear hx5 h5x hb5x hdg hus hroom hleft hsteps hrl hmk hv0 a1 a2 a4 hcell
          by_cases hsp : (u : Int) + (a : Int) ≤ (R : Int)
          · refine (append_ok (d := a) (k := N) (i := k) (f := ([], 0)) (l := List.replicate a 0) HX.out.1 HN.out.2.2.2 HN.out.2.2.1 HX.out.2.2.1 HI.out.2.1.2 (by show 0 + a ≤ 65536; omega) (by rw [HX.out.2.2.2.1]; omega) (by rw [HX.out.2.2.2.2.1]; omega) (by rw [HX.out.2.2.2.2.1]; omega) HX.out.2.2.2.2.2.1 HX.out.2.2.2.2.2.2.1 (by rw [HX.out.2.2.2.1, HX.out.2.2.2.2.1]; exact hsp) HX.out.2.2.2.2.2.2.2 (by simp)).mono ?_
            rintro e w6 ⟨rfl, h6, hb6⟩
            have hfi := HI.out.2.1.1.append (b := List.replicate a 0) HI.out.2.1.2
            rw [List.length_replicate] at hfi
            have H6 := hide (And.intro h6 (HX.out.2.1.trans (hb6.mono H1.out.size)))
            have HFI := hide hfi
            clear h6 hb6 hfi
            go_wp2_with fail
            go_roundw
            case rel => exact ⟨u + a, k + 1, by go_num, by go_num, by omega, by omega, hide ⟨(st.create N).append k (List.replicate a 0), s + 1 + 1, H6.out.1, by rw [HI.out.2.2]; exact HFI.out, by have := HS.out.2.2.1; omega, H6.out.2⟩⟩
            case measure => simp [intOf]; omega
          · refine (append_space (d := a) (m := a) (k := N) (i := k) (f := ([], 0)) HX.out.1 HN.out.2.2.2 HN.out.2.2.1 HX.out.2.2.1 HI.out.2.1.2 (by show 0 + a ≤ 65536; omega) (by rw [HX.out.2.2.2.1]; omega) (by rw [HX.out.2.2.2.2.1]; omega) (by rw [HX.out.2.2.2.2.1]; omega) HX.out.2.2.2.2.2.1 HX.out.2.2.2.2.2.2.1 (by rw [HX.out.2.2.2.1, HX.out.2.2.2.2.1]; omega)).mono ?_
            rintro e w6 ⟨rfl, h6, hb6⟩
            have hfi := HI.out.2.1.1.step
            have H6 := hide (And.intro h6 (HX.out.2.1.trans (hb6.mono H1.out.size)))
            have HFI := hide hfi
            clear h6 hb6 hfi
            go_wp2_with fail
            go_roundw
            case rel => exact ⟨u, k + 1, by go_num, by go_num, by omega, by omega, hide ⟨(st.create N).step, s + 1 + 1, H6.out.1, by rw [HI.out.2.2]; exact HFI.out, by have := HS.out.2.2.1; omega, H6.out.2⟩⟩
            case measure => simp [intOf]; omega
        · go_wp2_with fail
          go_roundw
          case rel => exact ⟨u, k + 1, by go_num, by go_num, by omega, by omega, hide ⟨st.create N, s + 1, H5.out.1, by rw [HI.out.2.2]; exact HI.out.2.1.1, by have := HS.out.2.2.1; omega, H5.out.2⟩⟩
          case measure => simp [intOf]; omega
      · have hmin : min k 64 = 64 := by omega
        have hmin2 : min (k + 1) 64 = 64 := by omega
        have hi1 : FInv R 64 u s st := by have := HS.out.2.1; rw [hmin] at this; exact this
        have hge64 : (64 : Int) ≤ (k : Int) := by omega
        have HI := hide (And.intro hi1 hmin2)
        clear hmin hi1 hmin2
        refine (create_full (k := N) HS.out.1 HN.out.2.2.2 HN.out.2.2.1 (by rw [HN.out.2.1]; exact HI.out.1.not (by omega) hlt) (by rw [HI.out.1.len]; exact Nat.le_refl _)).mono ?_
        rintro e w5 ⟨rfl, h5, hb5⟩
        have H5 := hide (And.intro h5 (HS.out.2.2.2.1.trans (hb5.mono H1.out.size)))
        clear h5 hb5
        go_wp2_with fail
        go_roundw
        case rel => exact ⟨u, k + 1, by go_num, by go_num, by omega, by omega, hide ⟨st, s, H5.out.1, by rw [HI.out.2]; exact HI.out.1, by have := HS.out.2.2.1; omega, H5.out.2⟩⟩
        case measure => simp [intOf]; omega
    · have hkk : k = 70 := by omega
      subst hkk
      have hi1 : FInv R 64 u s st := hi
      have HU := hide (And.intro hst (And.intro hi1 hb))
      clear hst hi hs hb hi1 HQ
      obtain ⟨X5, h5⟩ := HU.out.1
      have H5 := hide h5
      clear h5
      go_wp2_with fail
      have hus := HU.out.2.1.used
      have hcu := used_any H5.out (by rw [hus]; omega)
      rw [hus] at hcu
      refine hcu.mono ?_
      rintro e w6 ⟨rfl, h6, hb6⟩
      have H6 := hide (And.intro h6 (HU.out.2.2.trans (hb6.mono HU.out.2.2.size)))
      clear h6 hb6 hcu hus
      go_wp2_with fail
      have hlen := HU.out.2.1.len
      have hcl := list_fs ⟨X5, H6.out.1⟩ (by rw [hlen]; decide)
      rw [hlen] at hcl
      refine hcl.mono ?_
      rintro e w7 ⟨A7, c7, rfl, _, hb7⟩
      have H7 := hide (H6.out.2.trans (hb7.mono H6.out.2.size))
      clear hb7 hcl hlen
      go_wp2_with fail
      go_ret
      exact ⟨rfl, H7.out⟩
set_option maxRecDepth 100000 in
set_option maxHeartbeats 12800000 in
theorem full_none {w : World} (n : Int) (c : Nat) :
    Calls Try.prog 3 #[.int .i64 n, .slice none 0 c] w fun e w' => e = .returned (.bool true) ∧ Below w.heap.size w w' := by
  obtain ⟨u0, hu0⟩ : ∃ u0 : Nat, IntKind.u64.wrap n = (u0 : Int) := ⟨(IntKind.u64.wrap n).toNat, by rw [IntKind.wrap_u64]; omega⟩
  obtain ⟨q, p1, p2, p3⟩ : ∃ q : Nat, (u0 : Int) % 3000 = (q : Int) ∧ (u0 : Int).tmod 3000 = (q : Int) ∧ q < 3000 := ⟨u0 % 3000, by omega, by rw [Int.tmod_eq_emod_of_nonneg (by omega)]; omega, by omega⟩
  have p4 : (q : Int) < 3000 := by omega
  have p5 : IntKind.i64.wrap (q : Int) = (q : Int) := IntWalk.i64_in _ (by omega)
  clear p3
  go_enter Try.func3, Try.ntmps3
  go_wp2_with fail
  refine (awake_any _).mono ?_
  rintro e w1 ⟨rfl, hb1⟩
  have H1 := hide hb1
  clear hb1
  go_wp2_with fail
  clear hu0 p1 p2 p5
  have hqe : (q : Int) + 1 = ((q + 1 : Nat) : Int) := by omega
  rw [hqe]
  obtain ⟨R, hR⟩ : ∃ R, R = q + 1 := ⟨_, rfl⟩
  rw [← hR]
  have r1 : (1 : Int) ≤ (R : Int) := by omega
  have r2 : (R : Int) ≤ 3000 := by omega
  clear hqe hR p4
  refine (new_any (R : Int) _ r1 (by omega)).mono ?_
  rintro e w2 ⟨rfl, h2, hb2⟩
  have H2 := hide (And.intro h2 (H1.out.trans (hb2.mono H1.out.size)))
  clear h2 hb2
  unfold ptr
  go_wp2_with fail
  go_loopw [7, 8] (fun uu i wq => ∃ u k : Nat, uu = .int .i64 u ∧ i = .int .i64 k ∧ k ≤ 70 ∧ u ≤ R ∧ Hid (∃ st s, Fs wq w1.heap.size (w1.heap.size + 2) st ∧ FInv R (min k 64) u s st ∧ s ≤ 2 * k ∧ Below w.heap.size w wq)) (fun _ i _ => 70 - (intOf i).toNat)
  case atStart => exact ⟨0, 0, rfl, rfl, by omega, by omega, hide ⟨_, 0, H2.out.1, FInv.start R, by omega, H2.out.2⟩⟩
  case round =>
    obtain ⟨u, k, rfl, rfl, hk, huR, HQ⟩ := hrel
    obtain ⟨st, s, hst, hi, hs, hb⟩ := HQ.out
    by_cases hlt : k < 70
    · have hlt1 : (k : Int) < 70 := by omega
      have hk0 : (0 : Int) ≤ (k : Int) := by omega
      have hb8 : ∀ x : Nat, x < 70 → ((UInt8.ofNat (97 + x)).toNat : Int) = 97 + (x : Int) := by
        intro x hx
        rw [UInt8.toNat_ofNat', Nat.mod_eq_of_lt (by omega)]
        omega
      obtain ⟨b1, hb1⟩ : ∃ b1, b1 = UInt8.ofNat (97 + k % 10) := ⟨_, rfl⟩
      obtain ⟨b2, hb2⟩ : ∃ b2, b2 = UInt8.ofNat (97 + k / 10) := ⟨_, rfl⟩
      obtain ⟨N, hN⟩ : ∃ N, N = nm k := ⟨_, rfl⟩
      have hnm : ((⟨#[102]⟩ : ByteArray) ++ ⟨#[b1, b2]⟩) = ⟨N.toArray⟩ := by rw [hb1, hb2, hN]; rfl
      have hrb : Rb (wr.alloc (.cells #[.int .u8 (97 + (k : Int) % 10), .int .u8 (97 + (k : Int) / 10)] 5)) (wr.heap.size + 1) (some ⟨wr.heap.size, 0, none⟩) 2 [b1, b2] := by
        have h := Rb.lit wr [b1, b2] 5 (0, 0)
        have e : u8s [b1, b2] = [.int .u8 (97 + (k : Int) % 10), .int .u8 (97 + (k : Int) / 10)] := by
          show [Value.int .u8 _, Value.int .u8 _] = _
          rw [hb1, hb2, hb8 (k % 10) (by omega), hb8 (k / 10) (by omega)]
          simp
        rw [e] at h
        exact h
      have hgd : good N = true := by rw [hN]; exact nm_good k hlt
      have hNl : N.length ≤ 1000000 := by rw [hN]; exact Nat.le_of_ble_eq_true rfl
      obtain ⟨wx, hwx⟩ : ∃ wx, wx = wr.alloc (.cells #[.int .u8 (97 + (k : Int) % 10), .int .u8 (97 + (k : Int) / 10)] 5) := ⟨_, rfl⟩
      have hxb : Below wr.heap.size wr wx := by rw [hwx]; exact (Below.refl _ _).alloc (Nat.le_refl _) _
      have hst2 := hst.below hxb
      have hbx := hb.trans (hxb.mono hb.size)
      have hlen := hi.len
      have HB := hide hrb
      have HN := hide (And.intro hnm (And.intro hN (And.intro hgd hNl)))
      have HS := hide (And.intro hst2 (And.intro hi (And.intro hs (And.intro hbx hlen))))
      have HWX := hide hwx
      clear hst hi hs hb hb8 hrb hb1 hb2 hN hgd hNl hxb hst2 hbx hlen hwx HQ hnm
      go_wp2_with ((with_reducible show wpList _ _ _ ({ dst := some 43, op := .convert 29 9 _, type := _, pos := _, after := _, guard := _ } :: _) _ _); refine wpList_bytes_string_g Try.underlying29 Try.underlying5 Try.underlying9 rfl rfl HB.out ?_)
      rw [HN.out.1, ← HWX.out]
      by_cases hk64 : k < 64
      · have hmin : min k 64 = k := by omega
        have hi1 : FInv R k u s st := by have := HS.out.2.1; rw [hmin] at this; exact this
        have hmin2 : min (k + 1) 64 = k + 1 := by omega
        have hcr := hi1.create hk64
        rw [← HN.out.2.1] at hcr
        have hlt64 : (k : Int) < 64 := by omega
        have HI := hide (And.intro hi1 (And.intro hcr hmin2))
        clear hmin hi1 hcr hmin2
        refine (create_ok (k := N) HS.out.1 HN.out.2.2.2 HN.out.2.2.1 (by rw [HN.out.2.1]; exact HI.out.1.not (Nat.le_refl _) hlt) (by rw [HI.out.1.len]; exact hk64) (by rw [HI.out.1.1]; decide) (by have := HI.out.1.2.2.1; have := HS.out.2.2.1; omega) (by rw [HI.out.1.2.2.2.1]; omega) (by rw [HI.out.1.2.2.2.2.1]; omega)).mono ?_
        rintro e w5 ⟨rfl, h5, hb5⟩
        have H5 := hide (And.intro h5 (HS.out.2.2.2.1.trans (hb5.mono H1.out.size)))
        clear h5 hb5
        · go_wp2_with fail
          go_roundw
          case rel => exact ⟨u, k + 1, by go_num, by go_num, by omega, by omega, hide ⟨st.create N, s + 1, H5.out.1, by rw [HI.out.2.2]; exact HI.out.2.1.1, by have := HS.out.2.2.1; omega, H5.out.2⟩⟩
          case measure => simp [intOf]; omega
      · have hmin : min k 64 = 64 := by omega
        have hmin2 : min (k + 1) 64 = 64 := by omega
        have hi1 : FInv R 64 u s st := by have := HS.out.2.1; rw [hmin] at this; exact this
        have hge64 : (64 : Int) ≤ (k : Int) := by omega
        have HI := hide (And.intro hi1 hmin2)
        clear hmin hi1 hmin2
        refine (create_full (k := N) HS.out.1 HN.out.2.2.2 HN.out.2.2.1 (by rw [HN.out.2.1]; exact HI.out.1.not (by omega) hlt) (by rw [HI.out.1.len]; exact Nat.le_refl _)).mono ?_
        rintro e w5 ⟨rfl, h5, hb5⟩
        have H5 := hide (And.intro h5 (HS.out.2.2.2.1.trans (hb5.mono H1.out.size)))
        clear h5 hb5
        go_wp2_with fail
        go_roundw
        case rel => exact ⟨u, k + 1, by go_num, by go_num, by omega, by omega, hide ⟨st, s, H5.out.1, by rw [HI.out.2]; exact HI.out.1, by have := HS.out.2.2.1; omega, H5.out.2⟩⟩
        case measure => simp [intOf]; omega
    · have hkk : k = 70 := by omega
      subst hkk
      have hi1 : FInv R 64 u s st := hi
      have HU := hide (And.intro hst (And.intro hi1 hb))
      clear hst hi hs hb hi1 HQ
      obtain ⟨X5, h5⟩ := HU.out.1
      have H5 := hide h5
      clear h5
      go_wp2_with fail
      have hus := HU.out.2.1.used
      have hcu := used_any H5.out (by rw [hus]; omega)
      rw [hus] at hcu
      refine hcu.mono ?_
      rintro e w6 ⟨rfl, h6, hb6⟩
      have H6 := hide (And.intro h6 (HU.out.2.2.trans (hb6.mono HU.out.2.2.size)))
      clear h6 hb6 hcu hus
      go_wp2_with fail
      have hlen := HU.out.2.1.len
      have hcl := list_fs ⟨X5, H6.out.1⟩ (by rw [hlen]; decide)
      rw [hlen] at hcl
      refine hcl.mono ?_
      rintro e w7 ⟨A7, c7, rfl, _, hb7⟩
      have H7 := hide (H6.out.2.trans (hb7.mono H6.out.2.size))
      clear hb7 hcl hlen
      go_wp2_with fail
      go_ret
      exact ⟨rfl, H7.out⟩
theorem full_any {w : World} {B m : Nat} {A : Option Addr} {l : List Int} (n : Int) (c : Nat) (hr : Ri w B A m l) (hB : B ≤ w.heap.size) (hm : m ≤ maxLen) :
    Calls Try.prog 3 #[.int .i64 n, .slice A m c] w fun e w' => e = .returned (.bool true) ∧ Below w.heap.size w w' := by
  rcases A with _ | ad
  · have h1 := Rd.none_len hr
    have h2 := Rd.len hr
    rw [h1] at h2
    have hm0 : m = 0 := by simpa using h2.symm
    subst hm0
    exact full_none n c
  · exact full_some n c hr hB hm
end Go.Proofs.Ytlnmjkilefnjpaa
