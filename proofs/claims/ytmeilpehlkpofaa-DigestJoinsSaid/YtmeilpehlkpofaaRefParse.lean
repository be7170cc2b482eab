/-
  The walk of the reference's parse.
-/
import Derived.Test.YtmeilpehlkpofaaParseWalk
namespace Go.Proofs.Ytmeilpehlkpofaa
open Go.RowKit
open sha

/-- The number whose two digits these are. -/
def nn (x y : UInt8) : Option Nat := if 0 ≤ hv x ∧ 0 ≤ hv y then some (16 * (hv x).toNat + (hv y).toNat) else none
theorem nn_hit {x y : UInt8} {n : Nat} (hn : n < 256) : (hexd (n / 16) = x ∧ hexd (n % 16) = y) ↔ nn x y = some n := by
  unfold nn
  constructor
  · rintro ⟨rfl, rfl⟩
    rw [hv_hexd (by omega), hv_hexd (by omega), if_pos ⟨by omega, by omega⟩]
    congr 1
    simp only [Int.toNat_natCast]
    omega
  · intro h
    split at h
    · rename_i hc
      injection h with h
      rcases hv_cases x with ⟨e, _⟩ | ⟨a, ha, e1, x1⟩
      · omega
      · rcases hv_cases y with ⟨e, _⟩ | ⟨b, hb, e2, x2⟩
        · omega
        · rw [e1, e2, Int.toNat_natCast, Int.toNat_natCast] at h
          rw [x1, x2, show n / 16 = a from by omega, show n % 16 = b from by omega]
          exact ⟨rfl, rfl⟩
    · cases h
def fnd (o : Option Nat) (n : Nat) : Bool := match o with
  | some v => decide (v < n)
  | none => false
theorem fnd_zero (o : Option Nat) : fnd o 0 = false := by cases o <;> simp [fnd]
theorem fnd_hit {o : Option Nat} {n : Nat} (h : o = some n) : fnd o (n + 1) = true ∧ fnd o n = false := by subst h; simp [fnd]
theorem fnd_miss {o : Option Nat} {n : Nat} (h : o ≠ some n) : fnd o (n + 1) = fnd o n := by
  cases o with
  | none => rfl
  | some v =>
    have : v ≠ n := fun e => h (by rw [e])
    simp only [fnd, decide_eq_decide]; omega
/-- The key in the midst of a search. -/
def kmid (k : List UInt8) (j : Nat) (o : Option Nat) (n : Nat) : List UInt8 := (kfill k j).set j (if fnd o n then UInt8.ofNat (o.getD 0) else 0)
theorem kfill_get {k : List UInt8} {j : Nat} (hk : k.length = j) (hj : j < 32) : (kfill k j)[j]? = some 0 := by
  subst hk
  unfold kfill
  rw [List.getElem?_append_right (Nat.le_refl _), Nat.sub_self, List.getElem?_replicate]; simp; omega
theorem kmid_zero {k : List UInt8} {j : Nat} (o : Option Nat) (hk : k.length = j) (hj : j < 32) : kmid k j o 0 = kfill k j := by
  unfold kmid
  rw [fnd_zero]
  simp only [Bool.false_eq_true, if_false]
  apply List.ext_getElem?
  intro i
  rw [List.getElem?_set]
  split
  · rename_i e; subst e
    rw [kfill_get hk hj]
    split
    · rfl
    · rename_i h; exfalso; apply h; exact (List.getElem?_eq_some_iff.1 (kfill_get hk hj)).1
  · rfl
theorem nn_lt {x y : UInt8} {v : Nat} (h : nn x y = some v) : v < 256 := by
  unfold nn at h
  split at h
  · injection h with h
    rcases hv_cases x with ⟨e, _⟩ | ⟨a, ha, e1, _⟩
    · omega
    · rcases hv_cases y with ⟨e, _⟩ | ⟨b, hb, e2, _⟩
      · omega
      · rw [e1, e2, Int.toNat_natCast, Int.toNat_natCast] at h; omega
  · cases h
theorem kmid_all (k : List UInt8) (j v : Nat) (hv : v < 256) : kmid k j (some v) 256 = (kfill k j).set j (UInt8.ofNat v) := by
  unfold kmid
  rw [show fnd (some v) 256 = true from decide_eq_true hv]; rfl
theorem kmid_hit (k : List UInt8) (j n : Nat) (hn : n < 256) : (u8s (kmid k j (some n) n)).set j (.int .u8 (n : Int)) = u8s (kmid k j (some n) (n + 1)) := by
  have e : (.int .u8 (n : Int) : Value) = .int .u8 ((UInt8.ofNat n).toNat : Int) := by
    congr 1
    rw [UInt8.toNat_ofNat', Nat.mod_eq_of_lt (by simpa using hn)]
  unfold kmid
  rw [(fnd_hit (o := some n) rfl).1, e]
  unfold u8s
  rw [← List.map_set, List.set_set]
  rfl
/-- What the reference's parse hands back. -/
def ToldRef (o : Option (List UInt8)) : Value := .tuple #[.agg (u8s (o.getD (List.replicate 32 0))).toArray, .bool o.isSome]
theorem toldRef_none : ToldRef none = .tuple #[.agg z32, .bool false] := rfl
theorem toldRef_some (k : List UInt8) : ToldRef (some k) = .tuple #[.agg (u8s k).toArray, .bool true] := rfl
set_option maxRecDepth 100000 in
set_option maxHeartbeats 1600000 in
theorem refparse_any (w : World) (s : ByteArray) (l : List UInt8) (hs : s = ⟨l.toArray⟩) (hl : l.length ≤ 1000000) :
    Calls Try.prog 17 #[.string s] w fun e w' => e = .returned (ToldRef (parse l)) ∧ Below w.heap.size w w' := by
  have hz : ∀ w : World, (zeroValue 24).run Try.prog w = .ok (.agg z32) w := fun w => by kernel_rfl
  have hss : s.size = l.length := by rw [hs]; rfl
  have h0 : ((w.alloc (.cells z32 24)).alloc (.cells z32 24)).heap[w.heap.size]? = some (.cells z32 24 (0, 0)) := by rw [Below.heap_alloc _ _ _ (by simp)]; exact heap_alloc_new w _
  have h1 : ((w.alloc (.cells z32 24)).alloc (.cells z32 24)).heap[w.heap.size + 1]? = some (.cells z32 24 (0, 0)) := by
    have := heap_alloc_new (w.alloc (.cells z32 24)) (.cells z32 24)
    simpa using this
  have hb0 : Below w.heap.size w ((w.alloc (.cells z32 24)).alloc (.cells z32 24)) := ((Below.refl _ _).alloc (Nat.le_refl _) _).alloc (by simp) _
  by_cases h64 : l.length = 64
  · have t1 : ((s.size : Int) != 64) = false := by rw [hss]; simp [h64]
    have H0 := hide (And.intro h0 (And.intro h1 (And.intro hb0 (And.intro hs (And.intro hl (And.intro hss h64))))))
    clear h0 h1 hb0 hs hl hss h64
    go_enter Try.func17, Try.ntmps17
    go_wp2_with fail
    go_loopw [5] (fun i wr => ∃ (j : Nat) (k : List UInt8), j ≤ 32 ∧ i = .int .i64 j ∧ pj l j = some k ∧ wr.heap[w.heap.size]? = some (.cells z32 24 (0, 0)) ∧ wr.heap[w.heap.size + 1]? = some (.cells (u8s (kfill k j)).toArray 24 (0, 0)) ∧ Below w.heap.size w wr) (fun i _ => 32 - (intOf i).toNat)
    case atStart => exact ⟨0, [], by omega, rfl, rfl, H0.out.1, H0.out.2.1, H0.out.2.2.1⟩
    case round =>
      obtain ⟨j, k, hj, rfl, hp, hr, hk, hb⟩ := hrel
      obtain ⟨wo, rfl⟩ : ∃ wo : World, wo = wr := ⟨_, rfl⟩
      by_cases hlt : (j : Int) < 32
      · obtain ⟨x, hx⟩ : ∃ x, x = l.getD (2 * j) 0 := ⟨_, rfl⟩
        obtain ⟨y, hy⟩ : ∃ y, y = l.getD (2 * j + 1) 0 := ⟨_, rfl⟩
        have r1 : ∀ w, (Instr.index 9 (.string s) (.int .i64 (2 * (j : Int)))).run Try.prog w = .ok (.int .u8 (x.toNat : Int)) w := fun w => by
          rw [H0.out.2.2.2.1, hx]; exact run_index_at w l (2 * j) (by have := H0.out.2.2.2.2.2.2; omega) _ (by omega)
        have r2 : ∀ w, (Instr.index 9 (.string s) (.int .i64 (2 * (j : Int) + 1))).run Try.prog w = .ok (.int .u8 (y.toNat : Int)) w := fun w => by
          rw [H0.out.2.2.2.1, hy]; exact run_index_at w l (2 * j + 1) (by have := H0.out.2.2.2.2.2.2; omega) _ (by omega)
        have i1 : IntKind.i64.wrap (2 * (j : Int)) = 2 * (j : Int) := IntWalk.i64_in _ (by omega)
        have i2 : IntKind.i64.wrap (2 * (j : Int) + 1) = 2 * (j : Int) + 1 := IntWalk.i64_in _ (by omega)
        have i3 : (0 : Int) ≤ 2 * (j : Int) := by omega
        have i4 : (0 : Int) ≤ 2 * (j : Int) + 1 := by omega
        obtain ⟨o, ho⟩ : ∃ o, o = nn x y := ⟨_, rfl⟩
        have HX := hide (And.intro hp (And.intro hr (And.intro hk (And.intro hb (And.intro hj (And.intro hx (And.intro hy ho)))))))
        clear hp hr hk hb hj hx hy ho
        go_wp2_with fail
        go_loopw [6, 7] (fun f i wr => ∃ n : Nat, n ≤ 256 ∧ i = .int .i64 n ∧ f = .bool (fnd o n) ∧ wr.heap[w.heap.size]? = some (.cells z32 24 (0, 0)) ∧ wr.heap[w.heap.size + 1]? = some (.cells (u8s (kmid k j o n)).toArray 24 (0, 0)) ∧ Below w.heap.size w wr) (fun _ i _ => 256 - (intOf i).toNat)
        case atStart => exact ⟨0, by omega, rfl, by rw [fnd_zero], HX.out.2.1, by rw [kmid_zero _ (pj_length HX.out.1) (by omega)]; exact HX.out.2.2.1, HX.out.2.2.2.1⟩
        case round =>
          obtain ⟨n, hn, rfl, rfl, hr, hk, hb⟩ := hrel
          by_cases hn256 : (n : Int) < 256
          · obtain ⟨p, hp⟩ : ∃ p, p = n / 16 := ⟨_, rfl⟩
            obtain ⟨q, hq⟩ : ∃ q, q = n % 16 := ⟨_, rfl⟩
            have e1 : (n : Int) / 16 = (p : Int) := by omega
            have e2 : (n : Int) % 16 = (q : Int) := by omega
            have e3 : (n : Int).tdiv 16 = (p : Int) := by rw [Int.tdiv_eq_ediv_of_nonneg (by omega)]; exact e1
            have e4 : (n : Int).tmod 16 = (q : Int) := by rw [Int.tmod_eq_emod_of_nonneg (by omega)]; exact e2
            have p16 : p < 16 := by omega
            have q16 : q < 16 := by omega
            have e7 : IntKind.i64.wrap (p : Int) = (p : Int) := IntWalk.i64_in _ (by omega)
            have e8 : IntKind.i64.wrap (q : Int) = (q : Int) := IntWalk.i64_in _ (by omega)
            have hhit : (hexd p = x ∧ hexd q = y) ↔ o = some n := by rw [hp, hq, HX.out.2.2.2.2.2.2.2]; exact nn_hit (by omega)
            obtain ⟨F, hF⟩ : ∃ F, F = fnd o n := ⟨_, rfl⟩
            rw [← hF]
            have HN := hide (And.intro hr (And.intro hk (And.intro hb (And.intro hhit (And.intro hF hn)))))
            have ck : ∃ u, wr.cell? ⟨w.heap.size + 1, j, none⟩ = some u := by
              rw [cell_of_row _ _ _ _ _ _ hk]
              exact ⟨_, Array.getElem?_eq_getElem (by rw [List.size_toArray, u8s_length, kmid, List.length_set, kfill, List.length_append, pj_length HX.out.1, List.length_replicate]; omega)⟩
            obtain ⟨uk, ck⟩ := ck
            have fk : wr.frozen? ⟨w.heap.size + 1, j, none⟩ = false := frozen_of_row _ _ _ _ _ hk
            clear hr hk hb hhit hF hp hq hn
            by_cases hxx : hexd p = x
            · have s1 : (((hexd p).toNat : Int) == (x.toNat : Int)) = true := by rw [hxx]; simp
              by_cases hyy : hexd q = y
              · have s2 : (((hexd q).toNat : Int) == (y.toNat : Int)) = true := by rw [hyy]; simp
                have hit := HN.out.2.2.2.1.1 ⟨hxx, hyy⟩
                have HH := hide hit
                clear hxx hyy hit
                go_wp2_with fail
                go_quiet ((go_at_call 24; exact Calls.quiet_of_same (digit_any _ (by assumption) _)))
                go_wp2_with fail
                go_roundw
                case rel =>
                  refine ⟨n + 1, by omega, by go_num, by rw [(fnd_hit HH.out).1], ?_, ?_, (below_drewN HN.out.2.2.1 _).setCell (by show w.heap.size ≤ w.heap.size + 1; omega) _⟩
                  · rw [heap_setCell_other _ _ _ _ (by show w.heap.size ≠ w.heap.size + 1; omega)]; exact HN.out.1
                  · rw [heap_setCell_same _ _ _ _ _ _ (show (wr.drewN nq).heap[w.heap.size + 1]? = _ from HN.out.2.1), List.setIfInBounds_toArray]
                    congr 3
                    rw [HH.out]
                    exact kmid_hit k j n (by omega)
                case measure => simp [intOf]; omega
              · have s2 : (((hexd q).toNat : Int) == (y.toNat : Int)) = false := by
                  rw [beq_eq_false_iff_ne]; intro e; exact hyy (UInt8.toNat_inj.1 (by omega))
                have hmiss : o ≠ some n := fun e => hyy (HN.out.2.2.2.1.2 e).2
                have HH := hide hmiss
                clear hxx hyy hmiss
                go_wp2_with fail
                go_quiet ((go_at_call 24; exact Calls.quiet_of_same (digit_any _ (by assumption) _)))
                go_wp2_with fail
                go_roundw
                case rel =>
                  exact ⟨n + 1, by omega, by go_num, by rw [fnd_miss HH.out, ← HN.out.2.2.2.2.1], HN.out.1, by rw [kmid, fnd_miss HH.out]; exact HN.out.2.1, below_drewN HN.out.2.2.1 _⟩
                case measure => simp [intOf]; omega
            · have s1 : (((hexd p).toNat : Int) == (x.toNat : Int)) = false := by
                rw [beq_eq_false_iff_ne]; intro e; exact hxx (UInt8.toNat_inj.1 (by omega))
              have hmiss : o ≠ some n := fun e => hxx (HN.out.2.2.2.1.2 e).1
              have HH := hide hmiss
              clear hxx hmiss
              go_wp2_with fail
              go_quiet ((go_at_call 24; exact Calls.quiet_of_same (digit_any _ (by assumption) _)))
              go_wp2_with fail
              go_roundw
              case rel =>
                exact ⟨n + 1, by omega, by go_num, by rw [fnd_miss HH.out, ← HN.out.2.2.2.2.1], HN.out.1, by rw [kmid, fnd_miss HH.out]; exact HN.out.2.1, below_drewN HN.out.2.2.1 _⟩
              case measure => simp [intOf]; omega
          · obtain rfl : n = 256 := by omega
            cases ho : o with
            | none =>
              have hpn : parse l = none := by
                unfold parse
                rw [if_pos H0.out.2.2.2.2.2.2]
                refine pj_none (j := j + 1) ?_ (by omega)
                rw [pj, ← HX.out.2.2.2.2.2.1, ← HX.out.2.2.2.2.2.2.1]
                have := HX.out.2.2.2.2.2.2.2
                rw [ho] at this
                unfold nn at this
                split at this
                · cases this
                · rename_i h; rw [if_neg h]
              have HW := hide (And.intro hr (And.intro hb hpn))
              rw [show fnd none 256 = false from rfl]
              clear hr hk hb hpn ho
              go_wp2_with (first
                | ((with_reducible show wpList _ _ _ ({ dst := _, op := .build 24 _, type := _, pos := _, after := _, guard := _ } :: _) _ _); refine wpList_buildTo rfl 24 _ rfl (some 45) rfl z32 (by kernel_rfl) ?_)
                | ((with_reducible show wpList _ _ _ ({ dst := _, op := .store 24 _ _, type := _, pos := _, after := _, guard := _ } :: _) _ _); refine wpList_store_row rfl 24 _ _ rfl w.heap.size z32 rfl rfl _ _ HW.out.1 (by kernel_rfl) rfl z32_one ?_))
              exact bodyPost_ret (v := .tuple #[.agg z32, .bool false]) (results_row_tmp Try.results17 _ _ w.heap.size 24 z32 (0, 0) (.array 32 5) _ rfl rfl (setRow_heap _ _ _ _ _ _ HW.out.1) Try.underlying24 rfl (by kernel_rfl)) rfl ⟨by rw [HW.out.2.2, toldRef_none], below_setRow HW.out.2.1 (Nat.le_refl _) _⟩
            | some v =>
              have hv := nn_lt (HX.out.2.2.2.2.2.2.2.symm.trans ho)
              have hpj : pj l (j + 1) = some (k ++ [UInt8.ofNat v]) := by
                rw [pj, ← HX.out.2.2.2.2.2.1, ← HX.out.2.2.2.2.2.2.1, HX.out.1]
                have := HX.out.2.2.2.2.2.2.2
                rw [ho] at this
                unfold nn at this
                split at this
                · rename_i h; rw [if_pos h]; injection this with this; rw [this]; rfl
                · cases this
              rw [ho] at hk
              rw [kmid_all k j v hv, kfill_set _ (pj_length HX.out.1) (by omega)] at hk
              have HW := hide (And.intro hr (And.intro hk (And.intro hb hpj)))
              rw [show fnd (some v) 256 = true from decide_eq_true hv]
              clear hr hk hb hpj ho hv
              go_wp2_with fail
              go_roundw
              case rel => exact ⟨j + 1, _, by omega, by go_num, HW.out.2.2.2, HW.out.1, HW.out.2.1, HW.out.2.2.1⟩
              case measure => simp [intOf]; omega
      · have ej : j = 32 := by omega
        subst ej
        have hlk := pj_length hp
        have hpn : parse l = some k := by
          unfold parse
          rw [if_pos H0.out.2.2.2.2.2.2]; exact hp
        have hkf : kfill k 32 = k := by unfold kfill; simp
        rw [hkf] at hk
        obtain ⟨cs, hcs⟩ : ∃ cs, cs = (u8s k).toArray := ⟨_, rfl⟩
        have hcc := key_cells hlk
        rw [← hcs] at hk hcc
        have HW := hide (And.intro hk (And.intro hr (And.intro hb (And.intro hcc (And.intro hpn hcs)))))
        clear hk hr hb hcc hpn hcs hp hkf hlk hj
        go_wp2_with (first
          | ((with_reducible show wpList _ _ _ ({ dst := _, op := .load 24 _, type := _, pos := _, after := _, guard := _ } :: _) _ _); refine wpList_load_row rfl 24 _ rfl _ rfl _ cs (0, 0) (.array 32 5) HW.out.1 Try.underlying24 rfl (by rw [HW.out.2.2.2.1.1]; kernel_rfl) ?_)
          | ((with_reducible show wpList _ _ _ ({ dst := _, op := .store 24 _ _, type := _, pos := _, after := _, guard := _ } :: _) _ _); refine wpList_store_row rfl 24 _ _ rfl w.heap.size cs rfl rfl _ _ HW.out.2.1 (by rw [HW.out.2.2.2.1.1]; kernel_rfl) (by rw [HW.out.2.2.2.1.1]; rfl) HW.out.2.2.2.1.2 ?_))
        exact bodyPost_ret (v := .tuple #[.agg cs, .bool true]) (results_row_tmp Try.results17 _ _ w.heap.size 24 cs (0, 0) (.array 32 5) _ rfl rfl (setRow_heap _ _ _ _ _ _ HW.out.2.1) Try.underlying24 rfl (by rw [HW.out.2.2.2.1.1]; kernel_rfl)) rfl ⟨by rw [HW.out.2.2.2.2.1, toldRef_some, HW.out.2.2.2.2.2], below_setRow HW.out.2.2.1 (Nat.le_refl _) _⟩
  · have t1 : ((s.size : Int) != 64) = true := by rw [hss]; simp; omega
    have hpn : parse l = none := by unfold parse; rw [if_neg h64]
    have HW := hide (And.intro h0 (And.intro h1 (And.intro hb0 hpn)))
    clear h0 h1 hb0 hs hl hss h64 hpn
    go_enter Try.func17, Try.ntmps17
    go_wp2_with (first
      | ((with_reducible show wpList _ _ _ ({ dst := _, op := .load 24 _, type := _, pos := _, after := _, guard := _ } :: _) _ _); refine wpList_load_row rfl 24 _ rfl _ rfl _ z32 (0, 0) (.array 32 5) HW.out.2.1 Try.underlying24 rfl (by kernel_rfl) ?_)
      | ((with_reducible show wpList _ _ _ ({ dst := _, op := .store 24 _ _, type := _, pos := _, after := _, guard := _ } :: _) _ _); refine wpList_store_row rfl 24 _ _ rfl w.heap.size z32 rfl rfl _ _ HW.out.1 (by kernel_rfl) rfl z32_one ?_))
    exact bodyPost_ret (v := .tuple #[.agg z32, .bool false]) (results_row_tmp Try.results17 _ _ w.heap.size 24 z32 (0, 0) (.array 32 5) _ rfl rfl (setRow_heap _ _ _ _ _ _ HW.out.1) Try.underlying24 rfl (by kernel_rfl)) rfl ⟨by rw [HW.out.2.2.2, toldRef_none], below_setRow HW.out.2.2.1 (Nat.le_refl _) _⟩
end Go.Proofs.Ytmeilpehlkpofaa
