/-
  The walk of the reference's lexer, the sixth part: Lines.
-/
import Derived.Test.YtlpmnnkijdbopaaGreatDoorLexE
import Derived.Test.YtlpmnnkijdbopaaGreatDoorSlices
namespace Go.Proofs.YtlpmnnkijdbopaaGreatDoor
open Go.RowKit Go.Maps

def LnOk (l : List Bs) : Prop := l.length ≤ 5000 ∧ ∀ x ∈ l, x.length ≤ 100000
theorem rs_at2 {w : World} {S : Nat → Prop} {A : Option Addr} {l : List Bs} (h : Sl w S 1 A RS l) {j : Nat} (hj : j < l.length) : ∃ b o, A = some ⟨b, o, none⟩ ∧ S b ∧ w.cell? ⟨b, o + j, none⟩ = some (tx l[j]) := rs_cell h (List.getElem?_eq_getElem hj)
theorem sl_below {w w' : World} {S : Nat → Prop} {A : Option Addr} {l : List Bs} (h : Sl w S 1 A RS l) (hS : ∀ b, S b → b < w.heap.size) (hb : Below w.heap.size w w') : Sl w' S 1 A RS l :=
  h.map (fun _ h => h) (fun b h => hb.block b (hS b h)) (fun _ _ h => h)
theorem extract_lt (b : ByteArray) (i j : Nat) : (b.extract i j).size ≤ b.size := by
  rw [ByteArray.size_extract]
  omega
set_option maxRecDepth 20000 in
set_option maxHeartbeats 3200000 in
theorem lines_any {w : World} {S : Nat → Prop} {A : Option Addr} {l : List Bs} (c : Nat) (h : Sl w S 1 A RS l) (hS : ∀ b, S b → b < w.heap.size) (hl : LnOk l) : Calls Tryz.prog 122 #[.slice A l.length c] w (TxPost 600000000 w) := by
  have i1 : (l.length : Int) ≤ 5000 := by have := hl.1; omega
  have HL := hide (And.intro hl.2 (And.intro h hS))
  clear hl h hS
  go_enter Tryz.func122, Tryz.ntmps122
  go_wp2
  go_loop [3, 4] (fun cm i => ∃ (m : Nat) (x : Int), 1 ≤ m ∧ i = .int .i64 m ∧ cm = .int .i64 x ∧ 0 ≤ x ∧ x ≤ 1000000 ∧ m ≤ l.length + 1) (fun _ i => l.length - (intOf i).toNat)
  case atStart => exact ⟨1, 1000000, by omega, rfl, rfl, by omega, by omega, by omega⟩
  case round =>
    obtain ⟨m, x, hm1, rfl, rfl, hx0, hx1, hm⟩ := hrel
    by_cases hlt : m < l.length
    · obtain ⟨b, o, hA, _, hc⟩ := rs_at2 HL.out.2.1 hlt
      obtain ⟨y, hy⟩ : ∃ y, y = l[m] := ⟨_, rfl⟩
      rw [← hy] at hc
      have yl : (y.length : Int) ≤ 100000 := by have := HL.out.1 l[m] (List.getElem_mem hlt); rw [← hy] at this; omega
      have HA := hide hA
      clear hA hy
      go_wp2_with ((with_reducible show wpList _ _ _ ({ dst := _, op := .indexAddr 31 _ _, type := _, pos := _, after := _, guard := _ } :: _) _ _); refine wpList_index Tryz.underlying31 Tryz.sizeS rfl rfl HA.out hlt rfl ?_)
      refine (blanks_any y _ (by omega)).mono ?_
      rintro e w1 ⟨n, rfl, n0, n1, rfl⟩
      go_wp2_with ((with_reducible show wpList _ _ _ ({ dst := _, op := .indexAddr 31 _ _, type := _, pos := _, after := _, guard := _ } :: _) _ _); refine wpList_index Tryz.underlying31 Tryz.sizeS rfl rfl HA.out hlt rfl ?_)
      all_goals
        go_round
        case rel => exact ⟨m + 1, _, by omega, by go_num, rfl, by omega, by omega, by omega⟩
        case measure => simp [intOf]; omega
    · go_wp2_with fail
      clear hlt hm1 hm
      go_loopw [6, 7, 38] (fun f la i wr => ∃ (m : Nat) (f' la' : Int), m ≤ l.length ∧ i = .int .i64 m ∧ f = .int .i64 f' ∧ la = .int .i64 la' ∧ -1 ≤ f' ∧ f' < m ∧ la' < m ∧ Hid (Below w.heap.size w wr)) (fun _ _ i _ => l.length - (intOf i).toNat)
      case atStart => exact ⟨0, -1, -1, by omega, rfl, rfl, rfl, by omega, by omega, by omega, hide (Below.refl _ _)⟩
      case round =>
        obtain ⟨m, f', la', hm, rfl, rfl, rfl, hf, hf2, hla, HB⟩ := hrel
        by_cases hlt : m < l.length
        · obtain ⟨b, o, hA, _, hc⟩ := rs_at2 (sl_below HL.out.2.1 HL.out.2.2 HB.out) hlt
          obtain ⟨y, hy⟩ : ∃ y, y = l[m] := ⟨_, rfl⟩
          rw [← hy] at hc
          have yl : (y.length : Int) ≤ 100000 := by have := HL.out.1 l[m] (List.getElem_mem hlt); rw [← hy] at this; omega
          subst hA
          clear hy
          go_wp2_with fail
          refine wp_region_G (fun w' => Below wr.heap.size wr w') (fun _ => true) (by kernel_rfl) ((Below.refl _ _).drew) (fun hS => ?_)
          refine wpG_take 0 rfl (by kernel_rfl) (fun _ _ _ h => h) (by rfl) (fun w' hw => by go_simp; rfl) hS (fun _ => ?_)
          simp only [Act.put, List.setIfInBounds_toArray, List.set_cons_zero, List.set_cons_succ]
          refine wpG_take 1 rfl (by kernel_rfl) (fun _ _ _ h => h) (by rfl) (fun w' hw => by go_simp; rfl) hS (fun _ => ?_)
          simp only [Act.put, List.setIfInBounds_toArray, List.set_cons_zero, List.set_cons_succ]
          refine wpG_index 2 rfl (by kernel_rfl) (fun _ _ _ h => h) (by rfl) rfl rfl rfl Tryz.underlying31 Tryz.sizeS hlt hS (fun _ => ?_)
          simp only [Act.put, List.setIfInBounds_toArray, List.set_cons_zero, List.set_cons_succ]
          refine wpG_load 3 rfl (by kernel_rfl) (fun _ _ _ h => h) (by rfl) rfl (v := tx y) (fun w' hw => by have := (hw.cell (lt_of_cell (hc))).trans (hc); clear hw; go_simp) hS (fun _ => ?_)
          simp only [Act.put, List.setIfInBounds_toArray, List.set_cons_zero, List.set_cons_succ]
          refine wpG_take 5 rfl (by kernel_rfl) (fun _ _ _ h => h) (by rfl) (fun w' hw => by go_simp; rfl) hS (fun _ => ?_)
          simp only [Act.put, List.setIfInBounds_toArray, List.set_cons_zero, List.set_cons_succ]
          refine wpG_take 6 rfl (by kernel_rfl) (fun _ _ _ h => h) (by rfl) (fun w' hw => by go_simp; rfl) hS (fun _ => ?_)
          simp only [Act.put, List.setIfInBounds_toArray, List.set_cons_zero, List.set_cons_succ]
          refine wpG_index 7 rfl (by kernel_rfl) (fun _ _ _ h => h) (by rfl) rfl rfl rfl Tryz.underlying31 Tryz.sizeS hlt hS (fun _ => ?_)
          simp only [Act.put, List.setIfInBounds_toArray, List.set_cons_zero, List.set_cons_succ]
          refine wpG_load 8 rfl (by kernel_rfl) (fun _ _ _ h => h) (by rfl) rfl (v := tx y) (fun w' hw => by have := (hw.cell (lt_of_cell (hc))).trans (hc); clear hw; go_simp) hS (fun _ => ?_)
          simp only [Act.put, List.setIfInBounds_toArray, List.set_cons_zero, List.set_cons_succ]
          refine wpG_take 9 rfl (by kernel_rfl) (fun _ _ _ h => h) (by rfl) (fun w' hw => by go_simp; rfl) hS (fun _ => ?_)
          simp only [Act.put, List.setIfInBounds_toArray, List.set_cons_zero, List.set_cons_succ]
          refine wpG_one 4 rfl (by kernel_rfl) (by rfl) (fun K hK => ?_)
          go_simp
          refine (blanks_any y _ (by omega)).mono ?_
          rintro e w1 ⟨n, rfl, n0, n1, rfl⟩
          refine hK _ _ (fun _ => by exact hS) (fun _ => ?_)
          clear hK K
          refine wpG_take 10 rfl (by kernel_rfl) (fun _ _ _ h => h) (by rfl) (fun w' hw => by go_simp; rfl) hS (fun _ => ?_)
          simp only [Act.put, List.setIfInBounds_toArray, List.set_cons_zero, List.set_cons_succ]
          refine wpG_done (by kernel_rfl) ?_
          have HZ := hide (HB.out.trans (hS.mono HB.out.size))
          clear hS hc
          go_wp2_with fail
          all_goals
            go_roundw
            case rel => exact ⟨m + 1, _, _, by omega, by go_num, rfl, rfl, by omega, by omega, by omega, hide HZ.out⟩
            case measure => simp [intOf]; omega
        · have hlal : la' < l.length := by omega
          have hfl : f' < l.length := by omega
          go_wp2_with fail
          clear hlt hm hla hf2
          go_loopw [9, 10] (fun o i wr => ∃ (m : Int) (b : ByteArray), -1 ≤ m ∧ m ≤ 5001 ∧ i = .int .i64 m ∧ o = .string b ∧ Hid (b.size ≤ m.toNat * 100001 ∧ Below w.heap.size w wr)) (fun _ i _ => 6000 - (intOf i).toNat)
          case atStart => exact ⟨f', ⟨#[]⟩, by omega, by omega, rfl, rfl, hide ⟨by show 0 ≤ _; omega, HB.out⟩⟩
          case round =>
            obtain ⟨m, b, hm0, hm1, rfl, rfl, HR⟩ := hrel
            by_cases hc : 0 ≤ m ∧ m ≤ la'
            · obtain ⟨hc0, hc1⟩ := hc
              obtain ⟨m, rfl⟩ := Int.eq_ofNat_of_zero_le hc0
              have hlt : m < l.length := by omega
              obtain ⟨g, o, hA, _, hc⟩ := rs_at2 (sl_below HL.out.2.1 HL.out.2.2 HR.out.2) hlt
              obtain ⟨y, hy⟩ : ∃ y, y = l[m] := ⟨_, rfl⟩
              rw [← hy] at hc
              have yl : (y.length : Int) ≤ 100000 := by have := HL.out.1 l[m] (List.getElem_mem hlt); rw [← hy] at this; omega
              have HA := hide hA
              clear hA hy
              go_wp2_with (first
                | ((with_reducible show wpList _ _ _ ({ dst := _, op := .indexAddr 31 _ _, type := _, pos := _, after := _, guard := _ } :: _) _ _); refine wpList_index Tryz.underlying31 Tryz.sizeS rfl rfl HA.out hlt rfl ?_)
                | ((with_reducible show wpList _ _ _ ({ dst := _, op := .binOp .add 9 _ _ 9, type := _, pos := _, after := _, guard := _ } :: _) _ _); refine wpList_catB rfl rfl (by have h1 := HR.out.1; have h2 := extract_le ⟨y.toArray⟩ x.toNat y.length; have h3 : (ByteArray.mk y.toArray).size = y.length := (by show y.toArray.size = _; simp); have h4 : (ByteArray.mk #[10]).size = 1 := rfl; have h5 : (ByteArray.mk #[]).size = 0 := rfl; (try simp only [ByteArray.size_append]); omega) ?_))
              all_goals
                go_roundw
                case rel => exact ⟨m + 1, _, by omega, by omega, by go_num, rfl, hide ⟨by have h1 := HR.out.1; have h2 := extract_le ⟨y.toArray⟩ x.toNat y.length; have h3 : (ByteArray.mk y.toArray).size = y.length := (by show y.toArray.size = _; simp); have h4 : (ByteArray.mk #[10]).size = 1 := rfl; have h5 : (ByteArray.mk #[]).size = 0 := rfl; (try simp only [ByteArray.size_append]); omega, HR.out.2⟩⟩
                case measure => simp [intOf]; omega
            · go_wp2_with fail
              all_goals go_ret
              all_goals exact ⟨b, rfl, by have := HR.out.1; omega, HR.out.2⟩
end Go.Proofs.YtlpmnnkijdbopaaGreatDoor
