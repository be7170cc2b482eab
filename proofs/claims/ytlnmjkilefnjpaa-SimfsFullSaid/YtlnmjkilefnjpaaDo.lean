/-
  The walks of do and turn.
-/
import Derived.Test.YtlnmjkilefnjpaaMaps
namespace Go.Proofs.Ytlnmjkilefnjpaa
open Go.RowKit Go.Maps

theorem chs_get (c : Chg) : ∀ {k : Nat} {p : Bs × Int}, c[k]? = some p → (chs c)[k * 2]? = some (tx p.1) ∧ (chs c)[k * 2 + 1]? = some (.int .i64 p.2) := by
  induction c with
  | nil => intro k p h; simp at h
  | cons q r ih =>
    intro k p h
    have e : chs (q :: r) = tx q.1 :: .int .i64 q.2 :: chs r := rfl
    cases k with
    | zero => simp at h; subst h; rw [e]; exact ⟨rfl, rfl⟩
    | succ k =>
      have := ih (k := k) (p := p) (by simpa using h)
      rw [e, show (k + 1) * 2 = k * 2 + 2 from by omega]
      exact this
/-- What a change asks. -/
def Okc (c : Chg) : Prop := ∀ p ∈ c, p.1.length ≤ 1000000 ∧ -1000000000 ≤ p.2 ∧ p.2 ≤ 1000000000
theorem do1_neg {l : Dir} {p : Bs × Int} (h : p.2 < 0) : do1 l p = ddel l p.1 := by unfold do1; rw [if_pos h]
theorem do1_pos {l : Dir} {p : Bs × Int} (h : ¬ p.2 < 0) : do1 l p = dput l p.1 p.2.toNat := by unfold do1; rw [if_neg h]
theorem grown_trans {a b c : World} {row : Option Nat} (h : a.grownBy b row) (k : b.grownBy c row) : a.grownBy c row := World.grownBy.trans h k
set_option maxHeartbeats 1600000 in
theorem do_any {w : World} {N db : Nat} {v : Value} {l : Dir} {c : Chg} (h : Dr w db l) (hv : ChAt w N v c) (hc : Okc c) (hl : l.length + c.length ≤ 1000000) :
    Calls Try.prog 30 #[.map (some db), v] w fun e w' => e = .returned (.tuple #[]) ∧ Dr w' db (doL l c) ∧ w.grownBy w' (some db) := by
  obtain ⟨g, cap, rfl, hcap, hN, hg⟩ := hv
  have hn1 : (c.length : Int) ≤ 1000000 := by omega
  have hgl := lt_of_block hg
  have H := hide (And.intro h (And.intro hg (And.intro hc hl)))
  clear h hg hc hN hcap hl
  go_enter Try.func30, Try.ntmps30
  go_wp2
  go_loopw [8] (fun i wr => ∃ k : Nat, k ≤ c.length ∧ i = .int .i64 k ∧ Hid (Dr wr db (doL l (c.take k)) ∧ w.grownBy wr (some db))) (fun i _ => c.length - (intOf i).toNat)
  case atStart => exact ⟨0, Nat.zero_le _, rfl, hide ⟨by simpa [doL] using H.out.1, World.grownBy.refl _ _⟩⟩
  case round =>
    obtain ⟨k, hk, rfl, HR⟩ := hrel
    by_cases hlt : k < c.length
    · have hp := List.getElem?_eq_getElem hlt
      obtain ⟨p, hpd⟩ : ∃ p, p = c[k] := ⟨_, rfl⟩
      rw [← hpd] at hp
      have hpk := H.out.2.2.1 p (List.mem_of_getElem? hp)
      have hne : g ≠ db := by
        intro e
        obtain ⟨es, cl, hb⟩ := H.out.1.block
        rw [← e, H.out.2.1] at hb
        cases hb
      have hgr : wr.heap[g]? = some (.cells (chs c).toArray 64 (0, 0)) := by
        rw [HR.out.2.block g hgl (by intro e; injection e with e; exact hne e)]
        exact H.out.2.1
      have z0 : wr.cell? ⟨g, k * 2, none⟩ = some (tx p.1) := by
        rw [cell_of_row _ _ _ _ _ _ hgr]; simpa using (chs_get c hp).1
      have z1 : wr.cell? ⟨g, k * 2 + 1, none⟩ = some (.int .i64 p.2) := by
        rw [cell_of_row _ _ _ _ _ _ hgr]; simpa using (chs_get c hp).2
      obtain ⟨kk, pf⟩ := p
      have hlen : (doL l (c.take k)).length ≤ 1000000 := by
        have := doL_length l (c.take k)
        rw [List.length_take] at this
        have := H.out.2.2.2
        omega
      have hsn : doL l (c.take (k + 1)) = do1 (doL l (c.take k)) (kk, pf) := by
        rw [List.take_add_one, hp]; exact doL_snoc _ _ _
      have b1 := hpk.2.1
      have b2 := hpk.2.2
      simp only [] at b1 b2 z0 z1
      have hwl : wr.heap.size = wr.heap.size := rfl
      have hb0 : Below wr.heap.size wr (wr.alloc (.cells #[tx kk, .int .i64 pf] 64)) := (Below.refl _ _).alloc (Nat.le_refl _) _
      have hgl2 : g < wr.heap.size := lt_of_block hgr
      have HL := hide (And.intro hpk.1 (And.intro hlen (And.intro hsn (HR.out.1.below hb0))))
      have HG := hide (grown_trans (row := some db) HR.out.2 (grown_of_below hb0))
      clear hp hpd hpk hgr hlen hsn hwl hb0 hne
      by_cases hneg : pf < 0
      · go_wp2_with (at_delete; refine wpList_ddel rfl HL.out.2.2.2 rfl HL.out.1 ?_; intro w2 hd2 hg2; have H2 := hide (And.intro hd2 hg2); clear hd2 hg2)
        go_roundw
        case rel => exact ⟨k + 1, by omega, by go_num, hide ⟨by rw [HL.out.2.2.1, do1_neg hneg]; exact H2.out.1, grown_trans HG.out H2.out.2⟩⟩
        case measure => simp [intOf]; omega
      · obtain ⟨n, rfl⟩ : ∃ n : Nat, pf = (n : Int) := ⟨pf.toNat, by omega⟩
        go_wp2_with (at_mapUpdate; refine wpList_dput rfl HL.out.2.2.2 rfl rfl HL.out.1 (by omega) HL.out.2.1 ?_; intro w2 hd2 hg2; have H2 := hide (And.intro hd2 hg2); clear hd2 hg2)
        go_roundw
        case rel => exact ⟨k + 1, by omega, by go_num, hide ⟨by rw [HL.out.2.2.1, do1_pos hneg]; exact H2.out.1, grown_trans HG.out H2.out.2⟩⟩
        case measure => simp [intOf]; omega
    · have : k = c.length := by omega
      subst this
      go_wp2
      refine bodyPost_end (v := .tuple #[]) (by simp [results, Try.results30, go_sem]) rfl ⟨rfl, ?_, HR.out.2⟩
      have := HR.out.1
      rw [List.take_length] at this
      exact this
end Go.Proofs.Ytlnmjkilefnjpaa
