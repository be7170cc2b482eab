/-
  The walk of named.
-/
import Derived.Test.YtlnmjkilefnjpaaLeaf
namespace Go.Proofs.Ytlnmjkilefnjpaa
open Go.RowKit Go.Maps

def goodS (s : ByteArray) : Bool := good s.data.toList
theorem good_char {s : ByteArray} {k : Nat} (hk : k < s.size) (hg : goodS s = true) : (97 ≤ (s[k].toNat : Int) ∧ (s[k].toNat : Int) ≤ 122) ∨ (48 ≤ (s[k].toNat : Int) ∧ (s[k].toNat : Int) ≤ 57) ∨ (s[k].toNat : Int) = 46 ∨ (s[k].toNat : Int) = 45 := by
  unfold goodS good at hg
  rw [Bool.and_eq_true, List.all_eq_true] at hg
  have h1 := hg.2 s[k] (by
    have hh : s.data.toList[k]? = some s[k] := by
      rw [Array.getElem?_toList]
      exact Array.getElem?_eq_getElem (by exact hk)
    exact List.mem_of_getElem? hh)
  unfold goodc at h1
  have := of_decide_eq_true h1
  omega
theorem goodS_len {s : ByteArray} (hg : goodS s = true) : 1 ≤ s.size ∧ s.size ≤ 20 := by
  unfold goodS good at hg
  rw [Bool.and_eq_true] at hg
  exact of_decide_eq_true hg.1
theorem bad_some {s : ByteArray} (h1 : 1 ≤ s.size) (h2 : s.size ≤ 20) (hg : ∀ k (hk : k < s.size), (97 ≤ (s[k].toNat : Int) ∧ (s[k].toNat : Int) ≤ 122) ∨ (48 ≤ (s[k].toNat : Int) ∧ (s[k].toNat : Int) ≤ 57) ∨ (s[k].toNat : Int) = 46 ∨ (s[k].toNat : Int) = 45) : goodS s = true := by
  unfold goodS good
  rw [Bool.and_eq_true, List.all_eq_true]
  refine ⟨decide_eq_true ⟨h1, h2⟩, fun c hc => ?_⟩
  obtain ⟨k, hk, rfl⟩ := List.getElem_of_mem hc
  have := hg k (by simpa using hk)
  unfold goodc
  refine decide_eq_true ?_
  have e : s.data.toList[k] = s[k]'(by simpa using hk) := by
    rw [Array.getElem_toList]; rfl
  rw [e]
  omega
def okc (s : ByteArray) (k : Nat) : Prop := ∀ j (hj : j < s.size), j < k → (97 ≤ (s[j].toNat : Int) ∧ (s[j].toNat : Int) ≤ 122) ∨ (48 ≤ (s[j].toNat : Int) ∧ (s[j].toNat : Int) ≤ 57) ∨ (s[j].toNat : Int) = 46 ∨ (s[j].toNat : Int) = 45
theorem okc_succ {s : ByteArray} {k : Nat} (h : okc s k) (hk : k < s.size) (hc : (97 ≤ (s[k].toNat : Int) ∧ (s[k].toNat : Int) ≤ 122) ∨ (48 ≤ (s[k].toNat : Int) ∧ (s[k].toNat : Int) ≤ 57) ∨ (s[k].toNat : Int) = 46 ∨ (s[k].toNat : Int) = 45) : okc s (k + 1) := by
  intro j hj hlt
  by_cases e : j = k
  · subst e; exact hc
  · exact h j hj (by omega)

def OneOf (w : World) (g : Nat) (ls : List ByteArray) : Prop := ∀ j s, ls[j]? = some s → w.cell? ⟨g, j, none⟩ = some (.string s) ∧ s.size ≤ maxLen
set_option maxHeartbeats 800000 in
theorem named_yes {w : World} {g n : Nat} {ls : List ByteArray} (c : Nat) (hlen : ls.length = n) (hc : OneOf w g ls) (hn : ls.length ≤ 1000000) (hall : ∀ s ∈ ls, goodS s = true) :
    Calls Try.prog 23 #[.slice (some ⟨g, 0, none⟩) n c] w fun e w' => e = .returned (.bool true) ∧ w = w' := by
  subst hlen
  have hn1 : (ls.length : Int) ≤ 1000000 := by omega
  have HC := hide (And.intro hc hall)
  clear hc hall
  go_enter Try.func23, Try.ntmps23
  go_wp2
  go_loop [9] (fun i => ∃ k : Nat, k ≤ ls.length ∧ i = .int .i64 k) (fun i => ls.length - (intOf i).toNat)
  case atStart => exact ⟨0, Nat.zero_le _, rfl⟩
  case round =>
    obtain ⟨k, hk, rfl⟩ := hrel
    by_cases hlt : k < ls.length
    · have hs := List.getElem?_eq_getElem hlt
      obtain ⟨s, hsd⟩ : ∃ s, s = ls[k] := ⟨_, rfl⟩
      rw [← hsd] at hs
      have hcell := (HC.out.1 k s hs).1
      have hmax := (HC.out.1 k s hs).2
      have hg := HC.out.2 s (List.mem_of_getElem? hs)
      have hl := goodS_len hg
      have l1 : (1 : Int) ≤ (s.size : Int) := by omega
      have l2 : (s.size : Int) ≤ 20 := by omega
      have HG := hide hg
      clear hs hg hsd hmax hl
      go_wp2
      go_loop [23] (fun i => ∃ m : Nat, m ≤ s.size ∧ i = .int .i64 m) (fun i => s.size - (intOf i).toNat)
      case atStart => exact ⟨0, Nat.zero_le _, rfl⟩
      case round =>
        obtain ⟨m, hm, rfl⟩ := hrel
        by_cases hlm : m < s.size
        · have hch := good_char hlm HG.out
          go_wp2
          all_goals first
            | (exfalso; simp only [bne_iff_ne, ne_eq] at *; omega)
            | (go_round
               case rel => exact ⟨m + 1, by omega, by go_num⟩
               case measure => simp [intOf]; omega)
        · go_wp2
          go_round
          case rel => exact ⟨k + 1, by omega, by go_num⟩
          case measure => simp [intOf]; omega
    · go_wp2
      go_ret
      exact ⟨rfl, rfl⟩
set_option maxHeartbeats 1600000 in
theorem named_no {w : World} {g n : Nat} {ls : List ByteArray} (c : Nat) (hlen : ls.length = n) (hc : OneOf w g ls) (hn : ls.length ≤ 1000000) (hall : ¬ ∀ s ∈ ls, goodS s = true) :
    Calls Try.prog 23 #[.slice (some ⟨g, 0, none⟩) n c] w fun e w' => e = .returned (.bool false) ∧ w = w' := by
  subst hlen
  have hn1 : (ls.length : Int) ≤ 1000000 := by omega
  have HC := hide (And.intro hc hall)
  clear hc hall
  go_enter Try.func23, Try.ntmps23
  go_wp2
  go_loop [9] (fun i => ∃ k : Nat, k ≤ ls.length ∧ i = .int .i64 k ∧ Hid (∀ s ∈ ls.take k, goodS s = true)) (fun i => ls.length - (intOf i).toNat)
  case atStart => exact ⟨0, Nat.zero_le _, rfl, hide (by simp)⟩
  case round =>
    obtain ⟨k, hk, rfl, HK⟩ := hrel
    by_cases hlt : k < ls.length
    · have hs := List.getElem?_eq_getElem hlt
      obtain ⟨s, hsd⟩ : ∃ s, s = ls[k] := ⟨_, rfl⟩
      rw [← hsd] at hs
      have hcell := (HC.out.1 k s hs).1
      have hmax := (HC.out.1 k s hs).2
      unfold maxLen at hmax
      have hmax1 : (s.size : Int) ≤ 9223372036854775807 := by omega
      by_cases hg : goodS s = true
      · have HK2 : Hid (∀ x ∈ ls.take (k + 1), goodS x = true) := hide (by
          intro x hx
          rw [List.take_add_one, hs] at hx
          rcases List.mem_append.1 hx with hx | hx
          · exact HK.out x hx
          · simp at hx; subst hx; exact hg)
        have hl := goodS_len hg
        have l1 : (1 : Int) ≤ (s.size : Int) := by omega
        have l2 : (s.size : Int) ≤ 20 := by omega
        have HG := hide hg
        clear hs hg hsd hmax hl
        go_wp2
        go_loop [23] (fun i => ∃ m : Nat, m ≤ s.size ∧ i = .int .i64 m) (fun i => s.size - (intOf i).toNat)
        case atStart => exact ⟨0, Nat.zero_le _, rfl⟩
        case round =>
          obtain ⟨m, hm, rfl⟩ := hrel
          by_cases hlm : m < s.size
          · have hch := good_char hlm HG.out
            go_wp2
            all_goals first
              | (exfalso; simp only [bne_iff_ne, ne_eq] at *; omega)
              | (go_round
                 case rel => exact ⟨m + 1, by omega, by go_num⟩
                 case measure => simp [intOf]; omega)
          · go_wp2
            go_round
            case rel => exact ⟨k + 1, by omega, by go_num, HK2⟩
            case measure => simp [intOf]; omega
      · have HG := hide hg
        clear hg hsd hs hmax
        by_cases l1 : (s.size : Int) < 1
        · go_wp2
          go_ret
          exact ⟨rfl, rfl⟩
        by_cases l2 : (20 : Int) < (s.size : Int)
        · go_wp2
          go_ret
          exact ⟨rfl, rfl⟩
        go_wp2
        go_loop [23] (fun i => ∃ m : Nat, m ≤ s.size ∧ i = .int .i64 m ∧ Hid (okc s m)) (fun i => s.size - (intOf i).toNat)
        case atStart => exact ⟨0, Nat.zero_le _, rfl, hide (fun j hj h => by omega)⟩
        case round =>
          obtain ⟨m, hm, rfl, HO⟩ := hrel
          by_cases hlm : m < s.size
          · by_cases hch : (97 ≤ (s[m].toNat : Int) ∧ (s[m].toNat : Int) ≤ 122) ∨ (48 ≤ (s[m].toNat : Int) ∧ (s[m].toNat : Int) ≤ 57) ∨ (s[m].toNat : Int) = 46 ∨ (s[m].toNat : Int) = 45
            · have HO2 := hide (okc_succ HO.out hlm hch)
              go_wp2
              all_goals first
                | (exfalso; simp only [bne_iff_ne, ne_eq] at *; omega)
                | (go_round
                   case rel => exact ⟨m + 1, by omega, by go_num, HO2⟩
                   case measure => simp [intOf]; omega)
            · have e1 : ((s[m].toNat : Int) != 46) = true := by simp only [bne_iff_ne, ne_eq]; omega
              have e2 : ((s[m].toNat : Int) != 45) = true := by simp only [bne_iff_ne, ne_eq]; omega
              have e3 : ((s[m].toNat : Int) < 97 ∨ 122 < (s[m].toNat : Int)) := by omega
              have e4 : ((s[m].toNat : Int) < 48 ∨ 57 < (s[m].toNat : Int)) := by omega
              clear hch
              go_wp2
              all_goals (go_ret; exact ⟨rfl, rfl⟩)
          · exfalso
            refine HG.out (bad_some (by omega) (by omega) fun j hj => HO.out j hj (by omega))
    · exfalso
      have : k = ls.length := by omega
      subst this
      exact HC.out.2 (by simpa using HK.out)
/-- at lists of bytes -/
theorem goodS_mk (l : Bs) : goodS ⟨l.toArray⟩ = good l := by unfold goodS; simp
theorem OneOf.one {w : World} {l : Bs} (hl : l.length ≤ 1000000) : OneOf (w.alloc (.cells #[tx l] 9)) w.heap.size [⟨l.toArray⟩] := by
  intro j s hs
  match j, hs with
  | 0, hs =>
    simp at hs
    subst hs
    refine ⟨?_, by show l.toArray.size ≤ maxLen; simp; unfold maxLen; omega⟩
    rw [World.cell?_alloc_at _ _ _ _ rfl]
    rfl
  | j + 1, hs => simp at hs
theorem OneOf.two {w : World} {l m : Bs} (hl : l.length ≤ 1000000) (hm : m.length ≤ 1000000) : OneOf (w.alloc (.cells #[tx l, tx m] 9)) w.heap.size [⟨l.toArray⟩, ⟨m.toArray⟩] := by
  intro j s hs
  match j, hs with
  | 0, hs =>
    simp at hs
    subst hs
    refine ⟨?_, by show l.toArray.size ≤ maxLen; simp; unfold maxLen; omega⟩
    rw [World.cell?_alloc_at _ _ _ _ rfl]
    rfl
  | 1, hs =>
    simp at hs
    subst hs
    refine ⟨?_, by show m.toArray.size ≤ maxLen; simp; unfold maxLen; omega⟩
    rw [World.cell?_alloc_at _ _ _ _ rfl]
    rfl
  | j + 2, hs => simp at hs
/-- one name, in a row of its own -/
theorem named1_yes {w : World} {l : Bs} (hl : l.length ≤ 1000000) (hg : good l = true) :
    Calls Try.prog 23 #[.slice (some ⟨w.heap.size, 0, none⟩) 1 1] (w.alloc (.cells #[tx l] 9)) fun e w' => e = .returned (.bool true) ∧ w.alloc (.cells #[tx l] 9) = w' :=
  named_yes 1 rfl (OneOf.one hl) (by simp) (by simp [goodS_mk, hg])
theorem named1_no {w : World} {l : Bs} (hl : l.length ≤ 1000000) (hg : good l = false) :
    Calls Try.prog 23 #[.slice (some ⟨w.heap.size, 0, none⟩) 1 1] (w.alloc (.cells #[tx l] 9)) fun e w' => e = .returned (.bool false) ∧ w.alloc (.cells #[tx l] 9) = w' :=
  named_no 1 rfl (OneOf.one hl) (by simp) (by simp [goodS_mk, hg])
theorem named2_yes {w : World} {l m : Bs} (hl : l.length ≤ 1000000) (hm : m.length ≤ 1000000) (hg : good l = true) (hg2 : good m = true) :
    Calls Try.prog 23 #[.slice (some ⟨w.heap.size, 0, none⟩) 2 2] (w.alloc (.cells #[tx l, tx m] 9)) fun e w' => e = .returned (.bool true) ∧ w.alloc (.cells #[tx l, tx m] 9) = w' :=
  named_yes 2 rfl (OneOf.two hl hm) (by simp) (by simp [goodS_mk, hg, hg2])
theorem named2_no {w : World} {l m : Bs} (hl : l.length ≤ 1000000) (hm : m.length ≤ 1000000) (hg : ¬ (good l = true ∧ good m = true)) :
    Calls Try.prog 23 #[.slice (some ⟨w.heap.size, 0, none⟩) 2 2] (w.alloc (.cells #[tx l, tx m] 9)) fun e w' => e = .returned (.bool false) ∧ w.alloc (.cells #[tx l, tx m] 9) = w' :=
  named_no 2 rfl (OneOf.two hl hm) (by simp) (by simp [goodS_mk]; simpa using hg)
end Go.Proofs.Ytlnmjkilefnjpaa
