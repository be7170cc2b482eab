/-
  The laws' own helpers: joined.
-/
import Derived.Test.YtpglncaigmnjcaaConcat
namespace Go.Proofs.Ytpglncaigmnjcaa
open Go.RowKit

theorem ba_eq {s : ByteArray} {l : List UInt8} (h : s.data.toList = l) : s = ⟨l.toArray⟩ := by
  obtain ⟨⟨d⟩⟩ := s
  simp at h
  rw [h]
theorem ba_size {s : ByteArray} {l : List UInt8} (h : s.data.toList = l) : s.size = l.length := by rw [← h]; simp
theorem ba_append {s t : ByteArray} : (s ++ t).data.toList = s.data.toList ++ t.data.toList := by simp
set_option maxHeartbeats 800000 in
theorem joined_yes {w : World} {B n : Nat} {A : Option Addr} {ps : List (List UInt8)} (c : Nat) (m : Int) (hr : Rp w B A n ps) (hn : n ≤ 50) (hm : m ≤ 10000) (ht : (tot ps : Int) ≤ m) :
    Calls Try.prog 10 #[.slice A n c, .int .i64 m] w fun e w' => e = .returned (.tuple #[.string ⟨ps.flatten.toArray⟩, .bool true]) ∧ w = w' := by
  have hm0 : (0 : Int) ≤ m := by omega
  have hni : (n : Int) ≤ 50 := by omega
  have HT := hide ht
  clear hn ht
  go_enter Try.func10, Try.ntmps10
  go_wp2
  go_loop [6, 14] (fun v i => ∃ (k : Nat) (s : ByteArray), k ≤ n ∧ i = .int .i64 k ∧ v = .string s ∧ s.data.toList = (ps.take k).flatten ∧ (tot (ps.take k) : Int) ≤ m) (fun _ i => n - (intOf i).toNat)
  case atStart => exact ⟨0, ⟨#[]⟩, Nat.zero_le _, rfl, rfl, rfl, by simp [tot]; omega⟩
  case round =>
    obtain ⟨k, s, hk, rfl, rfl, hs, htk⟩ := hrel
    have hsz := ba_size hs
    rw [show (ps.take k).flatten.length = tot (ps.take k) from rfl] at hsz
    by_cases hlt : k < n
    · obtain ⟨l, hl⟩ : ∃ l, ps[k]? = some l := ⟨_, List.getElem?_eq_getElem (by rw [hr.len]; exact hlt)⟩
      obtain ⟨b, o, A', n', c', rfl, hbB, hcell, hrb, hn'⟩ := hr.at_ k l hl
      unfold maxLen at hn'
      have hs1 := tot_snoc hl
      rw [hrb.len] at hs1
      have hfl := flat_snoc hl
      have hls : (⟨l.toArray⟩ : ByteArray).size = n' := by rw [← hrb.len]; simp [ByteArray.size]
      have hss : (s.size : Int) ≤ m := by omega
      have hs2 : (tot (ps.take (k + 1)) : Int) ≤ m := by have := tot_le ps (k + 1); have := HT.out; omega
      have hs3 : (n' : Int) ≤ m - (s.size : Int) := by omega
      have HL := hide (And.intro hs (And.intro hfl (And.intro hrb (And.intro hls hs2))))
      clear hs hfl hrb hls hs2 hs1 hl hsz htk hr
      go_wp2_with ((with_reducible show wpList _ _ _ ({ dst := _, op := .convert 30 9 _, type := _, pos := _, after := _, guard := _ } :: _) _ _); refine wpList_bytes_string Try.underlying30 Try.underlying5 Try.underlying9 rfl HL.out.2.2.1 ?_; have hls2 := HL.out.2.2.2.1)
      go_round
      case rel => exact ⟨k + 1, s ++ ⟨l.toArray⟩, by omega, by go_num, rfl, by rw [ba_append, HL.out.1, HL.out.2.1], HL.out.2.2.2.2⟩
      case measure => simp [intOf]; omega
    · have hall : ps.take k = ps := List.take_of_length_le (by rw [hr.len]; omega)
      rw [hall] at hs
      have HS := hide hs
      clear hall hs hsz htk hr
      go_wp2
      go_ret2
      exact ⟨by rw [ba_eq HS.out]; rfl, rfl⟩
set_option maxHeartbeats 800000 in
theorem joined_no {w : World} {B n : Nat} {A : Option Addr} {ps : List (List UInt8)} (c : Nat) (m : Int) (hr : Rp w B A n ps) (hn : n ≤ maxLen) (hm0 : 0 ≤ m) (hm : m ≤ 10000) (ht : ¬ (n ≤ 50 ∧ (tot ps : Int) ≤ m)) :
    Calls Try.prog 10 #[.slice A n c, .int .i64 m] w fun e w' => e = .returned (.tuple #[.string ⟨#[]⟩, .bool false]) ∧ w = w' := by
  unfold maxLen at hn
  by_cases hnn : 50 < n
  · have hni : (50 : Int) < (n : Int) := by omega
    clear hnn ht
    go_enter Try.func10, Try.ntmps10
    go_wp2
    go_ret2
    exact ⟨rfl, rfl⟩
  have hni : (n : Int) ≤ 50 := by omega
  have ht2 : ¬ (tot ps : Int) ≤ m := by omega
  have HT := hide ht2
  clear hn ht ht2 hnn
  go_enter Try.func10, Try.ntmps10
  go_wp2
  go_loop [6, 14] (fun v i => ∃ (k : Nat) (s : ByteArray), k ≤ n ∧ i = .int .i64 k ∧ v = .string s ∧ s.data.toList = (ps.take k).flatten ∧ (tot (ps.take k) : Int) ≤ m) (fun _ i => n - (intOf i).toNat)
  case atStart => exact ⟨0, ⟨#[]⟩, Nat.zero_le _, rfl, rfl, rfl, by simp [tot]; omega⟩
  case round =>
    obtain ⟨k, s, hk, rfl, rfl, hs, htk⟩ := hrel
    have hsz := ba_size hs
    rw [show (ps.take k).flatten.length = tot (ps.take k) from rfl] at hsz
    by_cases hlt : k < n
    · obtain ⟨l, hl⟩ : ∃ l, ps[k]? = some l := ⟨_, List.getElem?_eq_getElem (by rw [hr.len]; exact hlt)⟩
      obtain ⟨b, o, A', n', c', rfl, hbB, hcell, hrb, hn'⟩ := hr.at_ k l hl
      unfold maxLen at hn'
      have hs1 := tot_snoc hl
      rw [hrb.len] at hs1
      have hfl := flat_snoc hl
      have hls : (⟨l.toArray⟩ : ByteArray).size = n' := by rw [← hrb.len]; simp [ByteArray.size]
      have hss : (s.size : Int) ≤ m := by omega
      by_cases hs3 : (n' : Int) ≤ m - (s.size : Int)
      · have hs2 : (tot (ps.take (k + 1)) : Int) ≤ m := by omega
        have HL := hide (And.intro hs (And.intro hfl (And.intro hrb (And.intro hls hs2))))
        clear hs hfl hrb hls hs2 hs1 hl hsz htk hr
        go_wp2_with ((with_reducible show wpList _ _ _ ({ dst := _, op := .convert 30 9 _, type := _, pos := _, after := _, guard := _ } :: _) _ _); refine wpList_bytes_string Try.underlying30 Try.underlying5 Try.underlying9 rfl HL.out.2.2.1 ?_; have hls2 := HL.out.2.2.2.1)
        go_round
        case rel => exact ⟨k + 1, s ++ ⟨l.toArray⟩, by omega, by go_num, rfl, by rw [ba_append, HL.out.1, HL.out.2.1], HL.out.2.2.2.2⟩
        case measure => simp [intOf]; omega
      · have hs4 : m - (s.size : Int) < (n' : Int) := by omega
        clear hs hfl hrb hls hs1 hl hsz htk hr hs3
        go_wp2
        go_ret2
        exact ⟨rfl, rfl⟩
    · have hall : ps.take k = ps := List.take_of_length_le (by rw [hr.len]; omega)
      rw [hall] at htk
      have := HT.out
      omega
end Go.Proofs.Ytpglncaigmnjcaa
