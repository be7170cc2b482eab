/-
  A text's digest, plain; the walk of IndexByte.
-/
import Derived.Test.YtmeilpehlkpofaaRefText
namespace Go.Proofs.Ytmeilpehlkpofaa
open Go.RowKit
open sha

/-- The digit's value, or -1. -/
def hv (x : UInt8) : Int := match (List.range 16).find? fun i => hexs[i]! == x with
  | some i => (i : Int)
  | none => -1
theorem hv_table : ∀ x : Fin 256, ((hv (UInt8.ofNat x.1) == -1 && (List.range 16).all (fun n => hexd n != UInt8.ofNat x.1)) || (List.range 16).any (fun n => hv (UInt8.ofNat x.1) == (n : Int) && UInt8.ofNat x.1 == hexd n)) = true := by decide +kernel
theorem hv_cases (x : UInt8) : (hv x = -1 ∧ ∀ n, n < 16 → hexd n ≠ x) ∨ ∃ n : Nat, n < 16 ∧ hv x = (n : Int) ∧ x = hexd n := by
  have h := hv_table ⟨x.toNat, x.toNat_lt⟩
  have e : UInt8.ofNat x.toNat = x := by simp
  simp only [e] at h
  rw [Bool.or_eq_true, Bool.and_eq_true, beq_iff_eq, List.all_eq_true, List.any_eq_true] at h
  simp only [Bool.and_eq_true, beq_iff_eq, List.mem_range, bne_iff_ne] at h
  rcases h with ⟨h1, h2⟩ | ⟨n, h1, h2, h3⟩
  · exact .inl ⟨h1, h2⟩
  · exact .inr ⟨n, h1, h2, h3⟩
theorem hexd_inj : ∀ a b : Fin 16, hexd a.1 = hexd b.1 → a = b := by decide +kernel
theorem hv_hexd {n : Nat} (h : n < 16) : hv (hexd n) = (n : Int) := by
  rcases hv_cases (hexd n) with ⟨_, h2⟩ | ⟨m, hm, h2, h3⟩
  · exact absurd rfl (h2 n h)
  · have := hexd_inj ⟨n, h⟩ ⟨m, hm⟩ h3
    rw [h2, show m = n from by injection this with t; exact t.symm]
/-- The first j bytes that the text's pairs tell. -/
def pj (l : List UInt8) : Nat → Option (List UInt8)
  | 0 => some []
  | j + 1 => if 0 ≤ hv (l.getD (2 * j) 0) ∧ 0 ≤ hv (l.getD (2 * j + 1) 0) then (pj l j).map (· ++ [UInt8.ofNat (16 * (hv (l.getD (2 * j) 0)).toNat + (hv (l.getD (2 * j + 1) 0)).toNat)]) else none
def parse (l : List UInt8) : Option (List UInt8) := if l.length = 64 then pj l 32 else none
theorem pj_length {l : List UInt8} : ∀ {j : Nat} {k : List UInt8}, pj l j = some k → k.length = j
  | 0, k, h => by simp [pj] at h; subst h; rfl
  | j + 1, k, h => by
    rw [pj] at h
    split at h
    · obtain ⟨k', hk', rfl⟩ := Option.map_eq_some_iff.1 h
      rw [List.length_append, pj_length hk']; rfl
    · cases h
theorem pj_none {l : List UInt8} {j m : Nat} (h : pj l j = none) (hm : j ≤ m) : pj l m = none := by
  obtain ⟨d, rfl⟩ : ∃ d, m = j + d := ⟨m - j, by omega⟩
  clear hm
  induction d with
  | zero => exact h
  | succ d ih =>
    rw [← Nat.add_assoc, pj, ih]
    split <;> rfl
theorem hexd_byte : ∀ a b : Fin 16, (UInt8.ofNat (16 * a.1 + b.1)).toNat / 16 = a.1 ∧ (UInt8.ofNat (16 * a.1 + b.1)).toNat % 16 = b.1 := by decide +kernel
/-- What is parsed has the text. -/
theorem pj_text {l : List UInt8} : ∀ {j : Nat} {k : List UInt8}, pj l j = some k → 2 * j ≤ l.length → hexText k = l.take (2 * j)
  | 0, k, h, _ => by simp [pj] at h; subst h; rfl
  | j + 1, k, h, hj => by
    rw [pj] at h
    split at h
    · rename_i hc
      obtain ⟨k', hk', rfl⟩ := Option.map_eq_some_iff.1 h
      rw [hexText_snoc, pj_text hk' (by omega)]
      have h1 : l[2 * j]? = some (l.getD (2 * j) 0) := by rw [List.getD_eq_getElem?_getD, List.getElem?_eq_getElem (by omega)]; rfl
      have h2 : l[2 * j + 1]? = some (l.getD (2 * j + 1) 0) := by rw [List.getD_eq_getElem?_getD, List.getElem?_eq_getElem (by omega)]; rfl
      rw [show 2 * (j + 1) = 2 * j + 1 + 1 from by omega, take_snoc h2, take_snoc h1]
      rcases hv_cases (l.getD (2 * j) 0) with ⟨e, _⟩ | ⟨a, ha, e1, x1⟩
      · omega
      · rcases hv_cases (l.getD (2 * j + 1) 0) with ⟨e, _⟩ | ⟨b, hb, e2, x2⟩
        · omega
        · have := hexd_byte ⟨a, ha⟩ ⟨b, hb⟩
          rw [e1, e2, Int.toNat_natCast, Int.toNat_natCast, this.1, this.2, ← x1, ← x2, List.append_assoc]
          rfl
    · cases h
theorem hex_pair {k : List UInt8} {j : Nat} {x : UInt8} (h : k[j]? = some x) : (hexText k).getD (2 * j) 0 = hexd (x.toNat / 16) ∧ (hexText k).getD (2 * j + 1) 0 = hexd (x.toNat % 16) := by
  have hj : j < k.length := (List.getElem?_eq_some_iff.1 h).1
  have e : hexText k = hexText (k.take j) ++ ([hexd (x.toNat / 16), hexd (x.toNat % 16)] ++ hexText (k.drop (j + 1))) := by
    conv => lhs; rw [← List.take_append_drop j k]
    have : k.drop j = x :: k.drop (j + 1) := by obtain ⟨hj, rfl⟩ := List.getElem?_eq_some_iff.1 h; exact List.drop_eq_getElem_cons hj
    rw [this]
    unfold hexText
    rw [List.flatMap_append]; rfl
  have hl : (hexText (k.take j)).length = 2 * j := by rw [hexText_length, List.length_take]; omega
  rw [e]
  constructor
  · rw [List.getD_eq_getElem?_getD, List.getElem?_append_right (by omega), hl, Nat.sub_self]; rfl
  · rw [List.getD_eq_getElem?_getD, List.getElem?_append_right (by omega), hl, show 2 * j + 1 - 2 * j = 1 from by omega]; rfl
/-- A key's text is parsed to it. -/
theorem pj_hexText (k : List UInt8) : ∀ j, j ≤ k.length → pj (hexText k) j = some (k.take j)
  | 0, _ => rfl
  | j + 1, hj => by
    obtain ⟨x, hx⟩ : ∃ x, k[j]? = some x := ⟨_, List.getElem?_eq_getElem (by omega)⟩
    obtain ⟨p1, p2⟩ := hex_pair hx
    have bx := x.toNat_lt
    rw [pj, p1, p2, hv_hexd (by omega), hv_hexd (by omega), if_pos ⟨by omega, by omega⟩, pj_hexText k j (by omega), take_snoc hx]
    simp only [Option.map_some, Int.toNat_natCast]
    congr 3
    rw [show 16 * (x.toNat / 16) + x.toNat % 16 = x.toNat from by omega]
    simp
theorem parse_hexText {k : List UInt8} (h : k.length = 32) : parse (hexText k) = some k := by
  unfold parse
  rw [if_pos (by rw [hexText_length, h]), pj_hexText k 32 (by omega), List.take_of_length_le (by omega)]
theorem parse_text {l k : List UInt8} (h : parse l = some k) : hexText k = l ∧ k.length = 32 := by
  unfold parse at h
  split at h
  · rename_i hl
    refine ⟨?_, pj_length h⟩
    rw [pj_text h (by omega), List.take_of_length_le (by omega)]
  · cases h

theorem run_index_hex {w : World} {B c : Nat} {A : Option Addr} (x : UInt8) (h : Rb w B A 16 hexs.data.toList) :
    (Extern.BytealgIndexByte.indexByte #[.slice A 16 c, .int .u8 (x.toNat : Int)]).run Try.prog w = .ok (.int .i64 (hv x)) w := by
  change Sem.run Try.prog (do
    let b ← Extern.Bytes.bytesOf (.slice A 16 c)
    let c ← Extern.Bytes.asByte (.int .u8 (x.toNat : Int))
    match (List.range b.size).find? fun i => b[i]! == c with
    | some i => pure (goInt i)
    | none => pure (goInt (-1))) w = _
  have e : (x.toNat : Int).toNat.toUInt8 = x := by simp
  simp only [Sem.run_bind, run_bytesOf_rb h, Sem.run_pure, Result.andThen, Extern.Bytes.asByte, e]
  unfold hv
  have e2 : (⟨hexs.data.toList.toArray⟩ : ByteArray) = hexs := rfl
  rw [e2]
  have e3 : hexs.size = 16 := rfl
  rw [e3]
  cases (List.range 16).find? fun i => hexs[i]! == x <;> rfl
set_option maxHeartbeats 400000 in
theorem indexbyte_any {w : World} {B : Nat} (c : Nat) {A : Option Addr} (x : UInt8) (h : Rb w B A 16 hexs.data.toList) :
    Calls Try.prog 23 #[.slice A 16 c, .int .u8 (x.toNat : Int)] w fun e w' => e = .returned (.int .i64 (hv x)) ∧ w' = w := by
  go_enter Try.func23, Try.ntmps23
  go_wp2
  rw [run_callFunc_extern Try.func29 (by kernel_rfl) (by kernel_rfl) (by kernel_rfl) (e := Extern.BytealgIndexByte.indexByte) (by kernel_rfl), run_index_hex x h]
  simp only [Result.andThen]
  rw [Oper.upon_value]
  go_wp2
  go_ret
  exact ⟨rfl, rfl⟩
end Go.Proofs.Ytmeilpehlkpofaa
