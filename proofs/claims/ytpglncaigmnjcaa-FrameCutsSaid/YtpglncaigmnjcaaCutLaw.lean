/-
  The plain law of frames' bytes that are cut off anywhere.
-/
import Derived.Test.YtpglncaigmnjcaaScansWalk
namespace Go.Proofs.Ytpglncaigmnjcaa
open Go.RowKit

def encs : Nat → List (List UInt8) → List UInt8
  | _, [] => []
  | i, p :: ps => enc (i % 9 + 1) p ++ encs (i + 1) ps
/-- the frames that stand whole ahead of the cut, and their bytes -/
def whole : Nat → List (List UInt8) → Nat → List (Nat × List UInt8) × Nat
  | _, [], _ => ([], 0)
  | i, p :: ps, k => if p.length + 9 ≤ k then ((i % 9 + 1, p) :: (whole (i + 1) ps (k - (p.length + 9))).1, p.length + 9 + (whole (i + 1) ps (k - (p.length + 9))).2) else ([], 0)
def endsOf : Nat → List (List UInt8) → List Nat
  | _, [] => []
  | b, p :: ps => (b + (p.length + 9)) :: endsOf (b + (p.length + 9)) ps
def foldE (k : Nat) (s : Nat × Nat) (es : List Nat) : Nat × Nat := es.foldl (fun s x => if x ≤ k then (s.1 + 1, x) else s) s

theorem encs_length (i : Nat) (p : List UInt8) (ps : List (List UInt8)) : (encs i (p :: ps)).length = p.length + 9 + (encs (i + 1) ps).length := by
  show (enc (i % 9 + 1) p ++ encs (i + 1) ps).length = _
  rw [List.length_append, enc_length]
theorem num_take {l : List UInt8} {n : Nat} (h : 4 ≤ n) : num (l.take n) = num l := by
  simp only [num, List.getElem?_take]
  rw [if_pos (by omega), if_pos (by omega), if_pos (by omega), if_pos (by omega)]
theorem num_encs (i : Nat) (p : List UInt8) (ps : List (List UInt8)) (hp : p.length ≤ 8192) : num (encs i (p :: ps)) = p.length := by
  show num (enc (i % 9 + 1) p ++ encs (i + 1) ps) = _
  unfold enc
  rw [List.append_assoc, List.append_assoc, num_four_app, BitVec.toNat_ofNat]
  omega
theorem cut_scan : ∀ (ps : List (List UInt8)) (i : Nat) (pre : List UInt8) (k : Nat), k ≤ (encs i ps).length → (∀ p ∈ ps, p.length ≤ 8192) →
    scan ((pre ++ encs i ps).take (pre.length + k)) pre.length = ((whole i ps k).1, pre.length + (whole i ps k).2)
  | [], i, pre, k, hk, _ => by
    have hk0 : k = 0 := by simp [encs] at hk; omega
    subst hk0
    rw [scan_none (by unfold step; rw [if_pos (by simp [encs])])]
    rfl
  | p :: ps, i, pre, k, hk, hp => by
    have hp0 := hp p (by simp)
    have hL : ((pre ++ encs i (p :: ps)).take (pre.length + k)).length = pre.length + k := by
      rw [List.length_take, List.length_append]; omega
    have hd : ((pre ++ encs i (p :: ps)).take (pre.length + k)).drop pre.length = (encs i (p :: ps)).take k := by
      rw [List.drop_take, List.drop_left, Nat.add_sub_cancel_left]
    unfold whole
    by_cases hfit : p.length + 9 ≤ k
    · rw [if_pos hfit]
      have hnum : num (((pre ++ encs i (p :: ps)).take (pre.length + k)).drop pre.length) = p.length := by
        rw [hd, num_take (by omega), num_encs i p ps hp0]
      have htake : (((pre ++ encs i (p :: ps)).take (pre.length + k)).drop pre.length).take (9 + p.length) = enc (i % 9 + 1) p := by
        rw [hd, List.take_take, show min (9 + p.length) k = 9 + p.length from by omega]
        show (enc (i % 9 + 1) p ++ encs (i + 1) ps).take _ = _
        rw [List.take_append_of_le_length (by rw [enc_length]; omega), List.take_of_length_le (by rw [enc_length]; omega)]
      have hs : step ((pre ++ encs i (p :: ps)).take (pre.length + k)) pre.length = some (p.length, i % 9 + 1, p) := by
        unfold step
        rw [if_neg (by omega), hnum, if_neg (by omega), htake, dec_enc _ _ (by omega) (by omega) hp0]
        rfl
      rw [scan_some hs]
      have e1 : pre ++ encs i (p :: ps) = (pre ++ enc (i % 9 + 1) p) ++ encs (i + 1) ps := by rw [List.append_assoc]; rfl
      have e2 : pre.length + k = (pre ++ enc (i % 9 + 1) p).length + (k - (p.length + 9)) := by rw [List.length_append, enc_length]; omega
      have e3 : pre.length + 9 + p.length = (pre ++ enc (i % 9 + 1) p).length := by rw [List.length_append, enc_length]; omega
      rw [e1, e2, e3, cut_scan ps (i + 1) (pre ++ enc (i % 9 + 1) p) (k - (p.length + 9)) (by rw [encs_length] at hk; omega) (fun q hq => hp q (by simp [hq]))]
      rw [List.length_append, enc_length]
      simp only [Nat.add_assoc]
    · rw [if_neg hfit]
      have hs : step ((pre ++ encs i (p :: ps)).take (pre.length + k)) pre.length = none := by
        unfold step
        by_cases h9 : k < 9
        · rw [if_pos (by omega)]
        · rw [if_neg (by omega), if_pos]
          rw [hd, num_take (by omega), num_encs i p ps hp0]
          omega
      rw [scan_none hs]
      rfl

theorem foldE_far (k : Nat) : ∀ (ps : List (List UInt8)) (b : Nat) (s : Nat × Nat), k < b → foldE k s (endsOf b ps) = s
  | [], _, _, _ => rfl
  | p :: ps, b, s, h => by
    show foldE k (if b + (p.length + 9) ≤ k then (s.1 + 1, b + (p.length + 9)) else s) (endsOf (b + (p.length + 9)) ps) = s
    rw [if_neg (by omega)]
    exact foldE_far k ps _ s (by omega)
theorem foldE_whole (k : Nat) : ∀ (ps : List (List UInt8)) (i b c : Nat), b ≤ k → foldE k (c, b) (endsOf b ps) = (c + (whole i ps (k - b)).1.length, b + (whole i ps (k - b)).2)
  | [], _, _, _, _ => rfl
  | p :: ps, i, b, c, h => by
    show foldE k (if b + (p.length + 9) ≤ k then (c + 1, b + (p.length + 9)) else (c, b)) (endsOf (b + (p.length + 9)) ps) = _
    unfold whole
    by_cases hf : b + (p.length + 9) ≤ k
    · rw [if_pos hf, if_pos (by omega), foldE_whole k ps (i + 1) (b + (p.length + 9)) (c + 1) hf, show k - b - (p.length + 9) = k - (b + (p.length + 9)) from by omega]
      simp only [List.length_cons, Prod.mk.injEq]
      omega
    · rw [if_neg hf, if_neg (by omega), foldE_far k ps _ _ (by omega)]
      rfl
theorem whole_get : ∀ (ps : List (List UInt8)) (i k j : Nat) {f : Nat × List UInt8}, (whole i ps k).1[j]? = some f → ∃ p, ps[j]? = some p ∧ f = ((i + j) % 9 + 1, p)
  | [], _, _, _, _, h => by simp [whole] at h
  | p :: ps, i, k, j, f, h => by
    unfold whole at h
    split at h
    · match j, h with
      | 0, h =>
        simp at h
        exact ⟨p, rfl, h.symm⟩
      | j + 1, h =>
        obtain ⟨q, hq, e⟩ := whole_get ps (i + 1) _ j (f := f) (by simpa using h)
        exact ⟨q, by simpa using hq, by rw [e, show i + 1 + j = i + (j + 1) from by omega]⟩
    · simp at h
theorem encs_snoc : ∀ (ps : List (List UInt8)) (i : Nat) (p : List UInt8), encs i (ps ++ [p]) = encs i ps ++ enc ((i + ps.length) % 9 + 1) p
  | [], i, p => by simp [encs]
  | q :: ps, i, p => by
    show enc (i % 9 + 1) q ++ encs (i + 1) (ps ++ [p]) = (enc (i % 9 + 1) q ++ encs (i + 1) ps) ++ _
    rw [encs_snoc ps (i + 1) p, List.append_assoc, List.length_cons, show i + 1 + ps.length = i + (ps.length + 1) from by omega]
theorem encs_len : ∀ (ps : List (List UInt8)) (i : Nat), (encs i ps).length = tot ps + 9 * ps.length
  | [], _ => rfl
  | p :: ps, i => by
    rw [encs_length, encs_len ps (i + 1)]
    unfold tot
    rw [List.flatten_cons, List.length_append, List.length_cons]
    omega
theorem endsOf_snoc : ∀ (ps : List (List UInt8)) (b : Nat) (p : List UInt8), endsOf b (ps ++ [p]) = endsOf b ps ++ [b + tot (ps ++ [p]) + 9 * (ps.length + 1)]
  | [], b, p => by simp [endsOf, tot]; omega
  | q :: ps, b, p => by
    show (b + (q.length + 9)) :: endsOf (b + (q.length + 9)) (ps ++ [p]) = (b + (q.length + 9)) :: endsOf (b + (q.length + 9)) ps ++ _
    rw [endsOf_snoc ps _ p]
    unfold tot
    rw [List.cons_append, List.cons_append, List.flatten_cons, List.length_append, List.length_cons]
    congr 3
    omega
theorem endsOf_length : ∀ (ps : List (List UInt8)) (b : Nat), (endsOf b ps).length = ps.length
  | [], _ => rfl
  | p :: ps, b => by show (endsOf _ ps).length + 1 = _; rw [endsOf_length ps]; rfl
theorem endsOf_le : ∀ (ps : List (List UInt8)) (b : Nat), ∀ x ∈ endsOf b ps, x ≤ b + tot ps + 9 * ps.length
  | [], _, x, h => by simp [endsOf] at h
  | p :: ps, b, x, h => by
    have ht : tot (p :: ps) = p.length + tot ps := by unfold tot; rw [List.flatten_cons, List.length_append]
    rw [ht, List.length_cons]
    cases List.mem_cons.1 h with
    | inl e => subst e; omega
    | inr e => have := endsOf_le ps _ x e; omega
theorem whole_len : ∀ (ps : List (List UInt8)) (i k : Nat), (whole i ps k).1.length ≤ ps.length
  | [], _, _ => Nat.le_refl _
  | p :: ps, i, k => by
    unfold whole
    split
    · have := whole_len ps (i + 1) (k - (p.length + 9))
      simp only [List.length_cons]; omega
    · simp
theorem part_le {ps : List (List UInt8)} {j : Nat} {p : List UInt8} (h : ps[j]? = some p) : p.length ≤ tot ps := by
  have h1 := tot_snoc h
  have h2 := tot_le ps (j + 1)
  omega
end Go.Proofs.Ytpglncaigmnjcaa
