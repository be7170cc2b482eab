/-
  The walk of the first 64 primes.
-/
import Derived.Test.YtmeilpehlkpofaaWordsB
namespace Go.Proofs.Ytmeilpehlkpofaa
open Go.RowKit
open sha

theorem prs_le (k d : Nat) : (prs k).length ≤ (prs (k + d)).length := by
  induction d with
  | zero => exact Nat.le_refl _
  | succ d ih =>
    refine Nat.le_trans ih ?_
    rw [← Nat.add_assoc, prs]
    split
    · simp
    · exact Nat.le_refl _
theorem prs_few {k : Nat} (h : k < 310) : (prs k).length < 64 := by
  have := prs_le k (309 - k)
  rw [show k + (309 - k) = 309 from by omega, prs309] at this
  omega
theorem prs_pos (k : Nat) : ∀ p ∈ prs k, 2 ≤ p ∧ p < k + 2 := by
  induction k with
  | zero => intro p hp; simp [prs] at hp
  | succ k ih =>
    intro p hp
    rw [prs] at hp
    split at hp
    · rcases List.mem_append.1 hp with h | h
      · have := ih p h; omega
      · simp at h; omega
    · have := ih p hp; omega
theorem take_snoc {α : Type} {l : List α} {k : Nat} {x : α} (h : l[k]? = some x) : l.take (k + 1) = l.take k ++ [x] := by
  rw [List.take_add_one, h]; rfl
set_option maxRecDepth 100000 in
set_option maxHeartbeats 800000 in
theorem primes_any (w : World) :
    Calls Try.prog 25 #[.int .i64 64] w fun e w' => ∃ A c, e = .returned (.slice A 64 c) ∧ w'.ownsRow w.heap.size 48 1 (.slice A 64 c) 64 (u64s (prs 310)) ∧ Below w.heap.size w w' := by
  obtain ⟨i8, hi8, hz8, hs8, hb8⟩ := info_parts Try.infoU64
  have HI := hide (And.intro hi8 (And.intro hz8 (And.intro hs8 hb8)))
  clear hi8 hz8 hs8 hb8
  go_enter Try.func25, Try.ntmps25
  go_wp2_with fail
  go_loopw [3, 4] (fun o p wr => ∃ (k : Nat) (A : Option Addr) (c : Nat), k ≤ 310 ∧ p = .int .u64 (((k : Nat) : Int) + 2) ∧ o = .slice A (prs k).length c ∧ wr.ownsRow w.heap.size 48 1 (.slice A (prs k).length c) (prs k).length (u64s (prs k)) ∧ Below w.heap.size w wr)
    (fun _ p _ => 312 - (intOf p).toNat)
  case atStart => exact ⟨0, none, 0, by omega, rfl, rfl, World.ownsRow_nil _ _ _ _, Below.refl _ _⟩
  case round =>
    obtain ⟨k, A, c, hk, rfl, rfl, hown, hb⟩ := hrel
    have hrd := Rd.of_own hown
    have hcap := owns_cap hown
    by_cases hlt : k < 310
    · have hf := prs_few hlt
      have hpos := prs_pos k
      obtain ⟨l, hl⟩ : ∃ l, l = prs k := ⟨_, rfl⟩
      have hnew : prs (k + 1) = if l.all (fun q => (k + 2) % q != 0) then l ++ [k + 2] else l := by rw [hl]; rfl
      rw [← hl] at hown hrd hcap hf hpos ⊢
      have hn0 : (l.length : Int) < 64 := by omega
      have hw : IntKind.u64.wrap ((k : Int) + 2 + 1) = (k : Int) + 2 + 1 := by rw [IntKind.wrap_u64]; omega
      have H := hide (And.intro hown (And.intro hb (And.intro hrd (And.intro hcap (And.intro hpos (And.intro hnew (And.intro hlt hf)))))))
      clear hown hb hrd hcap hpos hl hlt hk hf hnew
      go_wp2_with fail
      go_loop [5, 16] (fun o i => ∃ j : Nat, j ≤ l.length ∧ i = .int .i64 j ∧ o = .bool ((l.take j).all (fun q => (k + 2) % q != 0))) (fun _ i => l.length - (intOf i).toNat)
      case atStart => exact ⟨0, by omega, rfl, by simp⟩
      case round =>
        obtain ⟨j, hj, rfl, rfl⟩ := hrel
        obtain ⟨ok, hok⟩ : ∃ ok, ok = (l.take j).all (fun q => (k + 2) % q != 0) := ⟨_, rfl⟩
        rw [← hok]
        by_cases hjl : j < l.length
        · obtain ⟨q, hq⟩ : ∃ q, l[j]? = some q := ⟨_, List.getElem?_eq_getElem hjl⟩
          obtain ⟨b, o, u, rfl, hbB, hu, hcell⟩ := H.out.2.2.1.at_ (j := j) (by omega)
          have hu2 := u64s_get hq
          rw [hu] at hu2
          injection hu2 with hu2
          subst hu2
          have hqp := H.out.2.2.2.2.1 q (List.mem_of_getElem? hq)
          have hji : (j : Int) < l.length := by omega
          have hq0 : ¬ ((q : Int) = 0) := by omega
          have hrem : ((k : Int) + 2).tmod (q : Int) = (((k + 2) % q : Nat) : Int) := by
            rw [Int.natCast_emod, ← Int.tmod_eq_emod_of_nonneg (by omega)]; rfl
          obtain ⟨r, hr⟩ : ∃ r, r = (k + 2) % q := ⟨_, rfl⟩
          rw [← hr] at hrem
          have HJ := hide (And.intro hok (And.intro hq (And.intro hqp hr)))
          clear hok hq hu hqp hr hjl hj
          by_cases g : ((r : Int) == 0) = true
          · have g2 : ((r : Int) != 0) = false := by simp at g ⊢; omega
            cases ok with
            | false =>
              go_wp2_with fail
              go_round
              case rel => exact ⟨j + 1, by omega, by go_num, by rw [take_snoc HJ.out.2.1, List.all_append, ← HJ.out.1]; rfl⟩
              case measure => simp [intOf]; omega
            | true =>
              go_wp2_with fail
              go_round
              case rel => exact ⟨j + 1, by omega, by go_num, by rw [take_snoc HJ.out.2.1, List.all_append, ← HJ.out.1]; simp at g; simp [← HJ.out.2.2.2]; omega⟩
              case measure => simp [intOf]; omega
          · have g1 : ((r : Int) == 0) = false := by simpa using g
            have g2 : ((r : Int) != 0) = true := by simp at g ⊢; omega
            cases ok with
            | false =>
              go_wp2_with fail
              go_round
              case rel => exact ⟨j + 1, by omega, by go_num, by rw [take_snoc HJ.out.2.1, List.all_append, ← HJ.out.1]; rfl⟩
              case measure => simp [intOf]; omega
            | true =>
              go_wp2_with fail
              go_round
              case rel => exact ⟨j + 1, by omega, by go_num, by rw [take_snoc HJ.out.2.1, List.all_append, ← HJ.out.1]; simp at g; simp [← HJ.out.2.2.2]; omega⟩
              case measure => simp [intOf]; omega
        · have ej : j = l.length := by omega
          have hend : ok = l.all (fun q => (k + 2) % q != 0) := by rw [hok, ej, List.take_length]
          clear hok
          cases ok with
          | true =>
            have HE := hide (by rw [H.out.2.2.2.2.2.1, ← hend]; rfl : prs (k + 1) = l ++ [k + 2])
            clear hend
            have ha := H.out.1.alloc (.cells #[.int .u64 ((k : Int) + 2)] 48)
            have ho := Rd.one wr (.int .u64 ((k : Int) + 2)) 48
            have hsz := H.out.2.1.size
            have HA := hide (And.intro ha (And.intro ho hsz))
            clear ha ho hsz
            go_wp2_with ((with_reducible show wpList _ _ _ ({ dst := _, op := .call { callee := .builtin .append, args := #[_, _], argTypes := #[59, 59] }, type := _, pos := _, after := _, guard := _ } :: _) _ _); refine wpList_append_g Try.underlying59 HI.out.1 HI.out.2.1 HI.out.2.2.1 HI.out.2.2.2 rfl (by decide) rfl rfl HA.out.1 HA.out.2.1 (by intro u hu; simp at hu; subst hu; rfl) (by unfold maxLen; omega) (by omega) (by have := HA.out.2.2; simp; omega) ?_; intro A4 c4 w4 hown4 hg4)
            go_roundw
            case rel =>
              refine ⟨k + 1, A4, c4, by have := H.out.2.2.2.2.2.2.1; omega, by go_num, by rw [HE.out]; simp, by rw [HE.out]; simpa [u64s] using hown4, ?_⟩
              exact (H.out.2.1.alloc HA.out.2.2 _).grown hg4 (by have := HA.out.2.2; simp; omega) (fun q hq => (HA.out.1.lt q hq).1)
            case measure => have := H.out.2.2.2.2.2.2.1; simp [intOf]; omega
          | false =>
            have HE := hide (by rw [H.out.2.2.2.2.2.1, ← hend]; rfl : prs (k + 1) = l)
            clear hend
            go_wp2_with fail
            go_roundw
            case rel => exact ⟨k + 1, A, c, by have := H.out.2.2.2.2.2.2.1; omega, by go_num, by rw [HE.out], by rw [HE.out]; exact H.out.1, H.out.2.1⟩
            case measure => have := H.out.2.2.2.2.2.2.1; simp [intOf]; omega
    · have ek : k = 310 := by omega
      subst ek
      have hn : (prs 310).length = 64 := prs310
      rw [hn] at hown hrd hcap ⊢
      have H := hide (And.intro hb hown)
      clear hb hrd hown hcap hn
      go_wp2_with fail
      go_ret
      exact ⟨A, c, rfl, H.out.2, H.out.1⟩
end Go.Proofs.Ytmeilpehlkpofaa
