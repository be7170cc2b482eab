/-
  Keys that came in; the order of keys: plain, and the walk of Less.
-/
import Derived.Test.YtmeilpehlkpofaaAwake
import Derived.Test.YtmeilpehlkpofaaLaw
import Derived.Lib.BytesEntry
import Derived.Lib.Bytealg
import Derived.Laws.Externs
namespace Go.Proofs.Ytmeilpehlkpofaa
open Go.RowKit
open Go.ChangeShapes Go.WideShapes Go.ChangeAt

theorem mapM_each {α β : Type} {f : α → Option β} : ∀ (L : List α) (ys : List β), L.mapM f = some ys → ∀ i ∈ L, ∃ y, f i = some y
  | [], _, _, _, h => by simp at h
  | x :: L, ys, h, i, hi => by
    rw [List.mapM_cons] at h
    simp only [bind, Option.bind_eq_some_iff, pure, Option.some.injEq] at h
    obtain ⟨y, hy, zs, hz, _⟩ := h
    rcases List.mem_cons.1 hi with rfl | hi
    · exact ⟨y, hy⟩
    · exact mapM_each L zs hz i hi
theorem bytes_of_cells : ∀ (cs : List Value), (∀ v ∈ cs, ∃ x : UInt8, v = .int .u8 (x.toNat : Int)) → ∃ l : List UInt8, cs = u8s l
  | [], _ => ⟨[], rfl⟩
  | v :: cs, h => by
    obtain ⟨x, rfl⟩ := h v (by simp)
    obtain ⟨l, rfl⟩ := bytes_of_cells cs (fun u hu => h u (by simp [hu]))
    exact ⟨x :: l, rfl⟩
/-- a key that came in -/
theorem open_key {H : Type} {enc : TypeId × Value → H} {w : World} {base : Nat} {spare : Nat → Bool} {held : Bool} {fuel : Nat} {xs : Array Value} {x : DataW H × List MemPlace} (hn : xs.size = 32)
    (hx : DataW.trod enc Try.prog w base spare held fuel 25 (Value.agg xs).cells.toList = some x) : ∃ l : List UInt8, l.length = 32 ∧ xs = (u8s l).toArray := by
  cases fuel with
  | zero => simp [DataW.trod] at hx
  | succ m =>
    rw [DataW.trod_step] at hx
    unfold DataW.trodStep at hx
    have hc : Try.prog.cellsOf 25 = 32 := by kernel_rfl
    have hc1 : Try.prog.cellsOf 5 = 1 := by kernel_rfl
    simp only [Try.underlying25, Value.cells] at hx
    rw [if_pos (by rw [hc]; simpa using hn)] at hx
    simp only [Option.map_eq_some_iff] at hx
    obtain ⟨ys, hy, _⟩ := hx
    have each := mapM_each _ _ hy
    obtain ⟨l, hl⟩ := bytes_of_cells xs.toList (fun v hv => by
      obtain ⟨i, hi, rfl⟩ := List.getElem_of_mem hv
      have hi32 : i < 32 := by rw [← hn]; simpa using hi
      obtain ⟨y, hy⟩ := each i (by simpa using hi32)
      rw [hc1] at hy
      obtain ⟨n, hcs, _, hwf⟩ := DataW.trod_int Try.underlying5 hy
      rw [Nat.mul_one] at hcs
      have : xs.toList[i] = .int .u8 n := by
        rw [List.drop_eq_getElem_cons hi, List.take_succ_cons] at hcs
        injection hcs
      simp [Lit.wf, IntKind.min, IntKind.max, IntKind.signed, IntKind.bits] at hwf
      refine ⟨UInt8.ofNat n.toNat, ?_⟩
      rw [this]
      congr 1
      have h3 : n.toNat < 256 := by omega
      rw [UInt8.toNat_ofNat', Nat.mod_eq_of_lt (by simpa using h3)]
      omega)
    refine ⟨l, ?_, ?_⟩
    · have : xs.toList.length = 32 := by simpa using hn
      rw [hl, u8s_length] at this
      exact this
    · rw [← hl]
theorem okWide_key {r : Reach} {w : World} {b0 : Nat} {v : Value} (h : Value.okWide Try.prog w r b0 25 v) : ∃ xs : Array Value, v = .agg xs ∧ xs.size = 32 := by
  simp only [Value.okWide, Try.underlying25] at h
  obtain ⟨cs, h1, h2, _⟩ := h
  exact ⟨cs, h1, by rw [h2]; kernel_rfl⟩

/-! ### the order of keys -/
open Go.Lib (compareBytes)
/-- The first difference. -/
def dif : List UInt8 → List UInt8 → Int
  | a :: ar, b :: bs => if a = b then dif ar bs else (a.toNat : Int) - (b.toNat : Int)
  | _, _ => 0
def ltB (a b : List UInt8) : Bool := decide (compareBytes a b < 0)
theorem cmp_dif : ∀ (a b : List UInt8), a.length = b.length → (compareBytes a b < 0 ↔ dif a b < 0) ∧ (compareBytes b a < 0 ↔ 0 < dif a b)
  | [], [], _ => by simp [compareBytes, dif]
  | a :: ar, b :: bs, h => by
    have ih := cmp_dif ar bs (by simpa using h)
    unfold compareBytes dif
    by_cases hab : a = b
    · subst hab
      have hlt : ¬ a < a := UInt8.lt_irrefl a
      simp only [hlt, if_false, if_true]
      exact ih
    · rw [if_neg hab]
      rcases UInt8.lt_or_lt_of_ne hab with h1 | h1
      · have h2 : ¬ b < a := UInt8.lt_asymm h1
        have h3 : a.toNat < b.toNat := h1
        rw [if_pos h1, if_neg h2, if_pos h1]
        omega
      · have h2 : ¬ a < b := UInt8.lt_asymm h1
        have h3 : b.toNat < a.toNat := h1
        rw [if_neg h2, if_pos h1, if_pos h1]
        omega
theorem ltB_dif {a b : List UInt8} (h : a.length = b.length) : ltB a b = decide (dif a b < 0) := by
  unfold ltB; rw [decide_eq_decide]; exact (cmp_dif a b h).1
theorem ltB_dif' {a b : List UInt8} (h : a.length = b.length) : ltB b a = decide (0 < dif a b) := by
  unfold ltB; rw [decide_eq_decide]; exact (cmp_dif a b h).2
theorem cmp_trans : ∀ (a b c : List UInt8), a.length = b.length → b.length = c.length → compareBytes a b < 0 → compareBytes b c < 0 → compareBytes a c < 0
  | [], [], [], _, _, h, _ => by simp [compareBytes] at h
  | a :: ar, b :: bs, c :: cs, h, h', h1, h2 => by
    have ih := cmp_trans ar bs cs (by simpa using h) (by simpa using h')
    unfold compareBytes at h1 h2 ⊢
    by_cases e1 : a < b
    · by_cases e2 : b < c
      · rw [if_pos (UInt8.lt_trans e1 e2)]; decide
      · rw [if_neg e2] at h2
        by_cases e3 : c < b
        · rw [if_pos e3] at h2; simp at h2
        · have : b = c := UInt8.toNat_inj.1 (by have h4 : ¬ b.toNat < c.toNat := e2; have h5 : ¬ c.toNat < b.toNat := e3; omega)
          subst this
          rw [if_pos e1]; decide
    · rw [if_neg e1] at h1
      by_cases e3 : b < a
      · rw [if_pos e3] at h1; simp at h1
      · rw [if_neg e3] at h1
        have : a = b := UInt8.toNat_inj.1 (by have h4 : ¬ a.toNat < b.toNat := e1; have h5 : ¬ b.toNat < a.toNat := e3; omega)
        subst this
        by_cases e2 : a < c
        · rw [if_pos e2]; decide
        · rw [if_neg e2] at h2 ⊢
          by_cases e4 : c < a
          · rw [if_pos e4] at h2; simp at h2
          · rw [if_neg e4] at h2 ⊢
            exact ih h1 h2
theorem ltB_trans {a b c : List UInt8} (h : a.length = b.length) (h' : b.length = c.length) (h1 : ltB a b = true) (h2 : ltB b c = true) : ltB a c = true := by
  unfold ltB at *
  exact decide_eq_true (cmp_trans a b c h h' (of_decide_eq_true h1) (of_decide_eq_true h2))

theorem run_bytesOf_rb {w : World} {B n c : Nat} {A : Option Addr} {l : List UInt8} (h : Rb w B A n l) : (Extern.Bytes.bytesOf (.slice A n c)).run Try.prog w = .ok ⟨l.toArray⟩ w := by
  cases A with
  | none =>
    have : l = [] := by have := Rd.none_len h; simpa [u8s] using this
    subst this
    rfl
  | some ad =>
    have hl := Go.Lib.run_loadBytesX (P := Try.prog) w (l.map fun x => (x.toNat : Int)) ad .empty (fun j x hj => by
      have := Rd.adds h j (.int .u8 x) (by
        simp only [u8s, List.getElem?_map] at hj ⊢
        cases hx : l[j]? with
        | none => rw [hx] at hj; cases hj
        | some y => rw [hx] at hj; injection hj with hj; rw [← hj]; rfl)
      exact this)
    rw [List.length_map, h.len] at hl
    have e : Go.Lib.bytesOf (l.map fun x => (x.toNat : Int)) = l := by
      unfold Go.Lib.bytesOf
      rw [List.map_map]
      conv => rhs; rw [← List.map_id l]
      exact List.map_congr_left fun x _ => by simp
    rw [e] at hl
    simp only [Extern.Bytes.bytesOf]
    rw [hl]
    congr 2
    show (#[] : Array UInt8) ++ l.toArray = l.toArray
    simp
theorem run_compare_rb {w : World} {B n c B' n' c' : Nat} {A A' : Option Addr} {l l' : List UInt8} (h : Rb w B A n l) (h' : Rb w B' A' n' l') :
    (Extern.BytealgCompare.compare #[.slice A n c, .slice A' n' c']).run Try.prog w = .ok (.int .i64 (compareBytes l l')) w := by
  change Sem.run Try.prog (do pure (goInt (Extern.BytealgCompare.cmp (← Extern.Bytes.bytesOf (.slice A n c)) (← Extern.Bytes.bytesOf (.slice A' n' c'))))) w = _
  simp only [Sem.run_bind, run_bytesOf_rb h, run_bytesOf_rb h', Sem.run_pure, Result.andThen]
  rw [Go.Lib.cmp_eq]
  rfl
set_option maxHeartbeats 400000 in
theorem compare_any {w : World} {B n B' n' : Nat} (c c' : Nat) {A A' : Option Addr} {l l' : List UInt8} (h : Rb w B A n l) (h' : Rb w B' A' n' l') :
    Calls Try.prog 22 #[.slice A n c, .slice A' n' c'] w fun e w' => e = .returned (.int .i64 (compareBytes l l')) ∧ w' = w := by
  go_enter Try.func22, Try.ntmps22
  go_wp2
  rw [run_callFunc_extern Try.func28 (by kernel_rfl) (by kernel_rfl) (by kernel_rfl) (e := Extern.BytealgCompare.compare) (by kernel_rfl), run_compare_rb h h']
  simp only [Result.andThen]
  rw [Oper.upon_value]
  go_wp2
  go_ret
  exact ⟨rfl, rfl⟩
theorem below_drewN {B : Nat} {w w' : World} (h : Below B w w') (q : Nat) : Below B w (w'.drewN q) := h.trans ⟨rfl, rfl, rfl, Nat.le_refl _, fun _ _ => rfl⟩
set_option maxRecDepth 100000 in
set_option maxHeartbeats 800000 in
theorem less_any {w : World} {a b : List UInt8} (ha : a.length = 32) (hb : b.length = 32) :
    Calls Try.prog 13 #[.agg (u8s a).toArray, .agg (u8s b).toArray] w fun e w' => e = .returned (.bool (ltB a b)) ∧ Below w.heap.size w w' := by
  obtain ⟨ca, hca⟩ : ∃ ca, ca = (u8s a).toArray := ⟨_, rfl⟩
  obtain ⟨cb, hcb⟩ : ∃ cb, cb = (u8s b).toArray := ⟨_, rfl⟩
  rw [← hca, ← hcb]
  go_enter Try.func13, Try.ntmps13
  have hA : Rb ((w.alloc (.cells (u8s a).toArray 25)).alloc (.cells (u8s b).toArray 25)) (w.heap.size + 2) (some ⟨w.heap.size, 0, none⟩) 32 a := by
    have h1 := (Rb.lit w a 25 (0, 0)).alloc (by simp) (.cells (u8s b).toArray 25)
    rw [ha] at h1
    exact h1.more (by omega)
  have hB : Rb ((w.alloc (.cells (u8s a).toArray 25)).alloc (.cells (u8s b).toArray 25)) (w.heap.size + 2) (some ⟨w.heap.size + 1, 0, none⟩) 32 b := by
    have h1 := Rb.lit (w.alloc (.cells (u8s a).toArray 25)) b 25 (0, 0)
    rw [hb] at h1
    simpa using h1
  have hbel : Below w.heap.size w ((w.alloc (.cells (u8s a).toArray 25)).alloc (.cells (u8s b).toArray 25)) := ((Below.refl _ _).alloc (Nat.le_refl _) _).alloc (by simp) _
  have H := hide (And.intro hA (And.intro hB hbel))
  clear hA hB hbel
  go_wp2_with fail
  go_quiet ((go_at_call 22; exact Calls.quiet_of_same (compare_any _ _ (H.out.1.drewN _) (H.out.2.1.drewN _))))
  go_wp2_with fail
  go_ret
  exact ⟨rfl, below_drewN H.out.2.2 _⟩
end Go.Proofs.Ytmeilpehlkpofaa
