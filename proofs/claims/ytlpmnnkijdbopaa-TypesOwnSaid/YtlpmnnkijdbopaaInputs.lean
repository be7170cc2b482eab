/-
  The walk of inputs: inputs with memory of their own.
-/
import Derived.Test.YtlpmnnkijdbopaaDeep
namespace Go.Proofs.Ytlpmnnkijdbopaa
open Go.RowKit

theorem chunk_put_mid {k j o : Nat} {xs cs cv pre post : List Value} (hp : pre.length = o) (hcv : cv.length = cs.length) (hk : o + cs.length + post.length = k) (hx : j * k + k ≤ xs.length) (he : chunk k xs j = pre ++ (cv ++ post)) :
    chunk k (putAt xs (j * k + o) cs) j = pre ++ (cs ++ post) := by
  apply List.ext_getElem?
  intro i
  by_cases hi : i < k
  · rw [chunk_get hi]
    have h0 := chunk_get (cells := xs) (j := j) hi
    rw [he] at h0
    by_cases h1 : o ≤ i ∧ i < o + cs.length
    · obtain ⟨i', rfl⟩ : ∃ i', i = o + i' := ⟨i - o, by omega⟩
      rw [← Nat.add_assoc, putAt_in _ _ _ _ (by omega) (by omega), List.getElem?_append_right (by omega), List.getElem?_append_left (by omega), hp, Nat.add_sub_cancel_left]
    · rw [putAt_out _ _ _ _ (by omega), ← h0]
      by_cases h2 : i < o
      · rw [List.getElem?_append_left (by omega), List.getElem?_append_left (by omega)]
      · rw [List.getElem?_append_right (by omega), List.getElem?_append_right (by omega), List.getElem?_append_right (by omega), List.getElem?_append_right (by omega), hcv]
  · unfold chunk
    rw [List.getElem?_take, if_neg hi, List.getElem?_eq_none (by simp; omega)]
theorem chunk_put_midO {k i j o : Nat} {xs cs : List Value} (hv : o + cs.length ≤ k) (hij : i ≠ j) : chunk k (putAt xs (j * k + o) cs) i = chunk k xs i := by
  apply List.ext_getElem?
  intro m
  by_cases hm : m < k
  · rw [chunk_get hm, chunk_get hm, putAt_out]
    rcases Nat.lt_or_gt_of_ne hij with h | h
    · have := Nat.mul_le_mul_right k (show i + 1 ≤ j by omega)
      rw [Nat.succ_mul] at this
      omega
    · have := Nat.mul_le_mul_right k (show j + 1 ≤ i by omega)
      rw [Nat.succ_mul] at this
      omega
  · unfold chunk
    rw [List.getElem?_take, List.getElem?_take, if_neg hm, if_neg hm]

def InputsPost (w : World) (n : Nat) (l : List In) (e : Ending) (w' : World) : Prop := ∃ A' c', e = .returned (.slice A' l.length c') ∧ Sl w' (New w w') 9 A' (RI w' (New w w') n) l ∧ Below w.heap.size w w'
/-- the first k inputs are new -/
structure InL (w wx : World) (n : Nat) (l : List In) (l1 : List Value) (A5 : Option Addr) (c5 : Nat) (k : Nat) (x1 : List Value) (wr : World) : Prop where
  below : Below w.heap.size w wr
  row : wr.ownsRow w.heap.size 69 9 (.slice A5 l.length c5) l.length x1
  ext : wx.heap.size ≤ wr.heap.size
  lo : ∀ g, A5 = some ⟨g, 0, none⟩ → 0 < l.length → g < wx.heap.size
  done : ∀ j x, j < k → l[j]? = some x → RI wr (Btw wx wr) n x (chunk 9 x1 j)
  todo : ∀ j, k ≤ j → chunk 9 x1 j = chunk 9 l1 j
theorem InL.step {w wx wr w2 w3 : World} {n g : Nat} {l : List In} {x : In} {l1 : List Value} {c5 k : Nat} {x1 cs cv : List Value} (h : InL w wx n l l1 (some ⟨g, 0, none⟩) c5 k x1 wr) (hlt : k < l.length)
    (hx : l[k]? = some x) (hcv : cv.length = 5) (he : chunk 9 l1 k = tx x.name :: tx x.typ :: .bool x.has :: (cv ++ [.int .i64 x.pos])) (hRV : RV w2 (New wr w2) n x.dflt cs) (hb2 : Below wr.heap.size wr w2)
    (hown : w3.ownsRow w.heap.size 69 9 (.slice (some ⟨g, 0, none⟩) l.length c5) l.length (putAt x1 (k * 9 + 3) cs)) (hg3 : w2.grownBy w3 (some g)) :
    InL w wx n l l1 (some ⟨g, 0, none⟩) c5 (k + 1) (putAt x1 (k * 9 + 3) cs) w3 := by
  have hg := h.row.lt g rfl
  have hgx := h.lo g rfl (by omega)
  have hw : ∀ b, b < wr.heap.size → b ≠ g → w3.heap[b]? = wr.heap[b]? := fun b hb hne => by rw [hg3.block b (by have := hb2.size; omega) (by simpa using hne), hb2.block b hb]
  have hext := h.ext
  have h2s := hb2.size
  have h3s := hg3.size
  have hl : k * 9 + 9 ≤ x1.length := by rw [h.row.1]; omega
  refine ⟨(h.below.trans (hb2.mono h.below.size)).grown hg3 (by have := h.below.size; omega) (fun q hq => by injection hq with hq; omega), hown, by omega, h.lo, fun j y hj hy => ?_, fun j hj => ?_⟩
  · rcases Nat.lt_or_ge j k with hjk | hjk
    · rw [chunk_put_midO (by rw [hRV.size]; omega) (by omega)]
      exact RI.map (fun b hb => ⟨hb.1, by have := hb.2; omega⟩) (fun b hb => hw b hb.2 (by have := hb.1; omega)) _ _ (h.done j y hjk hy)
    · have hjk : j = k := by omega
      subst hjk
      rw [hx] at hy
      injection hy with hy
      subst hy
      have he' : chunk 9 x1 j = [tx x.name, tx x.typ, .bool x.has] ++ (cv ++ [.int .i64 x.pos]) := (h.todo j (Nat.le_refl _)).trans he
      rw [chunk_put_mid (o := 3) rfl (by rw [hcv, hRV.size]) (by rw [hRV.size]; rfl) hl he']
      exact ⟨cs, rfl, hRV.size, RV.map (fun b hb => ⟨by have := hb.1; omega, by have := hb.2; omega⟩) (fun b hb => hg3.block b hb.2 (by have := hb.1; simp; omega)) _ _ _ hRV⟩
  · rw [chunk_put_midO (by rw [hRV.size]; omega) (by omega)]; exact h.todo j (by omega)
set_option maxRecDepth 20000 in
set_option maxHeartbeats 1600000 in
theorem inputsOwn_any {S : Nat → Prop} {n : Nat} {l : List In} {A : Option Addr} {w : World} (c : Nat) (h : Sl w S 9 A (RI w S n) l) (hS : ∀ b, S b → b < w.heap.size) (hf : FewI n l) :
    Calls Try.prog 45 #[.slice A l.length c] w (InputsPost w n l) := by
  obtain ⟨l1, r1, o1, e1⟩ := h.flat (by decide) hS (fun _ _ h => h.one)
  obtain ⟨f1, f2⟩ := hf
  have H := hide (And.intro r1 (And.intro o1 (And.intro e1 (And.intro hS f2))))
  clear h r1 o1 e1 hS f2
  go_enter Try.func45, Try.ntmps45
  go_wp2_with fail
  refine (cloneI_any c H.out.1 (Nat.le_refl _) (by omega) H.out.2.1).mono ?_
  rintro e wc ⟨A5, c5, rfl, hr, hb⟩
  have HD := hide (And.intro hr hb)
  clear hr hb
  go_wp2_with fail
  go_loopw [8] (fun i wr => ∃ k : Nat, k ≤ l.length ∧ i = .int .i64 k ∧ Hid (∃ x1, InL w wc n l l1 A5 c5 k x1 wr)) (fun i _ => l.length - (intOf i).toNat)
  case atStart => exact ⟨0, Nat.zero_le _, rfl, hide ⟨l1, ⟨HD.out.2, HD.out.1, Nat.le_refl _, fun g hg _ => by subst hg; exact (HD.out.1.lt g rfl).2, fun j x hj => by omega, fun j _ => rfl⟩⟩⟩
  case round =>
    obtain ⟨k, hk, rfl, HR⟩ := hrel
    obtain ⟨x1, hR⟩ := HR.out
    clear HR
    by_cases hlt : k < l.length
    · obtain ⟨g, rfl, hg, hgl⟩ := owns_addr hR.row (by omega)
      have hxk : l[k]? = some l[k] := List.getElem?_eq_getElem hlt
      obtain ⟨d, hd⟩ : ∃ d, d = l[k] := ⟨_, rfl⟩
      have hfew := H.out.2.2.2.2 _ (List.getElem_mem hlt)
      rw [← hd] at hxk hfew
      obtain ⟨cv, hcv, hcvl, hcR⟩ := H.out.2.2.1 k _ hxk
      have hrg0 : wr.rangeAt g (k * 9) ([tx d.name, tx d.typ, .bool d.has] ++ (cv ++ [.int .i64 d.pos])) := by
        have := owns_range hR.row k
        rw [hR.todo k (Nat.le_refl _), hcv] at this
        exact this
      have hrg : wr.rangeAt g (k * 9 + 3) cv := fun j u hu => by
        have := hrg0 (j + 3) u (by rw [List.getElem?_append_right (by simp), List.getElem?_append_left (by have := (List.getElem?_eq_some_iff.1 hu).1; simpa using this)]; simpa using hu)
        rw [show k * 9 + 3 + j = k * 9 + (j + 3) by omega]
        exact this
      have hRV : RV wr S n d.dflt cv := RV.map (fun _ h => h) (fun b hb => hR.below.block b (H.out.2.2.2.1 b hb)) _ _ _ hcR
      have hSr : ∀ b, S b → b < wr.heap.size := fun b hb => Nat.lt_of_lt_of_le (H.out.2.2.2.1 b hb) hR.below.size
      have HK := hide (And.intro hR (And.intro hRV (And.intro hSr (And.intro hxk (And.intro hcv (And.intro hcvl (And.intro hrg hfew.2.2)))))))
      clear hR hRV hSr hxk hcv hcvl hrg hrg0 hfew hcR hd
      go_wp2_with (first
        | ((with_reducible show wpList _ _ _ ({ dst := _, op := .indexAddr 33 _ _, type := _, pos := _, after := _, guard := _ } :: _) _ _); refine wpList_index Try.underlying33 Try.sizeI rfl rfl rfl hlt rfl ?_)
        | ((with_reducible show wpList _ _ _ ({ dst := _, op := .load 67 _, type := _, pos := _, after := _, guard := _ } :: _) _ _); refine wpList_loadE rfl HK.out.2.2.2.2.2.2.1 Try.underlying67 rfl (by rw [Try.sizeV, HK.out.2.2.2.2.2.1]) rfl ?_))
      refine (deep_any n S d.dflt cv wr HK.out.2.1 HK.out.2.2.1 HK.out.2.2.2.2.2.2.2).mono ?_
      rintro e w2 ⟨cs, rfl, hRV2, hb2⟩
      have HM := hide (And.intro hRV2 hb2)
      clear hRV2 hb2
      go_wp2_with (first
        | ((with_reducible show wpList _ _ _ ({ dst := _, op := .indexAddr 33 _ _, type := _, pos := _, after := _, guard := _ } :: _) _ _); refine wpList_index Try.underlying33 Try.sizeI rfl rfl rfl hlt rfl ?_)
        | ((with_reducible show wpList _ _ _ ({ dst := _, op := .store 67 _ _, type := _, pos := _, after := _, guard := _ } :: _) _ _); refine wpList_store_mid rfl _ _ _ rfl g (k * 9 + 3) cs.toArray rfl rfl (owns_there (owns_below HK.out.1.row HM.out.2 (fun g hg => (HK.out.1.row.lt g hg).2)) (by simp [HM.out.1.size]; omega)) (by rw [Try.sizeV]; simp [HM.out.1.size]) (all_oneCell_toArray HM.out.1.one) ?_))
      obtain ⟨hown3, hg3⟩ := owns_setCells cs (k * 9 + 3) w2 _ (owns_below HK.out.1.row HM.out.2 (fun g hg => (HK.out.1.row.lt g hg).2))
      have HZ := hide (HK.out.1.step hlt HK.out.2.2.2.1 HK.out.2.2.2.2.2.1 HK.out.2.2.2.2.1 HM.out.1 HM.out.2 hown3 hg3)
      obtain ⟨w3, hw3⟩ : ∃ w3, w3 = w2.setCells g (k * 9 + 3) cs := ⟨_, rfl⟩
      rw [← hw3] at HZ ⊢
      clear hown3 hg3 hw3
      go_wp2
      go_roundw
      case rel => exact ⟨k + 1, by omega, by go_num, hide ⟨_, HZ.out⟩⟩
      case measure => simp [intOf]; omega
    · have hkn : k = l.length := by omega
      have HX := hide (And.intro hR hkn)
      clear hR hkn
      go_wp2
      go_ret
      obtain ⟨hR, hkn⟩ := HX.out
      exact ⟨A5, c5, rfl, Sl.of_own hR.row rfl (fun g hg => by subst hg; exact hR.row.lt g rfl) (fun j x hx => RI.map (fun b hb => ⟨by have := hb.1; have := HD.out.2.size; omega, hb.2⟩) (fun _ _ => rfl) _ _ (hR.done j x (by rw [hkn]; exact (List.getElem?_eq_some_iff.1 hx).1) hx)), hR.below⟩
end Go.Proofs.Ytlpmnnkijdbopaa
