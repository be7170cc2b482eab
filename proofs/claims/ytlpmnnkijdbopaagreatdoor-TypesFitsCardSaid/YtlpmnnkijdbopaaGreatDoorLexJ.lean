/-
  The walk of the reference's lexer, the last part: Lex.
-/
import Derived.Test.YtlpmnnkijdbopaaGreatDoorLexI
namespace Go.Proofs.YtlpmnnkijdbopaaGreatDoor
open Go.RowKit Go.Maps

theorem Tryz.infoTk : (Tryz.prog.info? 93).map (fun i => (i.zero, i.size, i.bytes)) = some (some (.agg #[.int .i64 0, .string ⟨#[]⟩, .int .i64 0]), 3, 32) := by kernel_rfl
structure Tk where
  kind : Int
  text : ByteArray
  pos : Int
def Tk.cs (t : Tk) : List Value := [.int .i64 t.kind, .string t.text, .int .i64 t.pos]
def RTk (t : Tk) (cs : List Value) : Prop := cs = t.cs
def tkc (l : List Tk) : List Value := l.flatMap Tk.cs
theorem tkc_snoc (l : List Tk) (t : Tk) : tkc (l ++ [t]) = tkc l ++ t.cs := by simp [tkc]
theorem tkc_len (l : List Tk) : (tkc l).length = l.length * 3 := by
  induction l with
  | nil => rfl
  | cons t r ih => simp [tkc] at ih ⊢; rw [ih]; simp [Tk.cs]; omega
theorem chunk_tk {l : List Tk} {j : Nat} {t : Tk} (h : l[j]? = some t) : chunk 3 (tkc l) j = t.cs := by
  induction l generalizing j with
  | nil => simp at h
  | cons x r ih =>
    cases j with
    | zero =>
      simp at h
      subst h
      show chunk 3 (x.cs ++ tkc r) 0 = _
      unfold chunk
      simp [Tk.cs]
    | succ j =>
      simp at h
      have := ih h
      show chunk 3 (x.cs ++ tkc r) (j + 1) = _
      unfold chunk at this ⊢
      rw [show (j + 1) * 3 = 3 + j * 3 by omega, ← List.drop_drop]
      simpa [Tk.cs] using this
/-- a token of a text so long -/
def TkOk (m : Nat) (t : Tk) : Prop := t.kind = 1 → good t.text.data.toList ∧ t.text.size ≤ m
/-- tokens, the last one is the end -/
structure Toks (m : Nat) (l : List Tk) : Prop where
  pos : 0 < l.length
  cnt : l.length ≤ 1501
  ok : ∀ t ∈ l, TkOk m t
  fin : ∀ t, l[l.length - 1]? = some t → t.kind = 0
def LexPost (m : Nat) (w : World) (e : Ending) (w' : World) : Prop := ∃ (A : Option Addr) (c : Nat) (l : List Tk) (p code : Int), e = .returned (.tuple #[.slice A l.length c, .int .i64 p, .int .i64 code]) ∧ Below w.heap.size w w' ∧ (code = 0 → Toks m l ∧ Sl w' (fun b => w.heap.size ≤ b ∧ b < w'.heap.size) 3 A RTk l)
theorem wpList_append_tok {ops : Array Oper} {rest : List Oper} {a : Act} {Q : Exit → Act → World → Prop} {w W : World} {dst : Option Tmp} {ty : TypeId} {pos : String} {af : Array Edge} {s x : Operand} {base n c : Nat} {B : Option Addr} {xs : List Value} {g : Nat} (t : Tk) (hg : W.heap.size = g)
    (hw : w = W.alloc (.cells t.cs.toArray 93)) (hs : a.eval s = .slice B n c) (hx : a.eval x = .slice (some ⟨g, 0, none⟩) 1 1) (hown : W.ownsRow base 93 3 (.slice B n c) n xs) (hn : n ≤ 5000) (hbase : base ≤ W.heap.size)
    (h : ∀ A' c' w', w'.ownsRow base 93 3 (.slice A' (n + 1) c') (n + 1) (xs ++ t.cs) → Below base W w' → wpList Tryz.prog ops Q rest (a.put dst (.slice A' (n + 1) c')) w') :
    wpList Tryz.prog ops Q ({ dst := dst, op := .call { callee := .builtin .append, args := #[s, x], argTypes := #[67, 67] }, type := ty, pos := pos, after := af, guard := none } :: rest) a w := by
  subst hw hg
  obtain ⟨i0, hi, hz0, hz1, hz2⟩ := info_parts Tryz.infoTk
  have hr : Rd (W.alloc (.cells t.cs.toArray 93)) (W.heap.size + 1) 3 (some ⟨W.heap.size, 0, none⟩) 1 t.cs := by
    refine ⟨rfl, fun j u hu => ⟨W.heap.size, 0, rfl, by omega, ?_⟩⟩
    rw [cell_of_row _ _ _ _ _ _ (heap_alloc_new W _), Nat.zero_add]
    simpa using hu
  exact wpList_append_rd Tryz.underlying67 hi hz0 hz1 hz2 rfl (by decide) hs hx (hown.alloc _) hr (by intro v hv; simp [Tk.cs] at hv; rcases hv with rfl | rfl | rfl <;> rfl) (by unfold maxLen; omega) (by omega) (by simp; omega) fun A' c' w' h2 h3 => h A' c' w' h2 (((Below.refl base W).alloc hbase _).trans h3)
theorem ok_snocT {m : Nat} {l : List Tk} {x : Tk} (h : ∀ y ∈ l, TkOk m y) (hx : TkOk m x) : ∀ y ∈ l ++ [x], TkOk m y := by
  intro y hy
  rcases List.mem_append.1 hy with hy | hy
  · exact h y hy
  · rw [List.mem_singleton.1 hy]; exact hx
def LxR (s : Bs) (w wr : World) (A : Option Addr) (c : Nat) (l : List Tk) : Prop := wr.ownsRow w.heap.size 93 3 (.slice A l.length c) l.length (tkc l) ∧ (∀ t ∈ l, TkOk s.length t) ∧ Below w.heap.size w wr
set_option maxRecDepth 20000 in
set_option maxHeartbeats 1600000 in
theorem lex_any (s : Bs) (w : World) (hs : s.length ≤ 4096) : Calls Tryz.prog 64 #[tx s] w (LexPost s.length w) := by
  have i1 : (s.length : Int) ≤ 4096 := by omega
  have HS := hide (And.intro (show s.length ≤ 100000 by omega) hs)
  clear hs
  go_enter Tryz.func64, Tryz.ntmps64
  go_wp2_with fail
  go_loopw [5, 6] (fun o i wr => ∃ (m : Nat) (A : Option Addr) (c : Nat) (l : List Tk), m ≤ s.length ∧ (l.length : Int) ≤ 1500 ∧ i = .int .i64 m ∧ o = .slice A l.length c ∧ Hid (LxR s w wr A c l)) (fun _ i _ => s.length - (intOf i).toNat)
  case atStart => exact ⟨0, none, 0, [], by omega, by simp, rfl, rfl, hide ⟨World.ownsRow_nil _ _ _ _, by simp, Below.refl _ _⟩⟩
  case round =>
    obtain ⟨m, A, c, l, hm, hl, rfl, rfl, HR⟩ := hrel
    go_wp2_with fail
    refine (gap_any s m _ (by omega) (by omega) HS.out.1).mono ?_
    rintro e w1 ⟨p, q, rfl, hp0, hp1, rfl⟩
    obtain ⟨p, rfl⟩ := Int.eq_ofNat_of_zero_le (show 0 ≤ p by omega)
    cases q with
    | false =>
      go_wp2
      go_ret3
      exact ⟨none, 0, [], _, 40, rfl, HR.out.2.2, fun h => absurd h (by decide)⟩
    | true =>
      by_cases hpe : p = s.length
      · have hpb : ((p : Int) == (s.length : Int)) = true := by simp [hpe]
        clear hpe
        go_wp2_with ((with_reducible show wpList _ _ _ ({ dst := _, op := .call { callee := .builtin .append, args := #[_, _], argTypes := #[67, 67] }, type := _, pos := _, after := _, guard := _ } :: _) _ _); refine wpList_append_tok ⟨0, ⟨#[]⟩, (p : Int)⟩ rfl rfl rfl rfl HR.out.1 (by omega) HR.out.2.2.size ?_; intro A' c' w1 hown hb1; have HO := hide (And.intro hown (HR.out.2.2.trans hb1)); clear hown hb1)
        go_ret3
        refine ⟨A', c', l ++ [⟨0, ⟨#[]⟩, (p : Int)⟩], 0, 0, by simp, HO.out.2, fun _ => ⟨⟨by simp, by simp; omega, ok_snocT HR.out.2.1 (fun h => absurd (show (0 : Int) = 1 from h) (by decide)), fun t ht => by simp at ht; rw [← ht]⟩, ?_⟩⟩
        refine Sl.of_own (R := RTk) (xs := l ++ [⟨0, ⟨#[]⟩, (p : Int)⟩]) HO.out.1 (by simp) (fun g hg => ?_) (fun j x hx => by have := chunk_tk hx; rw [tkc_snoc] at this; exact this)
        subst hg
        exact HO.out.1.lt g rfl
      · have hpb : ((p : Int) == (s.length : Int)) = false := by simp; omega
        have hpl : (p : Int) < s.length := by omega
        clear hpe
        go_wp2_with fail
        refine (next_any s p _ (by omega) (by omega) HS.out.2).mono ?_
        rintro e w2 ⟨q, en, b, rfl, he0, he1, he2, hok, hb2⟩
        obtain ⟨en, rfl⟩ := Int.eq_ofNat_of_zero_le he0
        have H2 := hide (And.intro hok (And.intro hb2 (HR.out.2.2.trans (hb2.mono HR.out.2.2.size))))
        clear hok hb2
        by_cases hz : en = 0
        · subst hz
          go_wp2_with (((with_reducible show wpList _ _ _ ({ dst := _, op := .store 93 _ _, type := _, pos := _, after := _, guard := _ } :: _) _ _); refine wpList_store_new rfl rfl rfl Tryz.sizeTk rfl rfl ?_))
          go_ret3
          exact ⟨none, 0, [], _, 40, rfl, H2.out.2.2.alloc H2.out.2.2.size _, fun h => absurd h (by decide)⟩
        · have hpe : p < en := by omega
          have hzb : ((en : Int) == 0) = false := by simp; omega
          clear hz he2
          have hr : (w2.alloc (.cells #[.int .i64 q, .string b, .int .i64 (p : Int)] 93)).rangeAt w2.heap.size 0 [.int .i64 q, .string b, .int .i64 (p : Int)] := fun j u hu => by
            rw [cell_of_row _ _ _ _ _ _ (heap_alloc_new w2 _), Nat.zero_add]
            simpa using hu
          go_wp2_with (first
            | ((with_reducible show wpList _ _ _ ({ dst := _, op := .store 93 _ _, type := _, pos := _, after := _, guard := _ } :: _) _ _); refine wpList_store_new rfl rfl rfl Tryz.sizeTk rfl rfl ?_)
            | ((with_reducible show wpList _ _ _ ({ dst := _, op := .load 93 _, type := _, pos := _, after := _, guard := _ } :: _) _ _); refine wpList_loadE rfl hr Tryz.underlying93 rfl Tryz.sizeTk rfl ?_)
            | ((with_reducible show wpList _ _ _ ({ dst := _, op := .call { callee := .builtin .append, args := #[_, _], argTypes := #[67, 67] }, type := _, pos := _, after := _, guard := _ } :: _) _ _); refine wpList_append_tok ⟨q, b, (p : Int)⟩ (W := w2.alloc (.cells #[.int .i64 q, .string b, .int .i64 (p : Int)] 93)) (g := w2.heap.size + 1) (by simp) rfl rfl rfl ((owns_below HR.out.1 H2.out.2.1 (fun g hg => (HR.out.1.lt g hg).2)).alloc _) (by omega) (by have := H2.out.2.2.size; simp; omega) ?_; intro A' c' w3 hown hb1; have HO := hide (And.intro hown ((H2.out.2.2.alloc H2.out.2.2.size _).trans hb1)); clear hown hb1))
          all_goals first
            | (go_ret3
               exact ⟨none, 0, [], _, 8, rfl, H2.out.2.2.alloc H2.out.2.2.size _, fun h => absurd h (by decide)⟩)
            | (go_roundw
               case rel => exact ⟨en, A', c', l ++ [⟨q, b, (p : Int)⟩], by omega, by simp; omega, by go_num, by simp, hide ⟨by rw [tkc_snoc]; simpa using HO.out.1, ok_snocT HR.out.2.1 (fun h => H2.out.1 h (by omega)), HO.out.2⟩⟩
               case measure => simp [intOf]; omega)
end Go.Proofs.YtlpmnnkijdbopaaGreatDoor
