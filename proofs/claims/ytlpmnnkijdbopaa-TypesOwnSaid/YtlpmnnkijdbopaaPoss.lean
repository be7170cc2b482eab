/-
  The walk of Possible: collected, sorted, compacted, clipped.
-/
import Derived.Test.YtlpmnnkijdbopaaKind
import Derived.Test.YtlpmnnkijdbopaaLay
import Derived.Test.YtlpmnnkijdbopaaSrt
import Derived.Lib.OwnBridge
namespace Go.Proofs.Ytlpmnnkijdbopaa
open Go.RowKit Go.Maps Go.Sort

theorem enc_tx (l : List Bs) : l.map encStr = l.map tx := rfl
/-- a row of texts that the call made: sorted in place -/
def SortPost (w : World) (base n c : Nat) (A : Option Addr) (l : List Bs) (e : Ending) (w' : World) : Prop := e = .returned (.tuple #[]) ∧ w'.ownsRow base 9 1 (.slice A n c) n (l.map tx) ∧ Below base w w'
theorem owns_nil_or {w : World} {base n c k : Nat} {e : TypeId} {A : Option Addr} {xs : List Value} (h : w.ownsRow base e k (.slice A n c) n xs) : (A = none ∧ n = 0 ∧ c = 0 ∧ xs = []) ∨ ∃ g, A = some ⟨g, 0, none⟩ := by
  rcases h.2 with ⟨hv, h0⟩ | ⟨g, cap, cur, hv, _⟩
  · injection hv with h1 h2 h3
    exact .inl ⟨h1, h0, h3, List.eq_nil_of_length_eq_zero (by rw [h.1, h0]; simp)⟩
  · injection hv with h1 _ _
    exact .inr ⟨g, h1⟩
theorem sort_any {w : World} {base n c : Nat} {A : Option Addr} {l : List Bs} (h : w.ownsRow base 9 1 (.slice A n c) n (l.map tx)) (hl : l.length ≤ 1000000) :
    Calls Try.prog 34 #[.slice A n c] w (SortPost w base n c A (l.mergeSort fun x y => decide (x ≤ y))) := by
  rcases owns_nil_or h with ⟨rfl, rfl, rfl, hx⟩ | ⟨g, rfl⟩
  · have hl0 : l = [] := by simpa using hx
    subst hl0
    refine (Try.slices_Sort_string_none none 0 w).mono ?_
    rintro e w' ⟨rfl, rfl⟩
    exact ⟨rfl, by simpa using h, Below.refl _ _⟩
  obtain ⟨g', cap, hv, hbg, hgl, hnc, hcm, hln, hH⟩ := Lib.holds_of_ownsRow (enc := encStr) h (by simp)
  injection hv with hv _ hv2
  injection hv with hv
  injection hv with hv
  subst hv hv2
  have hc := Try.slices_Sort_string g 0 c l w hH hgl (by omega)
  rw [hln] at hc
  refine hc.mono ?_
  rintro e w' ⟨rfl, q, os, rfl⟩
  have hm : (l.mergeSort fun x y => decide (x ≤ y)).length = n := by rw [List.length_mergeSort]; exact hln
  have h1 := Lib.ownsRow_putRow (q := q) (k := n) h hm (Nat.le_refl _)
  rw [List.take_of_length_le (by omega)] at h1
  have hb1 : Below base w (putRow encStr (Sort.ahead w q) g 0 (l.mergeSort fun x y => decide (x ≤ y)).toArray) := Lib.below_putRow (Below.refl _ _) hbg
  have hb2 : Below base (putRow encStr (Sort.ahead w q) g 0 (l.mergeSort fun x y => decide (x ≤ y)).toArray) (grow (putRow encStr (Sort.ahead w q) g 0 (l.mergeSort fun x y => decide (x ≤ y)).toArray) os) := by
    refine ⟨rfl, rfl, rfl, by simp [grow], fun k hk => ?_⟩
    have hs := hb1.size
    simp only [grow]
    rw [Array.getElem?_append_left (by omega)]
  refine ⟨rfl, owns_below h1 (B := (putRow encStr (Sort.ahead w q) g 0 (l.mergeSort fun x y => decide (x ≤ y)).toArray).heap.size) ⟨rfl, rfl, rfl, by simp [grow], fun k hk => by simp only [grow]; rw [Array.getElem?_append_left hk]⟩ (fun g hg => (h1.lt g hg).2), hb1.trans hb2⟩
def CompPost (w : World) (base c : Nat) (A : Option Addr) (l : List Bs) (e : Ending) (w' : World) : Prop := e = .returned (.slice A l.length c) ∧ w'.ownsRow base 9 1 (.slice A l.length c) l.length (l.map tx) ∧ Below base w w'
theorem compact_le (l : List Bs) : (Lib.compact l).length ≤ l.length := by
  have h : ∀ (d : Array Bs) (m : Nat), (Lib.compactUpTo d m).length ≤ m := by
    intro d m
    induction m with
    | zero => exact Nat.le_refl _
    | succ m ih =>
      rw [Lib.compactUpTo_succ, List.length_append]
      split <;> simp <;> omega
  exact h _ _
theorem compact_any {w : World} {base n c : Nat} {A : Option Addr} {l : List Bs} (h : w.ownsRow base 9 1 (.slice A n c) n (l.map tx)) (hl : l.length ≤ 1000000) :
    Calls Try.prog 36 #[.slice A n c] w (CompPost w base c A (Lib.compact l)) := by
  rcases owns_nil_or h with ⟨rfl, rfl, rfl, hx⟩ | ⟨g, rfl⟩
  · have hl0 : l = [] := by simpa using hx
    subst hl0
    refine (Try.slices_Compact_string_empty none 0 w).mono ?_
    rintro e w' ⟨rfl, rfl⟩
    exact ⟨rfl, h, Below.refl _ _⟩
  obtain ⟨g', cap, hv, hbg, hgl, hnc, hcm, hln, hH⟩ := Lib.holds_of_ownsRow (enc := encStr) h (by simp)
  injection hv with hv _ hv2
  injection hv with hv
  injection hv with hv
  subst hv hv2
  have hc := Try.slices_Compact_string g 0 c l w hH (by omega) (by omega)
  rw [hln] at hc
  have hle := compact_le l
  refine hc.mono ?_
  rintro e w' ⟨rfl, q, rfl⟩
  have h1 := Lib.ownsRow_putRow (q := q) (k := (Lib.compact l).length) (ys := Lib.compact l ++ List.replicate (n - (Lib.compact l).length) []) h (by simp; omega) (by omega)
  rw [List.take_left' rfl] at h1
  exact ⟨rfl, h1, Lib.below_putRow (Below.refl _ _) hbg⟩
/-- texts in a block from base on -/
def Row (w : World) (base : Nat) (A : Option Addr) (l : List Bs) : Prop := l = [] ∨ ∃ g cur, A = some ⟨g, 0, none⟩ ∧ base ≤ g ∧ w.heap[g]? = some (.cells cur 9 (0, 0)) ∧ cur.toList.take l.length = l.map tx
theorem Row.of_own {w : World} {base c : Nat} {A : Option Addr} {l : List Bs} (h : w.ownsRow base 9 1 (.slice A l.length c) l.length (l.map tx)) : Row w base A l := by
  rcases h.2 with ⟨_, h0⟩ | ⟨g, cap, cur, hv, hb, hg, _, _, _, ht⟩
  · exact .inl (List.eq_nil_of_length_eq_zero h0)
  · injection hv with h1 _ _
    exact .inr ⟨g, cur, h1, hb, hg, by simpa using ht⟩
theorem Row.sl {w : World} {base : Nat} {A : Option Addr} {l : List Bs} (h : Row w base A l) {S : Nat → Prop} (hS : ∀ b, base ≤ b → b < w.heap.size → S b) : Sl w S 1 A RS l := by
  rcases h with rfl | ⟨g, cur, rfl, hb, hg, ht⟩
  · exact Sl.nil' _ _ _ _ _
  · intro j x hx
    refine ⟨g, 0, [tx x], rfl, hS g hb (lt_of_block hg), rfl, fun i u hu => ?_, rfl⟩
    match i with
    | 0 =>
      have e : u = tx x := by simpa using hu.symm
      subst e
      have hj : j < l.length := (List.getElem?_eq_some_iff.1 hx).1
      rw [cell_of_row _ _ _ _ _ _ hg]
      have := congrArg (fun l : List Value => l[j]?) ht
      simp only [List.getElem?_take, if_pos hj, List.getElem?_map, hx] at this
      simpa using this
    | i + 1 => simp at hu
theorem clip_any {w : World} {base c : Nat} {A : Option Addr} {l : List Bs} (h : w.ownsRow base 9 1 (.slice A l.length c) l.length (l.map tx)) (hl : l.length ≤ 1000000) :
    Calls Try.prog 35 #[.slice A l.length c] w fun e w' => e = .returned (.slice A l.length l.length) ∧ w = w' := by
  have hcap := owns_cap h
  obtain ⟨m, hm⟩ : ∃ m, m = l.length := ⟨_, rfl⟩
  rw [← hm] at h hl hcap ⊢
  rcases owns_nil_or h with ⟨rfl, rfl, rfl, hx⟩ | ⟨g, rfl⟩
  · clear h hm hx hcap hl
    go_enter Try.func35, Try.ntmps35
    go_wp2
    go_ret
    exact ⟨rfl, rfl⟩
  · have i1 : (m : Int) ≤ (c : Int) := by omega
    have i2 : m ≤ c := hcap.1
    clear h hm hcap hl
    go_enter Try.func35, Try.ntmps35
    go_wp2
    go_ret
    exact ⟨rfl, rfl⟩
theorem wpList_append_name {ops : Array Oper} {rest : List Oper} {a : Act} {Q : Exit → Act → World → Prop} {w : World} {dst : Option Tmp} {ty : TypeId} {pos : String} {af : Array Edge} {s x : Operand} {base n c b : Nat} {B : Option Addr} {xs : List Value} {u : Value}
    (hs : a.eval s = .slice B n c) (hx : a.eval x = .slice (some ⟨b, 0, none⟩) 1 1) (hown : w.ownsRow base 9 1 (.slice B n c) n xs) (hc : w.cell? ⟨b, 0, none⟩ = some u) (h1 : u.oneCell' = true) (hn : n ≤ 1000) (hbase : base ≤ w.heap.size)
    (h : ∀ A' c' w', w'.ownsRow base 9 1 (.slice A' (n + 1) c') (n + 1) (xs ++ [u]) → Below base w w' → wpList Try.prog ops Q rest (a.put dst (.slice A' (n + 1) c')) w') :
    wpList Try.prog ops Q ({ dst := dst, op := .call { callee := .builtin .append, args := #[s, x], argTypes := #[31, 31] }, type := ty, pos := pos, after := af, guard := none } :: rest) a w :=
  wpList_plain rfl fun _ hK => by
    obtain ⟨A', c', w', hrun, h2, h3, _⟩ := run_append_name (rt := ty) hown hc h1 hn hbase
    exact wp_append_run rfl hs hx hrun (hK _ _ (h A' c' w' h2 ((Below.refl base w).grown h3 hbase (fun q hq => (hown.lt q hq).1))))
theorem new_cell2 (w : World) (o : Obj) (u : Value) (t : TypeId) : ((w.alloc o).alloc (.cells #[u] t)).cell? ⟨w.heap.size + 1, 0, none⟩ = some u := by
  have h := heap_alloc_new (w.alloc o) (.cells #[u] t)
  rw [World.size_alloc] at h
  rw [cell_of_row _ _ _ _ _ _ h]
  rfl
def raw (T : Ts) (k : Bs) : List Bs :=
  if kind T k = 2 then [k]
  else if kind T k = 3 then (T.map (·.name)).filter fun s => isK T s [2] && decide (k ∈ (look T s).impls)
  else if kind T k = 4 then (look T k).members.filter fun s => isK T s [2]
  else []
def poss (T : Ts) (k : Bs) : List Bs := Lib.compact ((raw T k).mergeSort fun x y => decide (x ≤ y))
def PossPost (w : World) (T : Ts) (k : Bs) (e : Ending) (w' : World) : Prop := ∃ A, e = .returned (.slice A (poss T k).length (poss T k).length) ∧ Row w' w.heap.size A (poss T k) ∧ Below w.heap.size w w'
theorem raw_le {n lo hi p : Nat} {w : World} {T : Ts} {X : TL} (h : TysX n w lo hi p T X) (k : Bs) : (raw T k).length ≤ 80 := by
  unfold raw
  split
  · simp
  · split
    · have := List.length_filter_le (fun s => isK T s [2] && decide (k ∈ (look T s).impls)) (T.map (·.name))
      have := h.cnt
      simp at *
      omega
    · split
      · have := List.length_filter_le (fun s => isK T s [2]) (look T k).members
        rcases h.names k with h1 | ⟨_, h2, _⟩
        · have := h1.members.1; omega
        · rw [h2]; simp
      · simp
theorem filter_snoc {l : List Bs} {f : Bs → Bool} {j : Nat} (hj : j < l.length) : (l.take (j + 1)).filter f = (l.take j).filter f ++ if f l[j] then [l[j]] else [] := by
  rw [List.take_succ_eq_append_getElem hj, List.filter_append]
  congr 1
  cases h : f l[j] <;> simp [h]
set_option maxRecDepth 20000 in
set_option maxHeartbeats 3200000 in
theorem possible_any {n lo hi p : Nat} {w : World} {T : Ts} {X : TL} {k : Bs} (h : TysX n w lo hi p T X) (hk : k.length ≤ maxLen) :
    Calls Try.prog 14 #[.pointer (some ⟨p, 0, none⟩), tx k] w (PossPost w T k) := by
  have hkind := kind_any h hk
  have H := hide (And.intro h hk)
  have HK := hide hkind
  clear h hk hkind
  have q2 := run_field2
  have q4 := run_field4
  obtain ⟨kd, hkd⟩ : ∃ kd, kd = kind T k := ⟨_, rfl⟩
  have HD := hide hkd
  by_cases e2 : kd = 2
  · have hr : raw T k = [k] := by unfold raw; rw [← hkd, if_pos e2]
    have HR := hide hr
    rw [← hkd, e2] at HK
    clear hr hkd e2 HD
    go_enter Try.func14, Try.ntmps14
    go_wp2_with fail
    refine HK.out.mono ?_
    rintro e w1 ⟨rfl, rfl⟩
    go_wp2_with ((with_reducible show wpList _ _ _ ({ dst := _, op := .call { callee := .builtin .append, args := #[_, _], argTypes := #[31, 31] }, type := _, pos := _, after := _, guard := _ } :: _) _ _); refine wpList_append_name rfl rfl (World.ownsRow_nil _ w.heap.size _ _) (by rw [cell_of_row _ _ _ _ _ _ (heap_alloc_new w _)]; rfl) rfl (by omega) (by simp) ?_; intro A1 c1 w2 hown2 hb2; have HO := hide (And.intro hown2 (((Below.refl w.heap.size w).alloc (Nat.le_refl _) _).trans hb2)); clear hown2 hb2)
    obtain ⟨L, hL⟩ : ∃ L, L = raw T k := ⟨_, rfl⟩
    have HLn := hide hL
    replace HO : Hid (w2.ownsRow w.heap.size 9 1 (.slice A1 1 c1) 1 (L.map tx) ∧ Below w.heap.size w w2) := by rw [hL, HR.out]; exact HO
    clear hL
    refine (sort_any HO.out.1 (by rw [HLn.out]; have := raw_le H.out.1 k; omega)).mono ?_
    rintro e ws ⟨rfl, hrs, hbs⟩
    have HS := hide (And.intro hrs (HO.out.2.trans hbs))
    clear hrs hbs
    go_wp2_with fail
    refine (compact_any HS.out.1 (by rw [List.length_mergeSort, HLn.out]; have := raw_le H.out.1 k; omega)).mono ?_
    rintro e wt ⟨rfl, hrt, hbt⟩
    have HT := hide (And.intro hrt (HS.out.2.trans hbt))
    clear hrt hbt
    go_wp2_with fail
    refine (clip_any HT.out.1 (by have := compact_le (L.mergeSort fun x y => decide (x ≤ y)); rw [List.length_mergeSort] at this; have h2 := raw_le H.out.1 k; rw [← HLn.out] at h2; omega)).mono ?_
    rintro e wu ⟨rfl, rfl⟩
    go_wp2
    go_ret
    obtain rfl := HLn.out
    exact ⟨_, rfl, Row.of_own HT.out.1, HT.out.2⟩
  · by_cases e3 : kd = 3
    · have hr : raw T k = (T.map (·.name)).filter (fun s => isK T s [2] && decide (k ∈ (look T s).impls)) := by unfold raw; rw [← hkd, if_neg e2, if_pos e3]
      have HR := hide hr
      rw [← hkd, e3] at HK
      clear hr hkd e2 e3 HD
      have p1 := H.out.1.p1
      obtain ⟨ns, hns⟩ : ∃ ns, ns = T.map (·.name) := ⟨_, rfl⟩
      have hnl : T.length = ns.length := by rw [hns]; simp
      have hn80 : (ns.length : Int) ≤ 80 := by have := H.out.1.cnt; omega
      rw [hnl] at p1
      have HN := hide hns
      clear hns hnl
      go_enter Try.func14, Try.ntmps14
      go_wp2_with fail
      refine HK.out.mono ?_
      rintro e w1 ⟨rfl, rfl⟩
      go_wp2_with fail
      go_loopw [5, 26] (fun v i wr => ∃ j : Nat, j ≤ ns.length ∧ i = .int .i64 j ∧ Hid (∃ A c L, v = .slice A L.length c ∧ L = (ns.take j).filter (fun s => isK T s [2] && decide (k ∈ (look T s).impls)) ∧ wr.ownsRow w.heap.size 9 1 (.slice A L.length c) L.length (L.map tx) ∧ Below w.heap.size w wr)) (fun _ i _ => ns.length - (intOf i).toNat)
      case atStart => exact ⟨0, Nat.zero_le _, rfl, hide ⟨none, 0, [], rfl, rfl, World.ownsRow_nil _ _ _ _, Below.refl _ _⟩⟩
      case round =>
        obtain ⟨j, hj, rfl, HRr⟩ := hrel
        obtain ⟨A, c, L, rfl, hLe, hown, hbl⟩ := HRr.out
        clear HRr
        have hwr := H.out.1.below hbl
        by_cases hlt : j < ns.length
        · obtain ⟨s, hs⟩ : ∃ s, s = ns[j] := ⟨_, rfl⟩
          have hord := hwr.ord
          rw [← HN.out] at hord
          obtain ⟨b, o, hA1, hSb, hc⟩ := rs_at hord hlt
          rw [← hs] at hc
          have hLl : L.length ≤ 80 := by
            rw [hLe]
            have := List.length_filter_le (fun s => isK T s [2] && decide (k ∈ (look T s).impls)) (ns.take j)
            simp at this
            omega
          have hsl : s.length ≤ maxLen := by
            have : s ∈ T.map (·.name) := by rw [hs, ← HN.out]; exact List.getElem_mem _
            obtain ⟨d, hd, rfl⟩ := List.mem_map.1 this
            have := (H.out.1.few d hd).name
            unfold maxLen
            omega
          have hnext := filter_snoc (f := fun s => isK T s [2] && decide (k ∈ (look T s).impls)) hlt
          rw [← hLe, ← hs] at hnext
          have HX := hide (And.intro hA1 (And.intro hLe (And.intro hown (And.intro hbl (And.intro hwr (And.intro hLl (And.intro hsl hnext)))))))
          clear hA1 hSb hLe hown hbl hwr hLl hsl hnext hord hs
          have I2 := is_any (ks := [2]) 1 (tys_alloc HX.out.2.2.2.2.1 (.cells #[.int .i64 2] 3)) HX.out.2.2.2.2.2.2.1 (rn_new wr [2] 3) (by decide)
          cases k2 : isK T s [2] with
          | true =>
            have K2 := hide k2
            rw [k2] at I2
            have J2 := hide I2
            clear k2 I2
            have h9 := tys_alloc HX.out.2.2.2.2.1 (.cells #[.int .i64 2] 3)
            obtain ⟨A1, c1, A2, c2, A3, c3, A4, c4, e1, hrt⟩ := h9.cells s
            obtain ⟨B1, d1, B2, d2, B3, d3, B4, d4, eq1, s1, _⟩ := hrt
            have hA : A1 = B1 := by injection eq1 with _ eq1; injection eq1 with _ eq1; injection eq1 with eq1 _; injection eq1
            subst hA
            have hC := containsS_any (s := k) c1 s1 (by have := (rs_sub H.out.1 s).1; omega)
            have p0 := h9.p0
            have H9 := hide (And.intro h9 e1)
            clear h9 e1 eq1 s1
            cases km : decide (k ∈ (look T s).impls) with
            | true =>
              have KM := hide km
              rw [km] at hC
              have C := hide hC
              clear km hC
              go_wp2_with ((with_reducible show wpList _ _ _ ({ dst := _, op := .indexAddr 31 _ _, type := _, pos := _, after := _, guard := _ } :: _) _ _); refine wpList_index Try.underlying31 Try.sizeS rfl rfl HX.out.1 hlt rfl ?_)
              refine J2.out.mono ?_
              rintro e w' ⟨rfl, rfl⟩
              go_wp2_with (at_lookup; refine wpList_tget rfl H9.out.1.map rfl HX.out.2.2.2.2.2.2.1 H9.out.2 rfl ?_)
              refine C.out.mono ?_
              rintro e w' ⟨rfl, rfl⟩
              go_wp2_with ((with_reducible show wpList _ _ _ ({ dst := _, op := .call { callee := .builtin .append, args := #[_, _], argTypes := #[31, 31] }, type := _, pos := _, after := _, guard := _ } :: _) _ _); refine wpList_append_name rfl rfl ((HX.out.2.2.1.alloc _).alloc _) (new_cell2 wr _ (tx s) 9) rfl (by have := HX.out.2.2.2.2.2.1; omega) (by have := HX.out.2.2.2.1.size; simp; omega) ?_; intro A9 c9 w9 hown9 hb9; have HO := hide (And.intro hown9 (HX.out.2.2.2.1.trans ((((Below.refl w.heap.size wr).alloc HX.out.2.2.2.1.size _).alloc (by have := HX.out.2.2.2.1.size; simp; omega) _).trans hb9))); clear hown9 hb9)
              go_roundw
              case rel =>
                have e5 : (ns.take (j + 1)).filter (fun s => isK T s [2] && decide (k ∈ (look T s).impls)) = L ++ [s] := by rw [HX.out.2.2.2.2.2.2.2, K2.out, KM.out]; rfl
                exact ⟨j + 1, by omega, by go_num, hide ⟨A9, c9, L ++ [s], by simp, e5.symm, by simpa using HO.out.1, HO.out.2⟩⟩
              case measure => simp [intOf]; omega
            | false =>
              have KM := hide km
              rw [km] at hC
              have C := hide hC
              clear km hC
              go_wp2_with ((with_reducible show wpList _ _ _ ({ dst := _, op := .indexAddr 31 _ _, type := _, pos := _, after := _, guard := _ } :: _) _ _); refine wpList_index Try.underlying31 Try.sizeS rfl rfl HX.out.1 hlt rfl ?_)
              refine J2.out.mono ?_
              rintro e w' ⟨rfl, rfl⟩
              go_wp2_with (at_lookup; refine wpList_tget rfl H9.out.1.map rfl HX.out.2.2.2.2.2.2.1 H9.out.2 rfl ?_)
              refine C.out.mono ?_
              rintro e w' ⟨rfl, rfl⟩
              go_wp2
              go_roundw
              case rel =>
                have e5 : (ns.take (j + 1)).filter (fun s => isK T s [2] && decide (k ∈ (look T s).impls)) = L := by rw [HX.out.2.2.2.2.2.2.2, K2.out, KM.out]; simp
                exact ⟨j + 1, by omega, by go_num, hide ⟨A, c, L, rfl, e5.symm, HX.out.2.2.1.alloc _, HX.out.2.2.2.1.alloc HX.out.2.2.2.1.size _⟩⟩
              case measure => simp [intOf]; omega
          | false =>
            have K2 := hide k2
            rw [k2] at I2
            have J2 := hide I2
            clear k2 I2
            go_wp2_with ((with_reducible show wpList _ _ _ ({ dst := _, op := .indexAddr 31 _ _, type := _, pos := _, after := _, guard := _ } :: _) _ _); refine wpList_index Try.underlying31 Try.sizeS rfl rfl HX.out.1 hlt rfl ?_)
            refine J2.out.mono ?_
            rintro e w' ⟨rfl, rfl⟩
            go_wp2
            go_roundw
            case rel =>
              have e5 : (ns.take (j + 1)).filter (fun s => isK T s [2] && decide (k ∈ (look T s).impls)) = L := by rw [HX.out.2.2.2.2.2.2.2, K2.out]; simp
              exact ⟨j + 1, by omega, by go_num, hide ⟨A, c, L, rfl, e5.symm, HX.out.2.2.1.alloc _, HX.out.2.2.2.1.alloc HX.out.2.2.2.1.size _⟩⟩
            case measure => simp [intOf]; omega
        · have hLr : L = raw T k := by rw [hLe, List.take_of_length_le (by omega), HN.out, HR.out]
          have HLn := hide hLr
          have HO := hide (And.intro hown hbl)
          clear hLr hLe hown hbl hwr
          go_wp2_with fail
          refine (sort_any HO.out.1 (by rw [HLn.out]; have := raw_le H.out.1 k; omega)).mono ?_
          rintro e ws ⟨rfl, hrs, hbs⟩
          have HS := hide (And.intro hrs (HO.out.2.trans hbs))
          clear hrs hbs
          go_wp2_with fail
          refine (compact_any HS.out.1 (by rw [List.length_mergeSort, HLn.out]; have := raw_le H.out.1 k; omega)).mono ?_
          rintro e wt ⟨rfl, hrt, hbt⟩
          have HT := hide (And.intro hrt (HS.out.2.trans hbt))
          clear hrt hbt
          go_wp2_with fail
          refine (clip_any HT.out.1 (by have := compact_le (L.mergeSort fun x y => decide (x ≤ y)); rw [List.length_mergeSort] at this; have h2 := raw_le H.out.1 k; rw [← HLn.out] at h2; omega)).mono ?_
          rintro e wu ⟨rfl, rfl⟩
          go_wp2
          go_ret
          obtain rfl := HLn.out
          exact ⟨_, rfl, Row.of_own HT.out.1, HT.out.2⟩
    · by_cases e4 : kd = 4
      · have hr : raw T k = (look T k).members.filter (fun s => isK T s [2]) := by unfold raw; rw [← hkd, if_neg e2, if_neg e3, if_pos e4]
        have HR := hide hr
        rw [← hkd, e4] at HK
        clear hr hkd e2 e3 e4 HD
        have p0 := H.out.1.p0
        obtain ⟨ns, hns⟩ : ∃ ns, ns = (look T k).members := ⟨_, rfl⟩
        obtain ⟨A1, c1, A2, c2, A3, c3, A4, c4, e1, hrt⟩ := H.out.1.cells k
        obtain ⟨B1, d1, B2, d2, B3, d3, B4, d4, eq1, _, _, s3, _⟩ := hrt
        have hA : A3 = B3 := by injection eq1 with _ eq1; injection eq1 with _ eq1; injection eq1 with _ eq1; injection eq1 with _ eq1; injection eq1 with eq1 _; injection eq1
        subst hA
        have hnl : ns.length ≤ 60 := by rw [hns]; exact (rs_sub H.out.1 k).2
        have hn60 : (ns.length : Int) ≤ 60 := by omega
        have hsl : ∀ s ∈ ns, s.length ≤ 200 := by
          rcases H.out.1.names k with h1 | ⟨_, h2, _⟩
          · rw [hns]; exact h1.members.2
          · rw [hns, h2]; simp
        rw [← hns] at e1 s3
        have HN := hide (And.intro hns (And.intro s3 (And.intro hnl (And.intro hsl e1))))
        clear hns s3 hnl hsl eq1 e1
        go_enter Try.func14, Try.ntmps14
        go_wp2_with fail
        refine HK.out.mono ?_
        rintro e w1 ⟨rfl, rfl⟩
        go_wp2_with (at_lookup; refine wpList_tget rfl H.out.1.map rfl H.out.2 HN.out.2.2.2.2 rfl ?_)
        go_loopw [5, 60] (fun v i wr => ∃ j : Nat, j ≤ ns.length ∧ i = .int .i64 j ∧ Hid (∃ A c L, v = .slice A L.length c ∧ L = (ns.take j).filter (fun s => isK T s [2]) ∧ wr.ownsRow w.heap.size 9 1 (.slice A L.length c) L.length (L.map tx) ∧ Below w.heap.size w wr)) (fun _ i _ => ns.length - (intOf i).toNat)
        case atStart => exact ⟨0, Nat.zero_le _, rfl, hide ⟨none, 0, [], rfl, rfl, World.ownsRow_nil _ _ _ _, Below.refl _ _⟩⟩
        case round =>
          obtain ⟨j, hj, rfl, HRr⟩ := hrel
          obtain ⟨A, c, L, rfl, hLe, hown, hbl⟩ := HRr.out
          clear HRr
          have hwr := H.out.1.below hbl
          by_cases hlt : j < ns.length
          · obtain ⟨s, hs⟩ : ∃ s, s = ns[j] := ⟨_, rfl⟩
            obtain ⟨b, o, hA1, hSb, hc0⟩ := rs_at HN.out.2.1 hlt
            have hc : wr.cell? ⟨b, o + j, none⟩ = some (tx s) := by rw [hs, ← hc0]; exact cell_congr (hbl.block b (Nat.lt_of_lt_of_le hSb.2 H.out.1.up)) _
            clear hc0
            have hLl : L.length ≤ 80 := by
              rw [hLe]
              have := List.length_filter_le (fun s => isK T s [2]) (ns.take j)
              simp at this
              omega
            have hsl : s.length ≤ maxLen := by
              have := HN.out.2.2.2.1 s (by rw [hs]; exact List.getElem_mem _)
              unfold maxLen
              omega
            have hnext := filter_snoc (f := fun s => isK T s [2]) hlt
            rw [← hLe, ← hs] at hnext
            have HX := hide (And.intro hA1 (And.intro hLe (And.intro hown (And.intro hbl (And.intro hwr (And.intro hLl (And.intro hsl hnext)))))))
            clear hA1 hSb hLe hown hbl hwr hLl hsl hnext hs
            have I2 := is_any (ks := [2]) 1 (tys_alloc HX.out.2.2.2.2.1 (.cells #[.int .i64 2] 3)) HX.out.2.2.2.2.2.2.1 (rn_new wr [2] 3) (by decide)
            cases k2 : isK T s [2] with
            | true =>
              have K2 := hide k2
              rw [k2] at I2
              have J2 := hide I2
              clear k2 I2
              go_wp2_with ((with_reducible show wpList _ _ _ ({ dst := _, op := .indexAddr 31 _ _, type := _, pos := _, after := _, guard := _ } :: _) _ _); refine wpList_index Try.underlying31 Try.sizeS rfl rfl HX.out.1 hlt rfl ?_)
              refine J2.out.mono ?_
              rintro e w' ⟨rfl, rfl⟩
              go_wp2_with ((with_reducible show wpList _ _ _ ({ dst := _, op := .call { callee := .builtin .append, args := #[_, _], argTypes := #[31, 31] }, type := _, pos := _, after := _, guard := _ } :: _) _ _); refine wpList_append_name rfl rfl ((HX.out.2.2.1.alloc _).alloc _) (new_cell2 wr _ (tx s) 9) rfl (by have := HX.out.2.2.2.2.2.1; omega) (by have := HX.out.2.2.2.1.size; simp; omega) ?_; intro A9 c9 w9 hown9 hb9; have HO := hide (And.intro hown9 (HX.out.2.2.2.1.trans ((((Below.refl w.heap.size wr).alloc HX.out.2.2.2.1.size _).alloc (by have := HX.out.2.2.2.1.size; simp; omega) _).trans hb9))); clear hown9 hb9)
              go_roundw
              case rel =>
                have e5 : (ns.take (j + 1)).filter (fun s => isK T s [2]) = L ++ [s] := by rw [HX.out.2.2.2.2.2.2.2, K2.out]; rfl
                exact ⟨j + 1, by omega, by go_num, hide ⟨A9, c9, L ++ [s], by simp, e5.symm, by simpa using HO.out.1, HO.out.2⟩⟩
              case measure => simp [intOf]; omega
            | false =>
              have K2 := hide k2
              rw [k2] at I2
              have J2 := hide I2
              clear k2 I2
              go_wp2_with ((with_reducible show wpList _ _ _ ({ dst := _, op := .indexAddr 31 _ _, type := _, pos := _, after := _, guard := _ } :: _) _ _); refine wpList_index Try.underlying31 Try.sizeS rfl rfl HX.out.1 hlt rfl ?_)
              refine J2.out.mono ?_
              rintro e w' ⟨rfl, rfl⟩
              go_wp2
              go_roundw
              case rel =>
                have e5 : (ns.take (j + 1)).filter (fun s => isK T s [2]) = L := by rw [HX.out.2.2.2.2.2.2.2, K2.out]; simp
                exact ⟨j + 1, by omega, by go_num, hide ⟨A, c, L, rfl, e5.symm, HX.out.2.2.1.alloc _, HX.out.2.2.2.1.alloc HX.out.2.2.2.1.size _⟩⟩
              case measure => simp [intOf]; omega
          · have hLr : L = raw T k := by rw [hLe, List.take_of_length_le (by omega), HN.out.1, HR.out]
            have HLn := hide hLr
            have HO := hide (And.intro hown hbl)
            clear hLr hLe hown hbl hwr
            go_wp2_with fail
            refine (sort_any HO.out.1 (by rw [HLn.out]; have := raw_le H.out.1 k; omega)).mono ?_
            rintro e ws ⟨rfl, hrs, hbs⟩
            have HS := hide (And.intro hrs (HO.out.2.trans hbs))
            clear hrs hbs
            go_wp2_with fail
            refine (compact_any HS.out.1 (by rw [List.length_mergeSort, HLn.out]; have := raw_le H.out.1 k; omega)).mono ?_
            rintro e wt ⟨rfl, hrt, hbt⟩
            have HT := hide (And.intro hrt (HS.out.2.trans hbt))
            clear hrt hbt
            go_wp2_with fail
            refine (clip_any HT.out.1 (by have := compact_le (L.mergeSort fun x y => decide (x ≤ y)); rw [List.length_mergeSort] at this; have h2 := raw_le H.out.1 k; rw [← HLn.out] at h2; omega)).mono ?_
            rintro e wu ⟨rfl, rfl⟩
            go_wp2
            go_ret
            obtain rfl := HLn.out
            exact ⟨_, rfl, Row.of_own HT.out.1, HT.out.2⟩
      · have hr : raw T k = [] := by unfold raw; rw [← hkd, if_neg e2, if_neg e3, if_neg e4]
        have HR := hide hr
        rw [← hkd] at HK
        have f2 : (kd == 2) = false := by simpa using e2
        have f3 : (kd == 3) = false := by simpa using e3
        have f4 : (kd == 4) = false := by simpa using e4
        clear hr hkd e2 e3 e4 HD
        go_enter Try.func14, Try.ntmps14
        go_wp2_with fail
        refine HK.out.mono ?_
        rintro e w1 ⟨rfl, rfl⟩
        go_wp2_with fail
        obtain ⟨L, hL⟩ : ∃ L, L = raw T k := ⟨_, rfl⟩
        have HLn := hide hL
        have HO : Hid (w.ownsRow w.heap.size 9 1 (.slice none 0 0) 0 (L.map tx) ∧ Below w.heap.size w w) := hide ⟨by rw [hL, HR.out]; exact World.ownsRow_nil _ _ _ _, Below.refl _ _⟩
        clear hL
        refine (sort_any HO.out.1 (by rw [HLn.out]; have := raw_le H.out.1 k; omega)).mono ?_
        rintro e ws ⟨rfl, hrs, hbs⟩
        have HS := hide (And.intro hrs (HO.out.2.trans hbs))
        clear hrs hbs
        go_wp2_with fail
        refine (compact_any HS.out.1 (by rw [List.length_mergeSort, HLn.out]; have := raw_le H.out.1 k; omega)).mono ?_
        rintro e wt ⟨rfl, hrt, hbt⟩
        have HT := hide (And.intro hrt (HS.out.2.trans hbt))
        clear hrt hbt
        go_wp2_with fail
        refine (clip_any HT.out.1 (by have := compact_le (L.mergeSort fun x y => decide (x ≤ y)); rw [List.length_mergeSort] at this; have h2 := raw_le H.out.1 k; rw [← HLn.out] at h2; omega)).mono ?_
        rintro e wu ⟨rfl, rfl⟩
        go_wp2
        go_ret
        obtain rfl := HLn.out
        exact ⟨_, rfl, Row.of_own HT.out.1, HT.out.2⟩
end Go.Proofs.Ytlpmnnkijdbopaa
