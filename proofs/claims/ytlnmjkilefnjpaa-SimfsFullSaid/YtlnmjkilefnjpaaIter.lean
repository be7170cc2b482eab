/-
  The names of a directory in order: the library's maps.Keys and slices.Sorted at this program (the layings: by the kit's tool lay-plain.mjs).
-/
import Derived.Shelf.SlGeneric
import Derived.Shelf.SlIter.Nil
import Derived.Shelf.SortM.Plain
import Derived.Shelf.SortM.SortNone
import Derived.Ground.GgzProg
import Derived.Ground.SlgmProg
import Derived.Test.YtlnmjkilefnjpaaWords
namespace Go.Proofs.Ytlnmjkilefnjpaa
open Go.RowKit Go.Maps Go.Sort Go.Shelf
def Try.keys28_ren : Go.Shelf.Ren := ⟨fun | 7 => 28 | 10 => 34 | n => n, fun | 23 => 49 | 26 => 9 | 3 => 3 | 28 => 69 | 0 => 0 | 27 => 68 | 33 => 45 | 4 => 4 | n => n, fun | n => n⟩
theorem Try.keys28 : Go.Proofs.SlLaysZ.n7 Try.prog Try.keys28_ren := {
  mixed := by kernel_rfl
  f7 := ⟨Try.f28.name, by decide, Try.func28.trans (congrArg some (by kernel_rfl))⟩
  f10 := ⟨Try.f34.name, by decide, Try.func34.trans (congrArg some (by kernel_rfl))⟩
  t0 := Try.underlying0
  a0 := Try.isAgg0
  z0 := Try.sizeOf0
  v0 := Try.zeroValue0
  t4 := Try.underlying4
  a4 := Try.isAgg4
  z4 := Try.sizeOf4
  v4 := Try.zeroValue4
  t23 := Try.underlying49
  a23 := Try.isAgg49
  z23 := Try.sizeOf49
  v23 := Try.zeroValue49
  t26 := Try.underlying9
  a26 := Try.isAgg9
  z26 := Try.sizeOf9
  v26 := Try.zeroValue9
  t27 := Try.underlying68
  a27 := Try.isAgg68
  z27 := Try.sizeOf68
  v27 := Try.zeroValue68
  t28 := Try.underlying69
  a28 := Try.isAgg69
  z28 := Try.sizeOf69
  v28 := Try.zeroValue69
  t33 := Try.underlying45
  a33 := Try.isAgg45
  z33 := Try.sizeOf45
  v33 := Try.zeroValue45 }
def Try.sorted27_ren : Go.Shelf.Ren := ⟨fun | 6 => 27 | 8 => 32 | 9 => 33 | 11 => 36 | 13 => 38 | 12 => 37 | 23 => 48 | 24 => 49 | 14 => 39 | 15 => 40 | 16 => 41 | 17 => 42 | 18 => 43 | 19 => 44 | 20 => 45 | 21 => 46 | 22 => 47 | 25 => 50 | 26 => 51 | 27 => 52 | 28 => 53 | 29 => 54 | 30 => 55 | 31 => 56 | n => n, fun | 26 => 9 | 28 => 69 | 24 => 33 | 0 => 0 | 3 => 3 | 37 => 24 | 48 => 90 | 50 => 92 | 4 => 4 | 40 => 83 | 39 => 82 | 45 => 55 | 5 => 5 | 9 => 9 | 51 => 93 | 55 => 97 | 57 => 99 | 58 => 100 | 33 => 45 | n => n, fun | n => n⟩
theorem Try.sorted27 : Go.Proofs.SlLaysZ.n6 Try.prog Try.sorted27_ren := {
  mixed := by kernel_rfl
  f6 := ⟨Try.f27.name, by decide, Try.func27.trans (congrArg some (by kernel_rfl))⟩
  f8 := ⟨Try.f32.name, by decide, Try.func32.trans (congrArg some (by kernel_rfl))⟩
  f11 := ⟨Try.f36.name, by decide, Try.func36.trans (congrArg some (by kernel_rfl))⟩
  t0 := Try.underlying0
  a0 := Try.isAgg0
  z0 := Try.sizeOf0
  v0 := Try.zeroValue0
  t24 := Try.underlying33
  a24 := Try.isAgg33
  z24 := Try.sizeOf33
  v24 := Try.zeroValue33
  t26 := Try.underlying9
  a26 := Try.isAgg9
  z26 := Try.sizeOf9
  v26 := Try.zeroValue9
  t28 := Try.underlying69
  a28 := Try.isAgg69
  z28 := Try.sizeOf69
  v28 := Try.zeroValue69
  i26 := by kernel_rfl }
def Try.sort33_ren : Go.Shelf.Ren := ⟨fun | 6 => 33 | 8 => 38 | 9 => 37 | 19 => 48 | 20 => 49 | 21 => 39 | 22 => 40 | 23 => 41 | 24 => 42 | 25 => 43 | 26 => 44 | 27 => 45 | 28 => 46 | 29 => 47 | 36 => 50 | 31 => 51 | 32 => 52 | 37 => 53 | 38 => 54 | 39 => 55 | 41 => 56 | n => n, fun | 27 => 33 | 29 => 9 | 3 => 3 | 32 => 24 | 26 => 33 | 0 => 0 | 44 => 90 | 46 => 92 | 4 => 4 | 36 => 83 | 35 => 82 | 41 => 55 | 5 => 5 | 9 => 9 | 53 => 93 | 57 => 97 | 63 => 99 | 64 => 100 | n => n, fun | n => n⟩
theorem Try.sort33 : Go.Proofs.SlLaysM.n6 Try.prog Try.sort33_ren := {
  mixed := by kernel_rfl
  f6 := ⟨Try.f33.name, by decide, Try.func33.trans (congrArg some (by kernel_rfl))⟩
  f8 := Try.func38.trans (congrArg some (by kernel_rfl))
  f9 := ⟨Try.f37.name, by decide, Try.func37.trans (congrArg some (by kernel_rfl))⟩
  f19 := Try.func48.trans (congrArg some (by kernel_rfl))
  f20 := Try.func49.trans (congrArg some (by kernel_rfl))
  f21 := ⟨Try.f39.name, by decide, Try.func39.trans (congrArg some (by kernel_rfl))⟩
  f22 := ⟨Try.f40.name, by decide, Try.func40.trans (congrArg some (by kernel_rfl))⟩
  f23 := ⟨Try.f41.name, by decide, Try.func41.trans (congrArg some (by kernel_rfl))⟩
  f24 := ⟨Try.f42.name, by decide, Try.func42.trans (congrArg some (by kernel_rfl))⟩
  f25 := ⟨Try.f43.name, by decide, Try.func43.trans (congrArg some (by kernel_rfl))⟩
  f26 := ⟨Try.f44.name, by decide, Try.func44.trans (congrArg some (by kernel_rfl))⟩
  f27 := ⟨Try.f45.name, by decide, Try.func45.trans (congrArg some (by kernel_rfl))⟩
  f28 := ⟨Try.f46.name, by decide, Try.func46.trans (congrArg some (by kernel_rfl))⟩
  f29 := ⟨Try.f47.name, by decide, Try.func47.trans (congrArg some (by kernel_rfl))⟩
  f31 := Try.func51.trans (congrArg some (by kernel_rfl))
  f32 := Try.func52.trans (congrArg some (by kernel_rfl))
  f36 := ⟨Try.f50.name, by decide, Try.func50.trans (congrArg some (by kernel_rfl))⟩
  f37 := ⟨Try.f53.name, by decide, Try.func53.trans (congrArg some (by kernel_rfl))⟩
  f38 := ⟨Try.f54.name, by decide, Try.func54.trans (congrArg some (by kernel_rfl))⟩
  f39 := ⟨Try.f55.name, by decide, Try.func55.trans (congrArg some (by kernel_rfl))⟩
  f41 := ⟨Try.f56.name, by decide, Try.func56.trans (congrArg some (by kernel_rfl))⟩
  t0 := Try.underlying0
  a0 := Try.isAgg0
  z0 := Try.sizeOf0
  v0 := Try.zeroValue0
  t3 := Try.underlying3
  a3 := Try.isAgg3
  z3 := Try.sizeOf3
  v3 := Try.zeroValue3
  t4 := Try.underlying4
  a4 := Try.isAgg4
  z4 := Try.sizeOf4
  v4 := Try.zeroValue4
  t5 := Try.underlying5
  a5 := Try.isAgg5
  z5 := Try.sizeOf5
  v5 := Try.zeroValue5
  t9 := Try.underlying9
  a9 := Try.isAgg9
  z9 := Try.sizeOf9
  v9 := Try.zeroValue9
  t26 := Try.underlying33
  a26 := Try.isAgg33
  z26 := Try.sizeOf33
  v26 := Try.zeroValue33
  t27 := Try.underlying33
  a27 := Try.isAgg33
  z27 := Try.sizeOf33
  v27 := Try.zeroValue33
  t29 := Try.underlying9
  a29 := Try.isAgg9
  z29 := Try.sizeOf9
  v29 := Try.zeroValue9
  t32 := Try.underlying24
  a32 := Try.isAgg24
  z32 := Try.sizeOf24
  v32 := Try.zeroValue24
  t35 := Try.underlying82
  a35 := Try.isAgg82
  z35 := Try.sizeOf82
  v35 := Try.zeroValue82
  t36 := Try.underlying83
  a36 := Try.isAgg83
  z36 := Try.sizeOf83
  v36 := Try.zeroValue83
  t41 := Try.underlying55
  a41 := Try.isAgg55
  z41 := Try.sizeOf55
  v41 := Try.zeroValue55
  t44 := Try.underlying90
  a44 := Try.isAgg90
  z44 := Try.sizeOf90
  v44 := Try.zeroValue90
  t46 := Try.underlying92
  a46 := Try.isAgg92
  z46 := Try.sizeOf92
  v46 := Try.zeroValue92
  t53 := Try.underlying93
  a53 := Try.isAgg93
  z53 := Try.sizeOf93
  v53 := Try.zeroValue93
  t57 := Try.underlying97
  a57 := Try.isAgg97
  z57 := Try.sizeOf97
  v57 := Try.zeroValue97
  t63 := Try.underlying99
  a63 := Try.isAgg99
  z63 := Try.sizeOf99
  v63 := Try.zeroValue99
  t64 := Try.underlying100
  a64 := Try.isAgg100
  z64 := Try.sizeOf100
  v64 := Try.zeroValue100 }

theorem sorts_any (m : Nat) : AnyZ.SortsIn Try.prog Try.sorted27_ren Fence.wide m :=
  ⟨fun blk off cap ss W hH hblk hsz => callsIn_wide.2 (AnyM.slices_Sort_string Try.sort33 blk off cap ss W hH hblk hsz),
   fun p cap W => callsIn_wide.2 (AnyM.slices_Sort_string_none Try.sort33 p cap W)⟩
theorem keys_any (b : Nat) (w : World) : Calls Try.prog 28 #[.map (some b)] w fun e w' => e = .returned (.func (.func 34) #[] #[.pointer (some ⟨w.heap.size, 0, none⟩)]) ∧ w' = w.alloc (.cells #[.map (some b)] 49) :=
  (callsIn_wide (n := 5)).1 (AnyZ.keys_in Try.keys28 Fence.wide 5 trivial rfl (some b) w)

theorem law : Keyed Try.prog 9 := string_keyed Try.underlying9
/-- a directory in block b -/
def Dr (w : World) (b : Nat) (l : Dir) : Prop := w.ownsMap Try.prog 9 (plainElem Try.prog 3) b l.length (dirD l)
theorem Dr.srt {w : World} {b : Nat} {l : Dir} (h : Dr w b l) : Srt l := srt_of_canon (World.ownsMap.canon h law)
theorem Dr.of {w : World} {b n : Nat} {l : Dir} (h : w.ownsMap Try.prog 9 (plainElem Try.prog 3) b n (dirD l)) : Dr w b l := by
  obtain ⟨es, clock, hb, F, hs, hD⟩ := h
  refine ⟨es, clock, hb, F, ?_, hD⟩
  have h1 : l.map ent = (es.toList.map (Go.WideElems.rg Try.prog 9 (plainElem Try.prog 3))).foldr DataW.insert [] := by injection hD
  have h2 := congrArg List.length h1
  rw [length_sorted] at h2
  simp at h2
  omega
theorem Dr.same {w w' : World} {b : Nat} {l : Dir} (h : Dr w b l) (hb : w'.heap[b]? = w.heap[b]?) : Dr w' b l := by
  obtain ⟨es, clock, hb0, F, hs, hD⟩ := h
  exact ⟨es, clock, by rw [hb]; exact hb0, F, hs, hD⟩
theorem Dr.block {w : World} {b : Nat} {l : Dir} (h : Dr w b l) : ∃ es c, w.heap[b]? = some (.map es c) := by
  obtain ⟨es, clock, hb0, F, hs, hD⟩ := h
  exact ⟨es, clock, hb0⟩
theorem Dr.lt {w : World} {b : Nat} {l : Dir} (h : Dr w b l) : b < w.heap.size := World.ownsMap.lt h
theorem Dr.below {w w' : World} {b : Nat} {l : Dir} (h : Dr w b l) (hb : Below w.heap.size w w') : Dr w' b l := h.same (hb.block _ h.lt)
theorem Dr.kept {w w' : World} {b : Nat} {l : Dir} {row : Option Nat} (h : Dr w b l) (hg : w.grownBy w' row) (hne : some b ≠ row) : Dr w' b l := World.ownsMap.kept h hg hne
/-- text as a value -/
abbrev tx (l : Bs) : Value := .string ⟨l.toArray⟩

set_option maxHeartbeats 1000000 in
theorem sorted_any {b : Nat} {l : Dir} {w : World} (h : Dr w b l) (hl : l.length ≤ 1000000) :
    Calls Try.prog 27 #[.func (.func 34) #[] #[.pointer (some ⟨w.heap.size, 0, none⟩)]] (w.alloc (.cells #[.map (some b)] 49)) fun e w' => ∃ A c, e = .returned (.slice A l.length c) ∧
      w'.ownsRow (w.heap.size + 1) 9 1 (.slice A l.length c) l.length (l.map fun p => tx p.1) ∧ Below w.heap.size w w' := by
  have hbl := h.lt
  have hs := h.srt
  have hb0 : Below w.heap.size w (w.alloc (.cells #[.map (some b)] 49)) := (Below.refl _ w).alloc (Nat.le_refl _) _
  have hsz : Maps.size (dirD l) = l.length := dirD_size l
  have hseq : SeqGives Fence.wide 2 Try.prog 34 #[.pointer (some ⟨w.heap.size, 0, none⟩)] encStr (fun ss => ss.Perm (strKeys (dirD l))) (Maps.size (dirD l)) (w.alloc (.cells #[.map (some b)] 49)) :=
    AnyZ.keys_gives (ρ := Try.keys28_ren) { Try.keys28 with } Fence.wide _ trivial rfl (by omega) w.heap.size b l.length (dirD l) _ (by simp) (by simp) (h.below hb0)
  have hmain := AnyZ.sorted_in Try.sorted27 Fence.wide 5 trivial trivial trivial trivial rfl (by omega) (sorts_any _) (enters_of Try.func33 (by kernel_rfl) rfl) 34 #[.pointer (some ⟨w.heap.size, 0, none⟩)] trivial (enters_of Try.func34 (by kernel_rfl) rfl) _ _ (by rw [hsz]; unfold maxLen; omega) (by rw [hsz]; omega) _ hseq
  refine Calls.mono ((callsIn_wide (n := 5)).1 hmain) ?_
  rintro e w' ⟨v, ss, rfl, hp, hrow, _, hb⟩
  rw [dirD_keys] at hp
  have hlen : ss.length = l.length := by rw [hp.length_eq]; simp
  rw [sort_keys hs hp, hlen, World.size_alloc, List.map_map] at hrow
  rw [World.size_alloc] at hb
  have hbb : Below w.heap.size w w' := hb0.trans (hb.mono (Nat.le_succ _))
  have he : (encStr ∘ fun p : Bs × Nat => p.1) = fun p : Bs × Nat => tx p.1 := by funext p; rfl
  rw [he] at hrow
  rcases hrow.2 with ⟨hv, h0⟩ | ⟨g, cap, cur, hv, _⟩
  · subst hv
    refine ⟨none, 0, ?_, ?_, hbb⟩
    · rw [h0]
    · rw [h0] at hrow ⊢; exact hrow
  · subst hv
    exact ⟨_, _, rfl, hrow, hbb⟩
end Go.Proofs.Ytlnmjkilefnjpaa
