/- What the sorts leave: the segments rising, the stray names rising. -/
import Derived.Test.YtbnplhbepkggpaaDoorNmD
import Derived.Test.YtbnplhbepkggpaaDoorSort
import Derived.Sort.OwnSorted
namespace Go.Proofs.YtbnplhbepkggpaaDoor.nm
open Go Go.RowKit Go.WideShapes Go.ChangeShapes Go.Maps Go.Sort Go.Lib

/-- What the order of Group says of two segments. -/
def segCmp (x y : Seg) : Int := if x.base < y.base then -1 else 1
theorem segLt (x y : Seg) : ltOf segCmp x y = decide (x.base < y.base) := by
  unfold ltOf segCmp
  by_cases h : x.base < y.base <;> simp [h]
theorem segSwo : SWO (ltOf segCmp) where
  irrefl x := by rw [segLt]; simp
  trans x y z h1 h2 := by rw [segLt] at *; simp at *; omega
  ntrans x y z h1 h2 := by rw [segLt] at *; simp at *; omega

theorem isAggSeg (w : World) : (isAgg 48).run Tryd.prog w = .ok true w := by kernel_rfl
theorem sizeSeg (w : World) : (Go.sizeOf 48).run Tryd.prog w = .ok 4 w := by kernel_rfl

set_option maxHeartbeats 1000000 in
theorem segCmp_any (x y : Seg) (W : World) : Calls Tryd.prog 28 #[.agg x.cells.toArray, .agg y.cells.toArray] W fun e w' => e = .returned (.int .i64 (segCmp x y)) ∧ ∃ q os', w' = grow (W.drewN q) os' := by
  obtain ⟨xb, x0, x1, x2⟩ := x
  obtain ⟨yb, y0, y1, y2⟩ := y
  simp only [Seg.cells, segCmp]
  by_cases h : xb < yb
  · rw [if_pos h]
    go_enter Tryd.func28, Tryd.ntmps28
    go_wp2
    go_ret
    exact ⟨rfl, 0, _, by rw [alloc_eq_grow, alloc_eq_grow, grow_grow]; rfl⟩
  · rw [if_neg h]
    go_enter Tryd.func28, Tryd.ntmps28
    go_wp2
    go_ret
    exact ⟨rfl, 0, _, by rw [alloc_eq_grow, alloc_eq_grow, grow_grow]; rfl⟩

theorem segCells_at (A : List Seg) (t : Nat) (h : t < A.length * 4) : (segCells A)[t]? = some ((Seg.cells (A.toArray[t / 4]!))[t % 4]!) := by
  have h1 := segCells_get A (t / 4) (by omega) (t % 4) (by omega)
  rw [show t / 4 * 4 + t % 4 = t by omega] at h1
  rw [h1]
  have h2 : t / 4 < A.length := by omega
  have h3 : A.toArray[t / 4]! = A[t / 4] := by simp [h2]
  rw [h3, List.getElem?_eq_getElem (by simp [Seg.cells]; omega)]
  have h4 : t % 4 < (Seg.cells A[t / 4]).length := by simp [Seg.cells]; omega
  rw [getElem!_pos A[t / 4].cells (t % 4) h4]
theorem flat_seg (A : List Seg) : (flatK Seg.cells 4 A.toArray).toList = segCells A := by
  apply List.ext_getElem?
  intro t
  by_cases h : t < A.length * 4
  · rw [segCells_at A t h, Array.getElem?_toList]
    have h2 : t < (flatK Seg.cells 4 A.toArray).size := by simpa using h
    have h1 := get_flatK Seg.cells 4 A.toArray t (by simpa using h)
    rw [getElem!_pos (flatK Seg.cells 4 A.toArray) t h2] at h1
    rw [Array.getElem?_eq_getElem h2, h1]
  · rw [List.getElem?_eq_none (by simp; omega), List.getElem?_eq_none (by rw [segCells_len]; omega)]

theorem list_of_array {d : Array Seg} : d = d.toList.toArray := by simp

set_option maxHeartbeats 1000000 in
theorem sort_segs (w : World) (base : Nat) (v : Value) (A : List Seg) (hA : w.ownsRow base 48 4 v A.length (segCells A)) (hn : A.length < 4611686018427387904) :
    Calls Tryd.prog 27 #[v, .func (.func 28) #[] #[]] w fun e w' => e = .returned (.tuple #[]) ∧ ∃ B : List Seg, B.Perm A ∧ B.Pairwise (fun x y => ¬ y.base < x.base) ∧
      w'.ownsRow base 48 4 v B.length (segCells B) ∧ w.grownBy w' v.ownBlock := by
  rcases hA.2 with ⟨rfl, h0⟩ | ⟨g, cap, cur, rfl, hb, hh, hc, hm, hs, ht⟩
  · have : A = [] := List.eq_nil_of_length_eq_zero h0
    subst this
    refine (AnyF.slices_SortFunc_none Tryd.sortSeg none 0 _ w).mono ?_
    rintro e w' ⟨he, rfl⟩
    exact ⟨he, [], List.Perm.refl _, List.Pairwise.nil, hA, ⟨rfl, rfl, rfl, Nat.le_refl _, fun _ _ _ => rfl⟩⟩
  · have hg : g < w.heap.size := by
      rcases Nat.lt_or_ge g w.heap.size with h1 | h1
      · exact h1
      · rw [Array.getElem?_eq_none h1] at hh; cases hh
    have hH : HoldsK Seg.cells 4 w g 0 A.toArray := by
      intro j hj
      have hj' : j < A.length * 4 := by simpa using hj
      rw [Nat.zero_add, hA.cellAt j hj', hA.frozenAt j]
      refine ⟨?_, rfl⟩
      rw [segCells_at A j hj', get_flatK _ _ _ _ (by simpa using hj')]
      rfl
    have eg : ∀ args w, (callFunc 28 args).run Tryd.prog w = .ok (.enter 28 args) w := enters_of Tryd.func28 (by kernel_rfl) rfl
    have hcon := AnyQ.slices_SortFunc Tryd.sortSeg 4 isAggSeg sizeSeg Seg.cells (fun _ => rfl) (fun x v hv => by simp [Seg.cells] at hv; rcases hv with rfl | rfl | rfl | rfl <;> rfl) segCmp segSwo 28 #[] g 0 cap A.toArray w eg (fun _ _ _ _ x y => segCmp_any x y _) hH hg (by simpa using hn)
    refine hcon.mono ?_
    rintro e w' ⟨he, d', n, os, hp, hso, rfl⟩
    obtain ⟨hp1, _, hp3⟩ := hp
    have hperm : d'.toList.Perm A := by
      have e1 : (d'.extract 0 A.toArray.size) = d' := by rw [← hp1]; simp
      have e2 : (A.toArray.extract 0 A.toArray.size) = A.toArray := by simp
      rw [e1, e2] at hp3
      simpa using hp3
    have hlen : d'.size = A.length := by simpa using hp1
    refine ⟨he, d'.toList, hperm, ?_, ?_, ?_⟩
    · rw [List.pairwise_iff_getElem]
      intro i j hi hj hij
      have := hso i j (Nat.zero_le _) hij (by simpa [hlen] using hj)
      rw [segLt, getElem!_pos d' j (by simpa using hj), getElem!_pos d' i (by simpa using hi)] at this
      simpa using this
    · have hF : (sortWorldK Seg.cells 4 w g 0 n d' os).heap[g]? = some (.cells (putCells id 0 (flatK Seg.cells 4 d') cur) 48 (0, 0)) := by
        unfold sortWorldK
        rw [heap_grow_old _ _ (by simpa [putRowK, putRow, mapBlock, Sort.ahead] using hg)]
        simp [putRowK, putRow, mapBlock, Sort.ahead, Array.getElem?_modify, hh, onCells]
      refine ⟨by rw [segCells_len], .inr ⟨g, cap, _, ?_, hb, hF, ?_, hm, by simp [putCells, hs], ?_⟩⟩
      · rw [show d'.toList.length = A.length by simp [hlen]]
      · rw [show d'.toList.length = A.length by simp [hlen]]; exact hc
      · rw [← flat_seg, show d'.toList.toArray = d' by simp]
        apply List.ext_getElem?
        intro t
        by_cases h : t < d'.toList.length * 4
        · have h2 : t < cur.size := by rw [hs]; simp [hlen] at h; omega
          have h3 : t < (flatK Seg.cells 4 d').size := by simpa using h
          rw [List.getElem?_take_of_lt h, Array.getElem?_toList, Array.getElem?_toList, Array.getElem?_eq_getElem h3]
          simp [putCells, h2, show t < d'.size * 4 by simpa using h]
        · rw [List.getElem?_take_eq_none (by omega), List.getElem?_eq_none (by simp at h ⊢; omega)]
    · refine ⟨rfl, rfl, rfl, by simp [sortWorldK, putRowK, putRow, mapBlock, Sort.ahead], fun k hk hne => ?_⟩
      unfold sortWorldK
      rw [heap_grow_old _ _ (by simpa [putRowK, putRow, mapBlock, Sort.ahead] using hk)]
      have : g ≠ k := fun e => hne (by rw [e]; rfl)
      simp [putRowK, putRow, mapBlock, Sort.ahead, Array.getElem?_modify, this]

theorem strCells_enc (S : List ByteArray) : strCells S = (S.map (·.data.toList)).map encStr := by
  unfold strCells encStr
  rw [List.map_map]
  apply List.map_congr_left
  intro s _
  rfl
def strOfL (l : List UInt8) : ByteArray := ⟨l.toArray⟩
theorem enc_strCells (L : List (List UInt8)) : L.map encStr = strCells (L.map strOfL) := by
  unfold strCells encStr strOfL
  rw [List.map_map]
  rfl
/-- Strings in the order of their bytes. -/
def sortTexts (S : List ByteArray) : List ByteArray := ((S.map (·.data.toList)).mergeSort fun x y => decide (x ≤ y)).map strOfL
theorem sortTexts_len (S : List ByteArray) : (sortTexts S).length = S.length := by simp [sortTexts]

set_option maxHeartbeats 1000000 in
theorem sort_strs (w : World) (base : Nat) (v : Value) (S : List ByteArray) (hS : w.ownsRow base 9 1 v S.length (strCells S)) (hn : S.length < 4611686018427387904) :
    Calls Tryd.prog 29 #[v] w fun e w' => e = .returned (.tuple #[]) ∧ w'.ownsRow base 9 1 v (sortTexts S).length (strCells (sortTexts S)) ∧ w.grownBy w' v.ownBlock := by
  rcases hS.2 with ⟨rfl, h0⟩ | ⟨g, cap, cur, rfl, hb, hh, hc, hm, hs, ht⟩
  · have : S = [] := List.eq_nil_of_length_eq_zero h0
    subst this
    refine (Tryd.slices_Sort_string_none none 0 w).mono ?_
    rintro e w' ⟨he, rfl⟩
    have e0 : sortTexts [] = [] := by simp [sortTexts]
    rw [e0]
    exact ⟨he, hS, ⟨rfl, rfl, rfl, Nat.le_refl _, fun _ _ _ => rfl⟩⟩
  · have hg : g < w.heap.size := by
      rcases Nat.lt_or_ge g w.heap.size with h1 | h1
      · exact h1
      · rw [Array.getElem?_eq_none h1] at hh; cases hh
    have hl : (S.map (·.data.toList)).length = S.length := by simp
    have hH : Holds encStr w g 0 (S.map (·.data.toList)).toArray := holds_of_block hh (by rw [hl]; simpa [strCells_enc] using ht)
    have hcon := Tryd.slices_Sort_string g 0 cap (S.map (·.data.toList)) w hH hg (by rw [hl]; exact hn)
    rw [hl] at hcon
    refine hcon.mono ?_
    rintro e w' ⟨he, n, os, rfl⟩
    refine ⟨he, ?_, grownBy_sorted _⟩
    have hm' := ownsRow_sorted (base := base) (n := n) (os := os) (ss := S.map (·.data.toList)) (ts := (S.map (·.data.toList)).mergeSort fun x y => decide (x ≤ y)) (by simp) hb hh (by rw [hl]; exact hc) hm hs
    rw [hl, enc_strCells] at hm'
    rw [sortTexts_len]
    exact hm'
end Go.Proofs.YtbnplhbepkggpaaDoor.nm
