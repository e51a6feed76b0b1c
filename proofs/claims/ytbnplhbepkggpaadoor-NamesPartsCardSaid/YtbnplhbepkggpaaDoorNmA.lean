/- The contracts of segments, same and Whole. -/
import Derived.Test.YtbnplhbepkggpaaDoorNm9
import Derived.Deep.RegionHeld3
import Derived.Deep.AppendLies
import Derived.Deep.DrawnRows
namespace Go.Proofs.YtbnplhbepkggpaaDoor.nm
open Go Go.RowKit Go.WideShapes Go.ChangeShapes

def segCells (l : List Seg) : List Value := l.flatMap Seg.cells
theorem segCells_len (l : List Seg) : (segCells l).length = l.length * 4 := by
  unfold segCells
  induction l with
  | nil => rfl
  | cons s r ih => simp [Seg.cells, ih]; omega
theorem infoSeg : (Tryd.prog.info? 48).map (fun i => (i.zero, i.size, i.bytes)) = some (some (.agg #[.int .i64 0, .bool false, .bool false, .bool false]), 4, 16) := by kernel_rfl

set_option maxRecDepth 100000 in
set_option maxHeartbeats 1000000 in
theorem segments_any (w : World) (v : Value) (l : List Seg) (hv : SegRow w v l) (hby : l.length * 16 ≤ 140737488355328) :
    Calls Tryd.prog 14 #[v] w fun e w' => ∃ v', e = .returned v' ∧ w'.ownsRow w.heap.size 48 4 v' l.length (segCells l) ∧ Below w.heap.size w w' := by
  obtain ⟨a, cap, rfl, hcap, hcap2, hrow⟩ := hv
  unfold maxLen at hcap2
  have hn : l.length ≤ 9223372036854775807 := by omega
  clear hcap hcap2
  have HR := Lib.hid hrow; clear hrow
  go_enter Tryd.func14, Tryd.ntmps14
  go_wp2
  go_loopw [3, 4] (fun v i wr => ∃ (k : Nat) (ov : Value), k ≤ l.length ∧ i = .int .i64 k ∧ ov = v ∧ wr.ownsRow w.heap.size 48 4 ov k (segCells (l.take k)) ∧ Below w.heap.size w wr) (fun _ i _ => l.length - (intOf i).toNat)
  case atStart => exact ⟨0, _, by omega, rfl, rfl, ⟨rfl, Or.inl ⟨rfl, rfl⟩⟩, Below.refl _ _⟩
  case round =>
    obtain ⟨k, v, hk, rfl, rfl, hown, hb⟩ := hrel
    by_cases hlt : k < l.length
    · obtain ⟨b, off, rfl, hblt, hcell⟩ := HR.out (by rintro rfl; simp at hlt)
      obtain ⟨s, hs⟩ : ∃ s, l[k] = s := ⟨_, rfl⟩
      obtain ⟨c0, c1, c2, c3⟩ := hcell k hlt
      rw [hs] at c0 c1 c2 c3
      have HS := Lib.hid hs; clear hs hcell
      obtain ⟨sb, s0, s1, s2⟩ := s
      rw [← hb.cell (p := ⟨b, _, none⟩) hblt] at c0 c1 c2 c3
      simp only at c0 c1 c2 c3
      obtain ⟨i0, hi0, hz0, hz1, hz2⟩ := info_parts infoSeg
      have hne : v.ownBlock ≠ some b := by
        rcases hown.2 with ⟨rfl, _⟩ | ⟨g, cp, cur, rfl, hg, _⟩
        · simp [Value.ownBlock]
        · simp [Value.ownBlock]; omega
      have hk0 : (0 : Int) ≤ (k : Int) := by omega
      have hk1 : (k : Int) < (l.length : Int) := by omega
      have hblt2 : b < wr.heap.size := by have := hb.size; omega
      have h63 : k + 1 ≤ maxLen := by unfold maxLen; omega
      have hby' : (k + 1) * 16 ≤ 140737488355328 := by omega
      have hsz := hb.size
      have HB := Lib.hid hb; clear hb
      go_wp2_with fail
      go_region_held3 (fun w' => w'.cell? ⟨b, off + k * 4, none⟩ = some (.int .i64 sb) ∧ w'.cell? ⟨b, off + k * 4 + 1, none⟩ = some (.bool s0) ∧ w'.cell? ⟨b, off + k * 4 + 2, none⟩ = some (.bool s1) ∧ w'.cell? ⟨b, off + k * 4 + 3, none⟩ = some (.bool s2))
        (first
          | go_keep
          | (go_split_ands
             refine ⟨?_, ?_, ?_, ?_⟩
             · (rw [hgrow.cell_far _ (by simp; omega) (Ne.symm hne)]; assumption)
             · (rw [hgrow.cell_far _ (by simp; omega) (Ne.symm hne)]; assumption)
             · (rw [hgrow.cell_far _ (by simp; omega) (Ne.symm hne)]; assumption)
             · (rw [hgrow.cell_far _ (by simp; omega) (Ne.symm hne)]; assumption)))
        ((refine step_append_lies _ (by rfl) _ _ _ (by rfl) w.heap.size 48 i0 _ 4 16 Tryd.underlying37 hi0 hz0 hz1 hz2 rfl (by omega) v k (segCells (l.take k)) (by rfl) ((hown.alloc _).drew)
            ⟨wr.heap.size, 0, none⟩ 1 1 [.int .i64 sb, .bool s0, .bool s1, .bool s2] (by rfl) (by rfl) (World.news_of_block (cs := #[.int .i64 sb, .bool s0, .bool s1, .bool s2]) (t := 48) (fr := (0, 0)) (heap_alloc_new wr _)) (by simp [Value.oneCell'])
            (by omega) h63 hby' (by simp; omega) (wr.heap.size + 1) (by simp) ?_; intro gg cap w1 hown1 hgrow hat hlt2))
      go_wp2
      go_roundw
      case rel =>
        refine ⟨k + 1, _, by omega, by go_num, rfl, ?_, ?_⟩
        · have : segCells (l.take (k + 1)) = segCells (l.take k) ++ [.int .i64 sb, .bool s0, .bool s1, .bool s2] := by
            rw [List.take_succ_eq_append_getElem hlt, HS.out]; simp [segCells, Seg.cells]
          rw [this]; exact hown1
        · refine ((HB.out.alloc hsz _).drew).grown hgrow (by simp; omega) fun j ej => ?_
          rcases hown.2 with ⟨rfl, _⟩ | ⟨g, cp, cur, rfl, hg, _⟩
          · simp [Value.ownBlock] at ej
          · simp [Value.ownBlock] at ej; omega
      case measure => simp [intOf]; omega
    · go_wp2
      go_ret
      have e : l.take k = l := List.take_of_length_le (by omega)
      have ek : k = l.length := by omega
      rw [e, ek] at hown
      exact ⟨_, rfl, hown, hb⟩

theorem segCells_get : ∀ (l : List Seg) (i : Nat) (hi : i < l.length) (j : Nat), j < 4 → (segCells l)[i * 4 + j]? = (Seg.cells l[i])[j]?
  | [], i, hi, _, _ => by simp at hi
  | s :: r, 0, _, j, hj => by
    unfold segCells
    rw [List.flatMap_cons, List.getElem?_append_left (by simp [Seg.cells]; omega)]
    simp
  | s :: r, i + 1, hi, j, hj => by
    have := segCells_get r i (by simpa using hi) j hj
    unfold segCells at this ⊢
    rw [List.flatMap_cons, List.getElem?_append_right (by simp [Seg.cells]; omega), show (i + 1) * 4 + j - (Seg.cells s).length = i * 4 + j by simp [Seg.cells]; omega, this]
    rfl

/-- A row of the call's own that holds these segments reads as they do. -/
theorem segRow_own {w : World} {base : Nat} {v : Value} {l : List Seg} (h : w.ownsRow base 48 4 v l.length (segCells l)) : SegRow w v l := by
  obtain ⟨_, h⟩ := h
  rcases h with ⟨rfl, h0⟩ | ⟨g, cap, cur, rfl, hg, hh, hn, hcap, hsz, htk⟩
  · have : l = [] := List.eq_nil_of_length_eq_zero h0
    subst this
    exact ⟨none, 0, rfl, Nat.le_refl _, by simp, by simp⟩
  · refine ⟨_, cap, rfl, hn, hcap, fun hne => ⟨g, 0, rfl, ?_, fun i hi => ?_⟩⟩
    · rcases Nat.lt_or_ge g w.heap.size with h1 | h1
      · exact h1
      · rw [Array.getElem?_eq_none h1] at hh; cases hh
    · have key : ∀ j, j < 4 → w.cell? ⟨g, 0 + i * 4 + j, none⟩ = (Seg.cells l[i])[j]? := by
        intro j hj
        have e1 : w.cell? ⟨g, 0 + i * 4 + j, none⟩ = cur[0 + i * 4 + j]? := by simp [World.cell?, hh]
        have e2 : cur[0 + i * 4 + j]? = (segCells l)[i * 4 + j]? := by
          rw [← htk, List.getElem?_take, if_pos (by omega), Nat.zero_add, Array.getElem?_toList]
        rw [e1, e2]
        exact segCells_get l i hi j hj
      have k0 := key 0 (by omega); have k1 := key 1 (by omega); have k2 := key 2 (by omega); have k3 := key 3 (by omega)
      simp only [Nat.add_zero] at k0
      exact ⟨k0, k1, k2, k3⟩

theorem segRow_below {w w' : World} {v : Value} {l : List Seg} (h : SegRow w v l) (hb : Below w.heap.size w w') : SegRow w' v l := by
  obtain ⟨a, cap, rfl, hc, hm, hr⟩ := h
  refine ⟨a, cap, rfl, hc, hm, fun hne => ?_⟩
  obtain ⟨b, off, rfl, hlt, hcell⟩ := hr hne
  refine ⟨b, off, rfl, Nat.lt_of_lt_of_le hlt hb.size, fun i hi => ?_⟩
  obtain ⟨c0, c1, c2, c3⟩ := hcell i hi
  rw [hb.cell (p := ⟨b, _, none⟩) hlt, hb.cell (p := ⟨b, _, none⟩) hlt, hb.cell (p := ⟨b, _, none⟩) hlt, hb.cell (p := ⟨b, _, none⟩) hlt]
  exact ⟨c0, c1, c2, c3⟩

set_option maxRecDepth 100000 in
theorem Whole_any (w : World) (sb : Int) (s0 s1 s2 : Bool) :
    Calls Tryd.prog 26 #[.agg #[.int .i64 sb, .bool s0, .bool s1, .bool s2]] w fun e w' => e = .returned (.bool (s0 && s1 && s2)) ∧ w' = w.alloc (.cells #[.int .i64 sb, .bool s0, .bool s1, .bool s2] 48) := by
  have heq : ∀ (W : World), (binOp .eql 46 (.agg #[.bool s0, .bool s1, .bool s2]) (.agg #[.bool true, .bool true, .bool true])).run Tryd.prog W = .ok (.bool (s0 && s1 && s2)) W := by
    intro W; cases s0 <;> cases s1 <;> cases s2 <;> kernel_rfl
  go_enter Tryd.func26, Tryd.ntmps26
  go_wp2
  go_ret
  exact ⟨rfl, rfl⟩
end Go.Proofs.YtbnplhbepkggpaaDoor.nm
