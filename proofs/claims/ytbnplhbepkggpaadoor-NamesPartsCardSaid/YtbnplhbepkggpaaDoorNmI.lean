/- The contract of the document's sorted. -/
import Derived.Test.YtbnplhbepkggpaaDoorNmH
import Derived.WalkLawsBesides
namespace Go.Proofs.YtbnplhbepkggpaaDoor.nm
open Go Go.RowKit Go.WideShapes Go.ChangeShapes Go.Maps

def tailT (d : Bool) (t : ByteArray) (l : List ByteArray) : List ByteArray := match d with
  | true => l
  | false => insT t l
theorem insT_lt {t s : ByteArray} {o r u : List ByteArray} (h : o ++ insT t (s :: r) = u) (hb : t.data.toList < s.data.toList) : (o ++ [t] ++ [s]) ++ r = u := by
  rw [← h, insT, if_pos hb]; simp
theorem insT_ge {t s : ByteArray} {o r u : List ByteArray} (h : o ++ insT t (s :: r) = u) (hb : ¬ t.data.toList < s.data.toList) : (o ++ [s]) ++ insT t r = u := by
  rw [← h, insT, if_neg hb]; simp
theorem insT_go {s : ByteArray} {o r u : List ByteArray} (h : o ++ (s :: r) = u) : (o ++ [s]) ++ r = u := by rw [← h]; simp
theorem strCells_snoc (A : List ByteArray) (s : ByteArray) : strCells (A ++ [s]) = strCells A ++ [.string s] := by simp [strCells]
theorem gtr_of {a b : ByteArray} (h : b.data.toList < a.data.toList) : Op.bytesLess a.toList b.toList = false ∧ (a.toList == b.toList) = false := by
  rw [bytesLess_eq, Lib.toList_data, Lib.toList_data]
  have h1 : ¬ a.data.toList < b.data.toList := fun h' => List.lt_irrefl _ (List.lt_trans h h')
  have h2 : (a.data.toList == b.data.toList) = false := by
    rw [beq_eq_false_iff_ne]; intro e; rw [e] at h; exact List.lt_irrefl _ h
  exact ⟨by simp [h1], h2⟩
theorem gtr_not {a b : ByteArray} (h : ¬ b.data.toList < a.data.toList) : Op.bytesLess a.toList b.toList = true ∨ (Op.bytesLess a.toList b.toList = false ∧ (a.toList == b.toList) = true) := by
  rw [bytesLess_eq, Lib.toList_data, Lib.toList_data]
  by_cases h1 : a.data.toList < b.data.toList
  · simp [h1]
  · have : a.data.toList = b.data.toList := List.le_antisymm (List.not_lt.1 h) (List.not_lt.1 h1)
    rw [this]
    simp

set_option maxRecDepth 100000 in
set_option maxHeartbeats 4000000 in
theorem sorted_any (w : World) (v : Value) (l : List ByteArray) (t : ByteArray) (hv : StrRow w v l) (hby : (l.length + 1) * 16 ≤ 140737488355328) :
    Calls Tryd.prog 31 #[v, .string t] w fun e w' => ∃ v', e = .returned v' ∧
      w'.ownsRow w.heap.size 9 1 v' (insT t l).length (strCells (insT t l)) ∧ Below w.heap.size w w' := by
  obtain ⟨a, cap, rfl, hcap, hcap2, _, _, hrow⟩ := hv
  unfold maxLen at hcap2
  have hn : l.length ≤ 9223372036854775807 := by omega
  clear hcap hcap2
  have HR := Lib.hid hrow; clear hrow
  obtain ⟨i0, hi0, hz0, hz1, hz2⟩ := info_parts infoStr
  go_enter Tryd.func31, Tryd.ntmps31
  go_wp2
  go_loopg [5, 6, 7] l.length (fun g vo ld i wr => ∃ (k : Nat) (o : List ByteArray) (d : Bool) (wo : Value), k ≤ l.length ∧ g = l.length - k ∧ i = .int .i64 k ∧ ld = .bool d ∧ wo = vo ∧ Hid (o ++ tailT d t (l.drop k) = insT t l) ∧ (d = false → o.length ≤ k) ∧ o.length ≤ k + 1 ∧ wr.ownsRow w.heap.size 9 1 wo o.length (strCells o) ∧ Below w.heap.size w wr)
  case atStart => exact ⟨0, [], false, _, by omega, rfl, rfl, rfl, rfl, Lib.hid rfl, fun _ => by simp, by simp, ⟨rfl, Or.inl ⟨rfl, rfl⟩⟩, Below.refl _ _⟩
  case round =>
    obtain ⟨k, o, d, vo, hk, rfl, rfl, rfl, rfl, HIN, hol, hol1, hA, hb⟩ := hrel
    by_cases hlt : k < l.length
    · obtain ⟨bb, off, rfl, hblt, hcell⟩ := HR.out (by rintro rfl; simp at hlt)
      obtain ⟨s, hs⟩ : ∃ s, l[k] = s := ⟨_, rfl⟩
      have c0 : wr.cell? ⟨bb, off + k, none⟩ = some (.string s) := by rw [hb.cell (p := ⟨bb, off + k, none⟩) hblt, hcell k hlt, hs]
      have HD : Hid (l.drop k = s :: l.drop (k + 1)) := Lib.hid (by rw [← hs]; exact List.drop_eq_getElem_cons hlt)
      clear hs hcell
      have hne : vo.ownBlock ≠ some bb := fun e => by have := own_ge hA _ e; omega
      have hblt2 : bb < wr.heap.size := by have := hb.size; omega
      have hsz := hb.size
      cases d with
      | true =>
        go_wp2_with (at_builtin; refine wpList_append_own_at _ rfl _ _ 29 rfl w.heap.size 9 i0 (.string ByteArray.empty) 1 16 Tryd.underlying29 hi0 hz0 hz1 hz2 rfl (by decide) _ o.length (strCells o) rfl (hA.alloc _) ⟨wr.heap.size, 0, none⟩ 1 1 [.string s] rfl rfl (cell_one_new _ _ _) (by simp [Value.oneCell']) (by unfold maxLen; (try simp only [List.length_append, List.length_singleton]); omega) (by (try simp only [List.length_append, List.length_singleton]); omega) (by simp; omega) ?_; intro v' w3 hA3 hgrow _ _)
        go_roundg (l.length - (k + 1))
        case measure => omega
        case rel =>
          refine ⟨k + 1, o ++ [s], true, _, by omega, rfl, by go_num, rfl, rfl, Lib.hid ?_, by simp, by simp; omega, ?_, (hb.alloc hsz _).grown hgrow (by simp; omega) (own_ge hA)⟩
          · have := HIN.out
            rw [HD.out] at this
            exact insT_go this
          · rw [strCells_snoc, List.length_append, List.length_singleton]; exact hA3
      | false =>
        have hok := hol rfl
        clear hol hol1
        by_cases h1 : t.data.toList < s.data.toList
        · obtain ⟨hq1, hq2⟩ := gtr_of h1
          have H1 := Lib.hid h1; clear h1
          go_upto_region 9 with (at_builtin; refine wpList_append_own_at _ rfl _ _ 29 rfl w.heap.size 9 i0 (.string ByteArray.empty) 1 16 Tryd.underlying29 hi0 hz0 hz1 hz2 rfl (by decide) _ o.length (strCells o) rfl (hA.alloc _) ⟨wr.heap.size, 0, none⟩ 1 1 [.string t] rfl rfl (cell_one_new _ _ _) (by simp [Value.oneCell']) (by unfold maxLen; (try simp only [List.length_append, List.length_singleton]); omega) (by (try simp only [List.length_append, List.length_singleton]); omega) (by simp; omega) ?_; intro v' w3 hA3 hgrow _ _)
          have hA3' : w3.ownsRow w.heap.size 9 1 v' (o ++ [t]).length (strCells (o ++ [t])) := by
            rw [strCells_snoc, List.length_append, List.length_singleton]; exact hA3
          have d0 : w3.cell? ⟨bb, off + k, none⟩ = some (.string s) := (hgrow.cell_far ⟨bb, off + k, none⟩ (by simp; omega) (Ne.symm hne)).trans ((World.cell?_alloc_lt _ _ ⟨bb, off + k, none⟩ hblt2).trans c0)
          have hb3 := (hb.alloc hsz (.cells #[.string t] 9)).grown hgrow (by simp; omega) (own_ge hA)
          have hsz3 := hb3.size
          go_wp2_with (at_builtin; refine wpList_append_own_at _ rfl _ _ 29 rfl w.heap.size 9 i0 (.string ByteArray.empty) 1 16 Tryd.underlying29 hi0 hz0 hz1 hz2 rfl (by decide) _ (o ++ [t]).length (strCells (o ++ [t])) rfl (hA3'.alloc _) ⟨w3.heap.size, 0, none⟩ 1 1 [.string s] rfl rfl (cell_one_new _ _ _) (by simp [Value.oneCell']) (by unfold maxLen; (try simp only [List.length_append, List.length_singleton]); omega) (by (try simp only [List.length_append, List.length_singleton]); omega) (by simp; omega) ?_; intro v4 w4 hA4 hgrow4 _ _)
          go_roundg (l.length - (k + 1))
          case measure => omega
          case rel =>
            refine ⟨k + 1, o ++ [t] ++ [s], true, _, by omega, rfl, by go_num, rfl, rfl, Lib.hid ?_, by simp, by simp; omega, ?_, (hb3.alloc hb3.size _).grown hgrow4 (by simp; omega) (own_ge hA3')⟩
            · have := HIN.out
              rw [HD.out] at this
              exact insT_lt this H1.out
            · rw [strCells_snoc, List.length_append, List.length_singleton]; exact hA4
        · have hq := gtr_not h1
          have H1 := Lib.hid h1; clear h1
          rcases hq with hq1 | ⟨hq1, hq2⟩
          all_goals
            go_wp2_with (at_builtin; refine wpList_append_own_at _ rfl _ _ 29 rfl w.heap.size 9 i0 (.string ByteArray.empty) 1 16 Tryd.underlying29 hi0 hz0 hz1 hz2 rfl (by decide) _ o.length (strCells o) rfl (hA.alloc _) ⟨wr.heap.size, 0, none⟩ 1 1 [.string s] rfl rfl (cell_one_new _ _ _) (by simp [Value.oneCell']) (by unfold maxLen; (try simp only [List.length_append, List.length_singleton]); omega) (by (try simp only [List.length_append, List.length_singleton]); omega) (by simp; omega) ?_; intro v' w3 hA3 hgrow _ _)
            go_roundg (l.length - (k + 1))
            case measure => omega
            case rel =>
              refine ⟨k + 1, o ++ [s], false, _, by omega, rfl, by go_num, rfl, rfl, Lib.hid ?_, by simp; omega, by simp; omega, ?_, (hb.alloc hsz _).grown hgrow (by simp; omega) (own_ge hA)⟩
              · have := HIN.out
                rw [HD.out] at this
                exact insT_ge this H1.out
              · rw [strCells_snoc, List.length_append, List.length_singleton]; exact hA3
    · have hdrop : l.drop k = [] := List.drop_eq_nil_of_le (by omega)
      have hsz := hb.size
      have HIN' := HIN.out
      rw [hdrop] at HIN'
      clear HIN
      cases d with
      | true =>
        obtain rfl : o = insT t l := by simpa [tailT] using HIN'
        clear HIN'
        go_wp2_with fail
        go_ret
        exact ⟨_, rfl, hA, hb⟩
      | false =>
        have hok := hol rfl
        have H' := Lib.hid HIN'; clear HIN'
        go_wp2_with (at_builtin; refine wpList_append_own_at _ rfl _ _ 29 rfl w.heap.size 9 i0 (.string ByteArray.empty) 1 16 Tryd.underlying29 hi0 hz0 hz1 hz2 rfl (by decide) _ o.length (strCells o) rfl (hA.alloc _) ⟨wr.heap.size, 0, none⟩ 1 1 [.string t] rfl rfl (cell_one_new _ _ _) (by simp [Value.oneCell']) (by unfold maxLen; (try simp only [List.length_append, List.length_singleton]); omega) (by (try simp only [List.length_append, List.length_singleton]); omega) (by simp; omega) ?_; intro v' w3 hA3 hgrow _ _)
        go_ret
        refine ⟨_, rfl, ?_, (hb.alloc hsz (.cells #[.string t] 9)).grown hgrow (by simp; omega) (own_ge hA)⟩
        rw [← H'.out, show tailT false t [] = [t] from rfl, strCells_snoc, List.length_append, List.length_singleton]; exact hA3
end Go.Proofs.YtbnplhbepkggpaaDoor.nm
