/- The contract of the document's with. -/
import Derived.Test.YtbnplhbepkggpaaDoorNmG
namespace Go.Proofs.YtbnplhbepkggpaaDoor.nm
open Go Go.RowKit Go.WideShapes Go.ChangeShapes Go.Maps

theorem infoRS : (Tryd.prog.info? 60).map (fun i => (i.zero, i.size, i.bytes)) = some (some (.agg #[.int .i64 0, .bool false, .bool false, .bool false]), 4, 16) := by kernel_rfl

theorem insR_lt {b : Int} {s : Seg} {o r t : List Seg} (h : o ++ insR b (s :: r) = t) (hb : b < s.base) : (o ++ [newSeg b] ++ [s]) ++ r = t := by
  rw [← h, insR, if_pos hb]; simp
theorem insR_eq {b : Int} {s : Seg} {o r t : List Seg} (h : o ++ insR b (s :: r) = t) (hb : s.base = b) : (o ++ [s]) ++ r = t := by
  rw [← h, insR, if_neg (by omega), if_pos hb]; simp
theorem insR_gt {b : Int} {s : Seg} {o r t : List Seg} (h : o ++ insR b (s :: r) = t) (h1 : ¬ b < s.base) (h2 : ¬ s.base = b) : (o ++ [s]) ++ insR b r = t := by
  rw [← h, insR, if_neg h1, if_neg h2]; simp
def tailR (d : Bool) (b : Int) (l : List Seg) : List Seg := match d with
  | true => l
  | false => insR b l
theorem insR_go {s : Seg} {o r t : List Seg} (h : o ++ (s :: r) = t) : (o ++ [s]) ++ r = t := by rw [← h]; simp
/-- Segments of which the first k are marked. -/
def markTo (b kd : Int) (l : List Seg) (k : Nat) : List Seg := (l.take k).map (markAt b kd) ++ l.drop k
theorem markTo_len (b kd : Int) (l : List Seg) (k : Nat) : (markTo b kd l k).length = l.length := by simp [markTo]; omega
theorem markTo_get (b kd : Int) (l : List Seg) (k : Nat) (h : k < l.length) (h' : k < (markTo b kd l k).length) : (markTo b kd l k)[k] = l[k] := by
  simp only [markTo]
  rw [List.getElem_append_right (by simp; omega)]
  simp [Nat.min_eq_left (Nat.le_of_lt h)]
theorem modify_mid (f : Seg → Seg) : ∀ (A : List Seg) (x : Seg) (B : List Seg), (A ++ x :: B).modify A.length f = A ++ f x :: B
  | [], x, B => rfl
  | a :: A, x, B => by simp [modify_mid f A x B]
theorem markTo_hit (b kd : Int) (l : List Seg) (k : Nat) (h : k < l.length) (hb : l[k].base = b) : (markTo b kd l k).modify k (·.mark kd) = markTo b kd l (k + 1) := by
  have e1 : ((l.take k).map (markAt b kd)).length = k := by simp; omega
  have := modify_mid (·.mark kd) ((l.take k).map (markAt b kd)) l[k] (l.drop (k + 1))
  rw [e1] at this
  unfold markTo
  rw [List.drop_eq_getElem_cons h, this, List.take_succ_eq_append_getElem h, List.map_append, List.append_assoc]
  show _ = _ ++ ([markAt b kd l[k]] ++ _)
  rw [show markAt b kd l[k] = l[k].mark kd from if_pos hb]; rfl
theorem markTo_miss (b kd : Int) (l : List Seg) (k : Nat) (h : k < l.length) (hb : ¬ l[k].base = b) : markTo b kd l k = markTo b kd l (k + 1) := by
  unfold markTo
  rw [List.take_succ_eq_append_getElem h, List.drop_eq_getElem_cons h, List.map_append, List.append_assoc]
  show _ = _ ++ ([markAt b kd l[k]] ++ _)
  rw [show markAt b kd l[k] = l[k] from if_neg hb]; rfl
theorem markTo_all (b kd : Int) (l : List Seg) (k : Nat) (h : l.length ≤ k) : markTo b kd l k = l.map (markAt b kd) := by
  unfold markTo; rw [List.take_of_length_le h, List.drop_eq_nil_of_le h, List.append_nil]
theorem segRow_cells {w : World} {v : Value} {l : List Seg} (h : SegRow w v l) : l ≠ [] → ∃ b off cap, v = .slice (some ⟨b, off, none⟩) l.length cap ∧ b < w.heap.size := by
  obtain ⟨a, cap, rfl, _, _, hr⟩ := h
  intro hne
  obtain ⟨b, off, rfl, hlt, _⟩ := hr hne
  exact ⟨b, off, cap, rfl, hlt⟩

set_option maxRecDepth 100000 in
set_option maxHeartbeats 4000000 in
theorem with_any (w : World) (v : Value) (l : List Seg) (b : Int) (kd : Nat) (hv : SegRow w v l) (hkd : kd < 3) (hby : (l.length + 1) * 16 ≤ 140737488355328) :
    Calls Tryd.prog 30 #[v, .int .i64 b, .int .i64 kd] w fun e w' => ∃ v', e = .returned v' ∧
      w'.ownsRow w.heap.size 60 4 v' (withR b kd l).length (segCells (withR b kd l)) ∧ Below w.heap.size w w' := by
  obtain ⟨a, cap, rfl, hcap, hcap2, hrow⟩ := hv
  unfold maxLen at hcap2
  have hn : l.length ≤ 9223372036854775807 := by omega
  clear hcap hcap2
  have HR := Lib.hid hrow; clear hrow
  obtain ⟨j0, hj0, hy0, hy1, hy2⟩ := info_parts infoRS
  have hil := insR_len b l
  go_enter Tryd.func30, Tryd.ntmps30
  go_wp2
  go_loopg [7, 8, 9] l.length (fun g vo ld i wr => ∃ (k : Nat) (o : List Seg) (d : Bool) (wo : Value), k ≤ l.length ∧ g = l.length - k ∧ i = .int .i64 k ∧ ld = .bool d ∧ wo = vo ∧ Hid (o ++ tailR d b (l.drop k) = insR b l) ∧ (d = false → o.length ≤ k) ∧ o.length ≤ k + 1 ∧ wr.ownsRow w.heap.size 60 4 wo o.length (segCells o) ∧ Below w.heap.size w wr)
  case atStart => exact ⟨0, [], false, _, by omega, rfl, rfl, rfl, rfl, Lib.hid rfl, fun _ => by simp, by simp, ⟨rfl, Or.inl ⟨rfl, rfl⟩⟩, Below.refl _ _⟩
  case round =>
    obtain ⟨k, o, d, vo, hk, rfl, rfl, rfl, rfl, HIN, hol, hol1, hA, hb⟩ := hrel
    by_cases hlt : k < l.length
    · obtain ⟨bb, off, rfl, hblt, hcell⟩ := HR.out (by rintro rfl; simp at hlt)
      obtain ⟨s, hs⟩ : ∃ s, l[k] = s := ⟨_, rfl⟩
      obtain ⟨c0, c1, c2, c3⟩ := hcell k hlt
      rw [hs] at c0 c1 c2 c3
      have HD : Hid (l.drop k = s :: l.drop (k + 1)) := Lib.hid (by rw [← hs]; exact List.drop_eq_getElem_cons hlt)
      clear hs hcell
      obtain ⟨sb, s0, s1, s2⟩ := s
      rw [← hb.cell (p := ⟨bb, _, none⟩) hblt] at c0 c1 c2 c3
      simp only at c0 c1 c2 c3
      have hne : vo.ownBlock ≠ some bb := fun e => by have := own_ge hA _ e; omega
      have hblt2 : bb < wr.heap.size := by have := hb.size; omega
      have hsz := hb.size
      cases d with
      | true =>
        go_wp2_with (at_builtin; refine wpList_append_lies _ rfl _ _ 36 rfl w.heap.size 60 j0 _ 4 16 Tryd.underlying36 hj0 hy0 hy1 hy2 rfl (by decide) _ o.length (segCells o) rfl (hA.alloc _) ⟨wr.heap.size, 0, none⟩ 1 1 [.int .i64 sb, .bool s0, .bool s1, .bool s2] rfl rfl (World.news_of_block (cs := #[.int .i64 sb, .bool s0, .bool s1, .bool s2]) (t := 60) (fr := (0, 0)) (heap_alloc_new wr _)) (by simp [Value.oneCell']) (by omega) (by unfold maxLen; omega) (by omega) (by simp; omega) (wr.heap.size + 1) (by simp) ?_; intro g cp w3 hA3 hgrow hat hltg)
        go_roundg (l.length - (k + 1))
        case measure => omega
        case rel =>
          refine ⟨k + 1, o ++ [⟨sb, s0, s1, s2⟩], true, _, by omega, rfl, by go_num, rfl, rfl, Lib.hid ?_, by simp, by simp; omega, ?_, (hb.alloc hsz _).grown hgrow (by simp; omega) (own_ge hA)⟩
          · have := HIN.out
            rw [HD.out] at this
            exact insR_go this
          · rw [segCells_snoc, List.length_append, List.length_singleton]; exact hA3
      | false =>
        have hok := hol rfl
        clear hol hol1
        by_cases h1 : b < sb
        · go_upto_region 9 with (at_builtin; refine wpList_append_lies _ rfl _ _ 36 rfl w.heap.size 60 j0 _ 4 16 Tryd.underlying36 hj0 hy0 hy1 hy2 rfl (by decide) _ o.length (segCells o) rfl (hA.alloc _) ⟨wr.heap.size, 0, none⟩ 1 1 [.int .i64 b, .bool false, .bool false, .bool false] rfl rfl (World.news_of_block (cs := #[.int .i64 b, .bool false, .bool false, .bool false]) (t := 60) (fr := (0, 0)) (heap_alloc_new wr _)) (by simp [Value.oneCell']) (by (try simp only [List.length_append, List.length_singleton]); omega) (by unfold maxLen; (try simp only [List.length_append, List.length_singleton]); omega) (by (try simp only [List.length_append, List.length_singleton]); omega) (by simp; omega) (wr.heap.size + 1) (by simp) ?_; intro g cp w3 hA3 hgrow hat hltg)
          have hA3' : w3.ownsRow w.heap.size 60 4 (.slice (some ⟨g, 0, none⟩) (o.length + 1) cp) (o ++ [newSeg b]).length (segCells (o ++ [newSeg b])) := by
            rw [segCells_snoc, List.length_append, List.length_singleton]; exact hA3
          have far : ∀ j u, wr.cell? ⟨bb, j, none⟩ = some u → w3.cell? ⟨bb, j, none⟩ = some u := (fun j u hu => (hgrow.cell_far ⟨bb, j, none⟩ (by simp; omega) (Ne.symm hne)).trans ((World.cell?_alloc_lt _ _ ⟨bb, j, none⟩ hblt2).trans hu))
          have d0 := far _ _ c0
          have d1 := far _ _ c1
          have d2 := far _ _ c2
          have d3 := far _ _ c3
          have hb3 := (hb.alloc hsz (.cells #[.int .i64 b, .bool false, .bool false, .bool false] 60)).grown hgrow (by simp; omega) (own_ge hA)
          have hsz3 := hb3.size
          go_wp2_with (at_builtin; (refine wpList_append_lies _ rfl _ _ 36 rfl w.heap.size 60 j0 _ 4 16 Tryd.underlying36 hj0 hy0 hy1 hy2 rfl (by decide) _ (o ++ [newSeg b]).length (segCells (o ++ [newSeg b])) rfl (hA3'.alloc _) ⟨w3.heap.size, 0, none⟩ 1 1 [.int .i64 sb, .bool s0, .bool s1, .bool s2] rfl rfl (World.news_of_block (cs := #[.int .i64 sb, .bool s0, .bool s1, .bool s2]) (t := 60) (fr := (0, 0)) (heap_alloc_new w3 _)) (by simp [Value.oneCell']) (by (try simp only [List.length_append, List.length_singleton]); omega) (by unfold maxLen; (try simp only [List.length_append, List.length_singleton]); omega) (by (try simp only [List.length_append, List.length_singleton]); omega) (by simp; omega) (w3.heap.size + 1) (by simp) ?_; intro g4 cp4 w4 hA4 hgrow4 hat4 hltg4))
          go_roundg (l.length - (k + 1))
          case measure => omega
          case rel =>
            refine ⟨k + 1, o ++ [newSeg b] ++ [⟨sb, s0, s1, s2⟩], true, _, by omega, rfl, by go_num, rfl, rfl, Lib.hid ?_, by simp, by simp; omega, ?_, (hb3.alloc hb3.size _).grown hgrow4 (by simp; have := hb3.size; omega) (own_ge hA3')⟩
            · have := HIN.out
              rw [HD.out] at this
              exact insR_lt this h1
            · rw [segCells_snoc, List.length_append, List.length_singleton]; rw [List.length_append, List.length_singleton] at hA4 ⊢; exact hA4
        · by_cases h2 : sb = b
          · subst h2
            go_wp2_with (at_builtin; refine wpList_append_lies _ rfl _ _ 36 rfl w.heap.size 60 j0 _ 4 16 Tryd.underlying36 hj0 hy0 hy1 hy2 rfl (by decide) _ o.length (segCells o) rfl (hA.alloc _) ⟨wr.heap.size, 0, none⟩ 1 1 [.int .i64 sb, .bool s0, .bool s1, .bool s2] rfl rfl (World.news_of_block (cs := #[.int .i64 sb, .bool s0, .bool s1, .bool s2]) (t := 60) (fr := (0, 0)) (heap_alloc_new wr _)) (by simp [Value.oneCell']) (by (try simp only [List.length_append, List.length_singleton]); omega) (by unfold maxLen; (try simp only [List.length_append, List.length_singleton]); omega) (by (try simp only [List.length_append, List.length_singleton]); omega) (by simp; omega) (wr.heap.size + 1) (by simp) ?_; intro g cp w3 hA3 hgrow hat hltg)
            go_roundg (l.length - (k + 1))
            case measure => omega
            case rel =>
              refine ⟨k + 1, o ++ [⟨sb, s0, s1, s2⟩], true, _, by omega, rfl, by go_num, rfl, rfl, Lib.hid ?_, by simp; try omega, by simp; omega, ?_, (hb.alloc hsz _).grown hgrow (by simp; omega) (own_ge hA)⟩
              · have := HIN.out
                rw [HD.out] at this
                exact insR_eq this rfl
              · rw [segCells_snoc, List.length_append, List.length_singleton]; exact hA3
  
          · have hq : (sb == b) = false := by simp [h2]
            go_wp2_with (at_builtin; refine wpList_append_lies _ rfl _ _ 36 rfl w.heap.size 60 j0 _ 4 16 Tryd.underlying36 hj0 hy0 hy1 hy2 rfl (by decide) _ o.length (segCells o) rfl (hA.alloc _) ⟨wr.heap.size, 0, none⟩ 1 1 [.int .i64 sb, .bool s0, .bool s1, .bool s2] rfl rfl (World.news_of_block (cs := #[.int .i64 sb, .bool s0, .bool s1, .bool s2]) (t := 60) (fr := (0, 0)) (heap_alloc_new wr _)) (by simp [Value.oneCell']) (by (try simp only [List.length_append, List.length_singleton]); omega) (by unfold maxLen; (try simp only [List.length_append, List.length_singleton]); omega) (by (try simp only [List.length_append, List.length_singleton]); omega) (by simp; omega) (wr.heap.size + 1) (by simp) ?_; intro g cp w3 hA3 hgrow hat hltg)
            go_roundg (l.length - (k + 1))
            case measure => omega
            case rel =>
              refine ⟨k + 1, o ++ [⟨sb, s0, s1, s2⟩], false, _, by omega, rfl, by go_num, rfl, rfl, Lib.hid ?_, by simp; try omega, by simp; omega, ?_, (hb.alloc hsz _).grown hgrow (by simp; omega) (own_ge hA)⟩
              · have := HIN.out
                rw [HD.out] at this
                exact insR_gt this (show ¬ b < sb by omega) h2
              · rw [segCells_snoc, List.length_append, List.length_singleton]; exact hA3
  
    · have hdrop : l.drop k = [] := List.drop_eq_nil_of_le (by omega)
      have hsz := hb.size
      have HIN' := HIN.out
      rw [hdrop] at HIN'
      clear HIN
      cases d
      case' true =>
        obtain rfl : o = insR b l := by simpa [tailR] using HIN'
        clear HIN'
        obtain ⟨g, cp, rfl, hg0, hg1⟩ := hA.form (by omega)
        go_upto_region 13 with fail
        have hAz := hA
        have hbz := hb
      case' false =>
        have hok := hol rfl
        go_upto_region 13 with (at_builtin; refine wpList_append_lies _ rfl _ _ 36 rfl w.heap.size 60 j0 _ 4 16 Tryd.underlying36 hj0 hy0 hy1 hy2 rfl (by decide) _ o.length (segCells o) rfl (hA.alloc _) ⟨wr.heap.size, 0, none⟩ 1 1 [.int .i64 b, .bool false, .bool false, .bool false] rfl rfl (World.news_of_block (cs := #[.int .i64 b, .bool false, .bool false, .bool false]) (t := 60) (fr := (0, 0)) (heap_alloc_new wr _)) (by simp [Value.oneCell']) (by (try simp only [List.length_append, List.length_singleton]); omega) (by unfold maxLen; (try simp only [List.length_append, List.length_singleton]); omega) (by (try simp only [List.length_append, List.length_singleton]); omega) (by simp; omega) (wr.heap.size + 1) (by simp) ?_; intro g cp w3 hA3 hgrow hat hltg)
        have hAz : w3.ownsRow w.heap.size 60 4 (.slice (some ⟨g, 0, none⟩) (insR b l).length cp) (insR b l).length (segCells (insR b l)) := by
          rw [← HIN', show tailR false b [] = [newSeg b] from rfl, segCells_snoc, List.length_append, List.length_singleton]; exact hA3
        have hL : o.length + 1 = (insR b l).length := by rw [← HIN']; simp [tailR, insR]
        rw [hL]
        obtain ⟨_, _, he, hg0, hg1⟩ := hAz.form (by omega)
        have hbz := (hb.alloc hsz (.cells #[.int .i64 b, .bool false, .bool false, .bool false] 60)).grown hgrow (by simp; omega) (own_ge hA)
        cases he
        clear HIN' hA3 hL
      all_goals
        go_wp2_with fail
        go_loopg [10] (insR b l).length (fun g2 i wr2 => ∃ (k : Nat), k ≤ (insR b l).length ∧ g2 = (insR b l).length - k ∧ i = .int .i64 k ∧ wr2.ownsRow w.heap.size 60 4 (.slice (some ⟨g, 0, none⟩) (insR b l).length cp) (insR b l).length (segCells (markTo b kd (insR b l) k)) ∧ Below w.heap.size w wr2)
        case atStart => exact ⟨0, by omega, rfl, rfl, by simpa [markTo] using hAz, hbz⟩
        case round =>
          obtain ⟨k2, hk2, rfl, rfl, hA2, hb2⟩ := hrel
          by_cases hlt2 : k2 < (insR b l).length
          · obtain ⟨s, hs⟩ : ∃ s, (insR b l)[k2] = s := ⟨_, rfl⟩
            have hml := markTo_len b kd (insR b l) k2
            have c0 : wr.cell? ⟨g, k2 * 4, none⟩ = some (.int .i64 s.base) := by
              rw [hA2.cellAt _ (by omega)]
              have := segCells_get (markTo b kd (insR b l) k2) k2 (by omega) 0 (by omega)
              rw [markTo_get _ _ _ _ hlt2, hs] at this
              exact this
            by_cases hb0 : s.base = b
            · subst hb0
              have hcell : ∃ u, wr.cell? ⟨g, k2 * 4 + 1 + kd, none⟩ = some u := by
                rw [hA2.cellAt _ (by omega)]
                exact ⟨_, List.getElem?_eq_getElem (by rw [segCells_len]; omega)⟩
              obtain ⟨u, hu⟩ := hcell
              have hfr := hA2.frozenAt (k2 * 4 + 1 + kd)
              have HS := Lib.hid hs; clear hs
              go_wp2_with fail
              go_roundg ((insR s.base l).length - (k2 + 1))
              case measure => omega
              case rel =>
                obtain ⟨hst, hgr⟩ := hA2.stored (k2 * 4 + 1 + kd) (.bool true)
                refine ⟨k2 + 1, by omega, rfl, by go_num, ?_, hb2.setCell hg0 _⟩
                rw [← markTo_hit _ _ _ _ hlt2 (by rw [HS.out]), ← segCells_mark _ k2 kd (by omega) hkd]
                exact hst
            · have hq : (s.base == b) = false := by simp [hb0]
              have HS := Lib.hid hs; clear hs
              go_wp2_with fail
              go_roundg ((insR b l).length - (k2 + 1))
              case measure => omega
              case rel =>
                refine ⟨k2 + 1, by omega, rfl, by go_num, ?_, hb2⟩
                rw [← markTo_miss _ _ _ _ hlt2 (by rw [HS.out]; exact hb0)]
                exact hA2
          · go_wp2_with fail
            go_ret
            refine ⟨_, rfl, ?_, hb2⟩
            rw [withR_len]
            rw [markTo_all _ _ _ _ (by omega)] at hA2
            exact hA2
end Go.Proofs.YtbnplhbepkggpaaDoor.nm
