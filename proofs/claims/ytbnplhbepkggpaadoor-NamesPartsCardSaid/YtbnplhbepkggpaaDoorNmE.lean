/- The contract of names.Group. -/
import Derived.Test.YtbnplhbepkggpaaDoorNmF
import Derived.Deep.AppendLies
import Derived.Deep.LoopGhost
import Derived.Deep.CutRange
namespace Go.Proofs.YtbnplhbepkggpaaDoor.nm
open Go Go.RowKit Go.WideShapes Go.ChangeShapes Go.Maps

theorem keyLaw : Keyed Tryd.prog 2 := int_keyed Tryd.underlying2
theorem zeroInt (w : World) : (zeroValue 3).run Tryd.prog w = .ok (.int .i64 0) w := by kernel_rfl

theorem Parse_says (s : ByteArray) (v : Value) (h : parseV s.data.toList = v) : ∀ w, Calls Tryd.prog 12 #[.string s] w fun e w' => e = .returned v ∧ Below w.heap.size w w' := by
  intro w; have := Parse_any s w; rwa [h] at this

theorem wf_i64 {n : Int} (h0 : -9223372036854775808 ≤ n) (h1 : n ≤ 9223372036854775807) : (Lit.int .i64 n).wf = true := by
  show (decide (IntKind.i64.min ≤ n) && decide (n ≤ IntKind.i64.max)) = true
  rw [decide_eq_true (show IntKind.i64.min ≤ n from h0), decide_eq_true (show n ≤ IntKind.i64.max from h1)]; rfl

/-- What Group answers: its segments rise, its stray names are sorted; both are rows of the call's own. -/
def GPost (w : World) (ss : List ByteArray) (e : Ending) (w' : World) : Prop :=
  ∃ (v1 v2 : Value) (B : List Seg), e = .returned (.tuple #[v1, v2]) ∧ B.Perm (gather ss).1 ∧ B.Pairwise (fun x y => ¬ y.base < x.base) ∧
    w'.ownsRow w.heap.size 48 4 v1 B.length (segCells B) ∧ w'.ownsRow w.heap.size 9 1 v2 (sortTexts (gather ss).2).length (strCells (sortTexts (gather ss).2)) ∧ Below w.heap.size w w'

/-- What holds at the head of every round of Group's loop. -/
def GLoop (w wr : World) (A : List Seg) (S : List ByteArray) (va vs : Value) : Prop :=
  wr.ownsRow w.heap.size 48 4 va A.length (segCells A) ∧ wr.ownsRow w.heap.size 9 1 vs S.length (strCells S) ∧
    (∃ D : DataW Unit, MapOk D A ∧ wr.ownsMap Tryd.prog 2 (plainElem Tryd.prog 3) w.heap.size A.length D) ∧ Below w.heap.size w wr

/-- A row that holds these segments and one more at its end, with a file marked. -/
theorem segCells_mark : ∀ (A : List Seg) (i : Nat) (j : Nat) (_ : i < A.length) (_ : j < 3), (segCells A).set (i * 4 + 1 + j) (.bool true) = segCells (A.modify i (·.mark j))
  | [], i, j, hi, _ => by simp at hi
  | s :: r, 0, j, _, hj => by
    rcases (by omega : j = 0 ∨ j = 1 ∨ j = 2) with rfl | rfl | rfl <;> rfl
  | s :: r, i + 1, j, hi, hj => by
    have ih := segCells_mark r i j (by simpa using hi) hj
    unfold segCells at ih ⊢
    rw [List.modify_succ_cons, List.flatMap_cons, List.flatMap_cons, ← ih, List.set_append_right _ _ (by simp [Seg.cells]; omega)]
    congr 2
    simp [Seg.cells]; omega

set_option maxRecDepth 100000 in
set_option maxHeartbeats 4000000 in
theorem Group_any (w : World) (v : Value) (ss : List ByteArray) (hv : StrRow w v ss) (hby : ss.length * 16 ≤ 140737488355328) :
    Calls Tryd.prog 18 #[v] w fun e w' => GPost w ss e w' := by
  obtain ⟨a, cap, rfl, hcap, hcap2, _, hsz, hrow⟩ := hv
  unfold maxLen at hcap2
  have hn : ss.length ≤ 9223372036854775807 := by omega
  clear hcap hcap2
  have HR := Lib.hid hrow; clear hrow
  have HZ := Lib.hid hsz; clear hsz
  have hmm := @run_makeMap Tryd.prog
  obtain ⟨i0, hi0, hz0, hz1, hz2⟩ := info_parts infoStr
  obtain ⟨j0, hj0, hy0, hy1, hy2⟩ := info_parts infoSeg
  go_enter Tryd.func18, Tryd.ntmps18
  go_wp2
  clear hmm
  go_loopg [4, 5, 15] ss.length (fun g va vs i wr => ∃ (k : Nat) (A : List Seg) (S : List ByteArray) (wa ws : Value), k ≤ ss.length ∧ g = ss.length - k ∧ i = .int .i64 k ∧ wa = va ∧ ws = vs ∧ Hid (gather (ss.take k) = (A, S)) ∧ GLoop w wr A S wa ws)
  case atStart => exact ⟨0, [], [], _, _, by omega, rfl, rfl, rfl, rfl, Lib.hid rfl, ⟨rfl, Or.inl ⟨rfl, rfl⟩⟩, ⟨rfl, Or.inl ⟨rfl, rfl⟩⟩, ⟨.map [], ⟨isMap_empty, fun b => rfl⟩, World.ownsMap_made _ _ _ _⟩, (Below.refl _ _).alloc (Nat.le_refl _) _⟩
  case round =>
    obtain ⟨k, A, S, va, vs, hk, rfl, rfl, rfl, rfl, HG, hA, hS, ⟨D, hD, hM⟩, hb⟩ := hrel
    by_cases hlt : k < ss.length
    · obtain ⟨b, off, rfl, hblt, hcell⟩ := HR.out (by rintro rfl; simp at hlt)
      obtain ⟨s, hs⟩ : ∃ s, ss[k] = s := ⟨_, rfl⟩
      have hc : wr.cell? ⟨b, off + k, none⟩ = some (.string s) := by rw [hb.cell (p := ⟨b, off + k, none⟩) hblt, hcell k hlt, hs]
      have hsl : s.size ≤ maxLen := by rw [← hs]; exact HZ.out _ (List.getElem_mem hlt)
      have hlen : A.length + S.length ≤ k := by
        have := gather_len (ss.take k)
        rw [HG.out, List.length_take] at this
        simp at this; omega
      have HS := Lib.hid hs; clear hs hcell
      cases hp : parseL s.data.toList with
      | none =>
        have hpv : parseV s.data.toList = .tuple #[.int .i64 0, .int .i64 0, .bool false] := by unfold parseV; rw [hp]
        have HP := Lib.hid (Parse_says s _ hpv)
        have Hp := Lib.hid hp
        clear hp hpv
        go_wp2_with fail
        refine (HP.out _).mono ?_
        rintro e w2 ⟨rfl, hb2⟩
        have hA2 := ownsRow_below hA hb2
        have hS2 := ownsRow_below hS hb2
        have hM2 := hM.kept (grown_of_below hb2 none) (by simp)
        have hbb := hb.trans (hb2.mono hb.size)
        clear hA hS hM hb hb2 hc
        have hszz := hbb.size
        go_wp2_with (at_builtin; refine wpList_append_own_at _ rfl _ _ 29 rfl w.heap.size 9 i0 (.string ByteArray.empty) 1 16 Tryd.underlying29 hi0 hz0 hz1 hz2 rfl (by decide) _ S.length (strCells S) rfl (hS2.alloc _) ⟨w2.heap.size, 0, none⟩ 1 1 [.string s] rfl rfl (cell_one_new _ _ _) (by simp [Value.oneCell']) (by unfold maxLen; omega) (by omega) (by simp; omega) ?_; intro v' w3 hS3 hgrow hnil hat)
        go_roundg (ss.length - (k + 1))
        case measure => omega
        case rel =>
          refine ⟨k + 1, A, S ++ [s], va, v', by omega, rfl, by go_num, rfl, rfl, Lib.hid ?_, ?_, ?_, ⟨D, hD, ?_⟩, ?_⟩
          · rw [gather_snoc _ _ hlt, HG.out, HS.out]; unfold gstep; rw [Hp.out]
          · exact ownsRow_keep (hA2.alloc _) hgrow (rows_apart (hA2.alloc (.cells #[.string s] 9)) (hS2.alloc (.cells #[.string s] 9)) (by decide))
          · rw [List.length_append, List.length_singleton, show strCells (S ++ [s]) = strCells S ++ [.string s] by simp [strCells]]; exact hS3
          · exact (hM2.alloc _).kept hgrow (map_apart hS2 hM2)
          · exact (hbb.alloc hszz _).grown hgrow (by simp; omega) (own_ge hS2)
      | some x =>
        obtain ⟨bs, kd⟩ := x
        have hpv : parseV s.data.toList = .tuple #[.int .i64 bs, .int .i64 kd, .bool true] := by unfold parseV; rw [hp]
        have HP := Lib.hid (Parse_says s _ hpv)
        obtain ⟨q0, q1, q2, q3⟩ := name_parse _ _ _ hp
        have hkd : 0 ≤ kd ∧ kd ≤ 2 := by simpa [endB] using q2
        obtain ⟨hk0, hk2⟩ := hkd
        have Hp := Lib.hid hp
        clear hp hpv q2 q3
        have hkey : keyOf Tryd.prog 2 (.int .i64 bs) = some (.int .i64 bs) := keyOf_int_mk Tryd.underlying2 (wf_i64 (by omega) (by omega))
        have HK := Lib.hid hkey; clear hkey
        have hple := pos_le A bs
        have hDb := hD.2 bs
        obtain ⟨p, hpp⟩ : ∃ p, pos A bs = p := ⟨_, rfl⟩
        rw [hpp] at hDb hple
        have HD := Lib.hid hD; have HDb := Lib.hid hDb; have Hpp := Lib.hid hpp; clear hD hDb hpp
        go_wp2_with fail
        refine (HP.out _).mono ?_
        rintro e w2 ⟨rfl, hb2⟩
        have hA2 := ownsRow_below hA hb2
        have hS2 := ownsRow_below hS hb2
        have hM2 := hM.kept (grown_of_below hb2 none) (by simp)
        have hbb := hb.trans (hb2.mono hb.size)
        clear hA hS hM hb hb2 hc
        have hszz := hbb.size
        go_upto_if 34 with (at_lookup; refine wpList_lookup_own_int _ rfl _ _ 61 rfl 2 3 .i64 keyLaw Tryd.underlying61 Tryd.underlying3 (zeroInt _) w.heap.size A.length _ rfl hM2 _ _ rfl HK.out ?_; intro c hat hwc; (obtain rfl : c = p := by (have h1 := HDb.out; rw [hat] at h1; simpa using h1)); clear hat hwc)
        go_cut [4, 15] from 15 to 53 (fun x i wx => ∃ (A1 : List Seg) (wa : Value), i = .int .i64 k ∧ wa = x ∧ Hid (A1 = if p = 0 then A ++ [⟨bs, false, false, false⟩] else A) ∧ 1 ≤ A1.length ∧ A1.length ≤ k + 1 ∧ 1 ≤ pos A1 bs ∧ GLoop w wx A1 S wa vs)
        case first =>
          by_cases hp0 : p = 0
          · subst hp0
            go_wp2_with (first
              | (at_builtin; refine wpList_append_lies _ rfl _ _ 37 rfl w.heap.size 48 j0 _ 4 16 Tryd.underlying37 hj0 hy0 hy1 hy2 rfl (by decide) _ A.length (segCells A) rfl (hA2.alloc _) ⟨w2.heap.size, 0, none⟩ 1 1 [.int .i64 bs, .bool false, .bool false, .bool false] rfl rfl (World.news_of_block (cs := #[.int .i64 bs, .bool false, .bool false, .bool false]) (t := 48) (fr := (0, 0)) (heap_alloc_new w2 _)) (by simp [Value.oneCell']) (by omega) (by unfold maxLen; omega) (by omega) (by simp; omega) (w2.heap.size + 1) (by simp) ?_; intro g cp w3 hA3 hgrow hat hltg)
              | (at_mapUpdate; refine wpList_mapUpdate_own _ rfl _ _ _ 61 rfl 2 3 keyLaw Tryd.underlying61 _ w.heap.size A.length _ rfl ((hM2.alloc _).kept hgrow (map_apart hA2 hM2)) (by unfold maxLen; omega) _ _ _ rfl rfl HK.out _ [] (plainElem_int Tryd.underlying3 (wf_i64 (by omega) (by omega))) ?_; intro w4 hM4 hgrow4))
            go_meet
            case rel =>
              have hA3' : w3.ownsRow w.heap.size 48 4 (.slice (some ⟨g, 0, none⟩) (A.length + 1) cp) (A ++ [(⟨bs, false, false, false⟩ : Seg)]).length (segCells (A ++ [⟨bs, false, false, false⟩])) := by
                rw [segCells_snoc, List.length_append, List.length_singleton]; exact hA3
              have hS3 := ownsRow_keep (hS2.alloc _) hgrow (rows_apart (hS2.alloc (.cells #[.int .i64 bs, .bool false, .bool false, .bool false] 48)) (hA2.alloc (.cells #[.int .i64 bs, .bool false, .bool false, .bool false] 48)) (by decide))
              have hM3 := (hM2.alloc (.cells #[.int .i64 bs, .bool false, .bool false, .bool false] 48)).kept hgrow (map_apart hA2 hM2)
              have hb3 := (hbb.alloc hszz _).grown hgrow (by simp; omega) (own_ge hA2)
              refine ⟨A ++ [⟨bs, false, false, false⟩], _, rfl, rfl, Lib.hid (by simp), by simp, by simp; omega, ?_, ?_, ?_, ⟨D.put (.int .i64 bs) (.lit (.int .i64 ((A.length : Int) + 1))), ?_, ?_⟩, ?_⟩
              · rw [pos_snoc, if_neg (by simp [Hpp.out]), if_pos rfl]; omega
              · exact ownsRow_keep hA3' hgrow4 (fun q hq => by intro e; exact map_apart hA3' hM3 (by rw [hq, ← e]))
              · exact ownsRow_keep hS3 hgrow4 (fun q hq => by intro e; exact map_apart hS3 hM3 (by rw [hq, ← e]))
              · exact mapOk_put HD.out ⟨bs, false, false, false⟩ Hpp.out
              · rw [List.length_append, List.length_singleton]; exact hM4
              · exact hb3.grown hgrow4 hb3.size (fun q hq => by cases hq; exact Nat.le_refl _)
          · have hp1 : ((p : Int) == 0) = false := by simp [hp0]
            go_wp2
            go_meet
            case rel =>
              refine ⟨A, va, rfl, rfl, Lib.hid (by rw [if_neg hp0]), by omega, by omega, by rw [Hpp.out]; omega, hA2, hS2, ⟨D, HD.out, hM2⟩, hbb⟩
        case rest =>
          obtain ⟨A1, va1, rfl, rfl, HA1, l1, l2, l3, hA1, hS1, ⟨D1, hD1, hM1⟩, hb1⟩ := hcut
          have hple1 := pos_le A1 bs
          have hDb1 := hD1.2 bs
          obtain ⟨p1, hpp1⟩ : ∃ p1, pos A1 bs = p1 := ⟨_, rfl⟩
          rw [hpp1] at hDb1 hple1 l3
          have HD1 := Lib.hid hD1; have HDb1 := Lib.hid hDb1; have Hpp1 := Lib.hid hpp1; clear hD1 hDb1 hpp1
          obtain ⟨g, cp, rfl, hg0, hg1⟩ := hA1.form (by omega)
          obtain ⟨i, rfl⟩ : ∃ i, p1 = i + 1 := ⟨p1 - 1, by omega⟩
          obtain ⟨j, rfl⟩ := Int.eq_ofNat_of_zero_le hk0
          have hcell : ∃ u, wc.cell? ⟨g, i * 4 + 1 + j, none⟩ = some u := by
            rw [hA1.cellAt _ (by omega)]
            exact ⟨_, List.getElem?_eq_getElem (by rw [segCells_len]; omega)⟩
          obtain ⟨u, hu⟩ := hcell
          have hfr := hA1.frozenAt (i * 4 + 1 + j)
          go_wp2_with (at_lookup; refine wpList_lookup_own_int _ rfl _ _ 61 rfl 2 3 .i64 keyLaw Tryd.underlying61 Tryd.underlying3 (zeroInt _) w.heap.size A1.length _ rfl hM1 _ _ rfl HK.out ?_; intro c hat hwc; (obtain rfl : c = ((i + 1 : Nat) : Int) := by (have h1 := HDb1.out; rw [hat] at h1; simpa using h1)); clear hat hwc)
          go_roundg (ss.length - (k + 1))
          case measure => omega
          case rel =>
            obtain ⟨hst, hgr⟩ := hA1.stored (i * 4 + 1 + j) (.bool true)
            have hlen1 : (A1.modify i (·.mark j)).length = A1.length := by simp
            have hA4 : (wc.setCell ⟨g, i * 4 + 1 + j, none⟩ (.bool true)).ownsRow w.heap.size 48 4 (.slice (some ⟨g, 0, none⟩) A1.length cp) (A1.modify i (·.mark j)).length (segCells (A1.modify i (·.mark j))) := by
              rw [hlen1, ← segCells_mark A1 i j (by omega) (by omega)]; exact hst
            refine ⟨k + 1, A1.modify i (·.mark j), S, _, vs, by omega, rfl, by go_num, rfl, rfl, Lib.hid ?_, hA4, ?_, ⟨D1, ?_, ?_⟩, ?_⟩
            · rw [gather_snoc _ _ hlt, HG.out, HS.out]
              unfold gstep
              rw [Hp.out]
              simp only [Hpp.out, ← HA1.out, Hpp1.out, Nat.add_sub_cancel]
            · exact ownsRow_keep hS1 hgr (rows_apart hS1 hA1 (by decide))
            · exact ⟨HD1.out.1, fun q => by rw [pos_mark]; exact HD1.out.2 q⟩
            · rw [hlen1]; exact hM1.kept hgr (map_apart hA1 hM1)
            · exact hb1.setCell hg0 _
    · have hk' : ss.take k = ss := List.take_of_length_le (by omega)
      have hg1 : A = (gather ss).1 := by rw [← hk', HG.out]
      have hg2 : S = (gather ss).2 := by rw [← hk', HG.out]
      have hlen : A.length + S.length ≤ ss.length := by rw [hg1, hg2]; exact gather_len ss
      have HG1 := Lib.hid hg1; have HG2 := Lib.hid hg2; clear hg1 hg2 hk'
      go_wp2_with fail
      refine (sort_segs _ _ _ _ hA (by omega)).mono ?_
      rintro e w2 ⟨rfl, B, hp, hpw, hA2, hgr⟩
      have hS2 := ownsRow_keep hS hgr (rows_apart hS hA (by decide))
      have hb2 := hb.grown hgr hb.size (own_ge hA)
      have HP := Lib.hid hp; have HPW := Lib.hid hpw
      clear hp hpw hM hA hS hb
      go_wp2_with fail
      refine (sort_strs _ _ _ _ hS2 (by omega)).mono ?_
      rintro e w3 ⟨rfl, hS3, hgr3⟩
      have hA3 := ownsRow_keep hA2 hgr3 (rows_apart hA2 hS2 (by decide))
      have hb3 := hb2.grown hgr3 hb2.size (own_ge hS2)
      clear hA2 hS2
      go_wp2
      go_ret2
      exact ⟨_, _, B, rfl, by rw [← HG1.out]; exact HP.out, HPW.out.imp (fun h => by omega), hA3, by rw [← HG2.out]; exact hS3, hb3⟩
end Go.Proofs.YtbnplhbepkggpaaDoor.nm
