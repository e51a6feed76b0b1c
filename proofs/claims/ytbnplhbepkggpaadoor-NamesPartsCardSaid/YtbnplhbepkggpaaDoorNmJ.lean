/- The contracts of the document's Group and of sameTexts. -/
import Derived.Test.YtbnplhbepkggpaaDoorNmI
namespace Go.Proofs.YtbnplhbepkggpaaDoor.nm
open Go Go.RowKit Go.WideShapes Go.ChangeShapes Go.Maps

theorem rParse_says (s : ByteArray) (v : Value) (h : parseV s.data.toList = v) : ∀ w, Calls Tryd.prog 13 #[.string s] w fun e w' => e = .returned v ∧ w' = w := by
  intro w; have := rParse_any s w; rw [h] at this; exact this.mono fun e w' ⟨h1, h2⟩ => ⟨h1, h2.symm⟩
theorem sizes_rgather (l : List ByteArray) (h : ∀ s ∈ l, s.size ≤ maxLen) : ∀ s ∈ (rgather l).2, s.size ≤ maxLen := fun s hs => sizes_gather l h s ((gathers l).2.2.1.subset hs)

set_option maxRecDepth 100000 in
set_option maxHeartbeats 4000000 in
theorem rGroup_any (w : World) (v : Value) (ss : List ByteArray) (hv : StrRow w v ss) (hby : (ss.length + 1) * 16 ≤ 140737488355328) :
    Calls Tryd.prog 19 #[v] w fun e w' => ∃ v1 v2, e = .returned (.tuple #[v1, v2]) ∧ w'.ownsRow w.heap.size 60 4 v1 (rgather ss).1.length (segCells (rgather ss).1) ∧
      w'.ownsRow w.heap.size 9 1 v2 (rgather ss).2.length (strCells (rgather ss).2) ∧ Below w.heap.size w w' := by
  obtain ⟨a, cap, rfl, hcap, hcap2, _, hsz, hrow⟩ := hv
  unfold maxLen at hcap2
  have hn : ss.length ≤ 9223372036854775807 := by omega
  clear hcap hcap2
  have HR := Lib.hid hrow; clear hrow
  have HZ := Lib.hid hsz; clear hsz
  go_enter Tryd.func19, Tryd.ntmps19
  go_wp2
  go_loopg [4, 5, 6] ss.length (fun g va vs i wr => ∃ (k : Nat) (A : List Seg) (S : List ByteArray) (wa ws : Value), k ≤ ss.length ∧ g = ss.length - k ∧ i = .int .i64 k ∧ wa = va ∧ ws = vs ∧ Hid (rgather (ss.take k) = (A, S)) ∧
    wr.ownsRow w.heap.size 60 4 wa A.length (segCells A) ∧ wr.ownsRow w.heap.size 9 1 ws S.length (strCells S) ∧ Below w.heap.size w wr)
  case atStart => exact ⟨0, [], [], _, _, by omega, rfl, rfl, rfl, rfl, Lib.hid rfl, ⟨rfl, Or.inl ⟨rfl, rfl⟩⟩, ⟨rfl, Or.inl ⟨rfl, rfl⟩⟩, Below.refl _ _⟩
  case round =>
    obtain ⟨k, A, S, va, vs, hk, rfl, rfl, rfl, rfl, HG, hA, hS, hb⟩ := hrel
    by_cases hlt : k < ss.length
    · obtain ⟨b, off, rfl, hblt, hcell⟩ := HR.out (by rintro rfl; simp at hlt)
      obtain ⟨s, hs⟩ : ∃ s, ss[k] = s := ⟨_, rfl⟩
      have hc : wr.cell? ⟨b, off + k, none⟩ = some (.string s) := by rw [hb.cell (p := ⟨b, off + k, none⟩) hblt, hcell k hlt, hs]
      have hlen : A.length + S.length ≤ k := by
        have := rgather_len (ss.take k)
        rw [HG.out, List.length_take] at this
        simp at this; omega
      have hSz : ∀ s ∈ S, s.size ≤ maxLen := by
        have := sizes_rgather (ss.take k) (fun s hs => HZ.out s (List.mem_of_mem_take hs))
        rwa [HG.out] at this
      have HSZ := Lib.hid hSz
      have HS := Lib.hid hs; clear hs hcell hSz
      cases hp : parseL s.data.toList with
      | none =>
        have hpv : parseV s.data.toList = .tuple #[.int .i64 0, .int .i64 0, .bool false] := by unfold parseV; rw [hp]
        have HP := Lib.hid (rParse_says s _ hpv)
        have Hp := Lib.hid hp
        clear hp hpv
        go_wp2_with fail
        refine (HP.out _).mono ?_
        rintro e w2 ⟨rfl, rfl⟩
        go_wp2_with fail
        refine (sorted_any _ _ _ _ (strRow_own hS HSZ.out) (by omega)).mono ?_
        rintro e w2 ⟨v', rfl, hS2, hb2⟩
        go_wp2_with fail
        go_roundg (ss.length - (k + 1))
        case measure => omega
        case rel =>
          refine ⟨k + 1, A, insT s S, va, v', by omega, rfl, by go_num, rfl, rfl, Lib.hid ?_, ownsRow_below hA hb2, hS2.mono hb.size, hb.trans (hb2.mono hb.size)⟩
          rw [rgather_snoc _ _ hlt, HG.out, HS.out]; unfold rstep; rw [Hp.out]
      | some x =>
        obtain ⟨bs, kd⟩ := x
        have hpv : parseV s.data.toList = .tuple #[.int .i64 bs, .int .i64 kd, .bool true] := by unfold parseV; rw [hp]
        have HP := Lib.hid (rParse_says s _ hpv)
        obtain ⟨q0, q1, q2, q3⟩ := name_parse _ _ _ hp
        have hkd : 0 ≤ kd ∧ kd ≤ 2 := by simpa [endB] using q2
        obtain ⟨hk0, hk2⟩ := hkd
        obtain ⟨j, rfl⟩ := Int.eq_ofNat_of_zero_le hk0
        have Hp := Lib.hid hp
        clear hp hpv q2 q3
        go_wp2_with fail
        refine (HP.out _).mono ?_
        rintro e w2 ⟨rfl, rfl⟩
        go_wp2_with fail
        refine (with_any _ _ _ _ _ (segRow_ownT hA) (by omega) (by omega)).mono ?_
        rintro e w2 ⟨v', rfl, hA2, hb2⟩
        go_wp2_with fail
        go_roundg (ss.length - (k + 1))
        case measure => omega
        case rel =>
          refine ⟨k + 1, withR bs j A, S, v', vs, by omega, rfl, by go_num, rfl, rfl, Lib.hid ?_, hA2.mono hb.size, ownsRow_below hS hb2, hb.trans (hb2.mono hb.size)⟩
          rw [rgather_snoc _ _ hlt, HG.out, HS.out]; unfold rstep; rw [Hp.out]
    · have hk' : ss.take k = ss := List.take_of_length_le (by omega)
      have hg1 : A = (rgather ss).1 := by rw [← hk', HG.out]
      have hg2 : S = (rgather ss).2 := by rw [← hk', HG.out]
      subst hg1 hg2
      clear HG
      go_wp2_with fail
      go_ret2
      exact ⟨_, _, rfl, hA, hS, hb⟩

set_option maxRecDepth 100000 in
set_option maxHeartbeats 1000000 in
theorem sameTexts_eq (w : World) (v u : Value) (l : List ByteArray) (hv : StrRow w v l) (hu : StrRow w u l) :
    Calls Tryd.prog 20 #[v, u] w fun e w' => e = .returned (.bool true) ∧ Below w.heap.size w w' := by
  obtain ⟨a, cap, rfl, hcap, hcap2, _, _, hrow⟩ := hv
  obtain ⟨a', cap', rfl, _, _, _, _, hrow'⟩ := hu
  unfold maxLen at hcap2
  have hn : l.length ≤ 9223372036854775807 := by omega
  clear hcap hcap2
  have HR := Lib.hid hrow; clear hrow
  have HR' := Lib.hid hrow'; clear hrow'
  go_enter Tryd.func20, Tryd.ntmps20
  go_wp2
  go_loopw [5] (fun i wr => ∃ (k : Nat), k ≤ l.length ∧ i = .int .i64 k ∧ Below w.heap.size w wr) (fun i _ => l.length - (intOf i).toNat)
  case atStart => exact ⟨0, by omega, rfl, Below.refl _ _⟩
  case round =>
    obtain ⟨k, hk, rfl, hb⟩ := hrel
    by_cases hlt : k < l.length
    · have hne : l ≠ [] := by rintro rfl; simp at hlt
      obtain ⟨b, off, rfl, hblt, hcell⟩ := HR.out hne
      obtain ⟨b', off', rfl, hblt', hcell'⟩ := HR'.out hne
      obtain ⟨s, hs⟩ : ∃ s, l[k] = s := ⟨_, rfl⟩
      have c0 := hcell k hlt
      have d0 := hcell' k hlt
      rw [hs] at c0 d0
      clear hs hcell hcell' HR HR' hne
      rw [← hb.cell (p := ⟨b, _, none⟩) hblt] at c0
      rw [← hb.cell (p := ⟨b', _, none⟩) hblt'] at d0
      have hk0 : (0 : Int) ≤ (k : Int) := by omega
      have hk1 : (k : Int) < (l.length : Int) := by omega
      go_wp2_with fail
      go_region
      go_wp2
      go_roundw
      case rel => exact ⟨k + 1, by omega, by go_num, hb.drew⟩
      case measure => simp [intOf]; omega
    · go_wp2
      go_ret
      exact ⟨rfl, hb⟩
end Go.Proofs.YtbnplhbepkggpaaDoor.nm
