/- The walk of the law NamesParts. -/
import Derived.Test.YtbnplhbepkggpaaDoorNmK
import Derived.Test.YtbnplhbepkggpaaDoorNmL
namespace Go.Proofs.YtbnplhbepkggpaaDoor.nm
open Go Go.RowKit Go.WideShapes Go.ChangeShapes Go.Maps

theorem nameS_of {b : Int} {j : Nat} (h0 : 0 ≤ b) (h1 : b ≤ 4611686018427387904) (hj : j < 3) : nameS b j = nameL b j := by
  unfold nameS; rw [if_neg (by omega), if_pos (endB_of hj)]
theorem nameE_of {b : Int} {j : Nat} (h0 : 0 ≤ b) (h1 : b ≤ 4611686018427387904) (hj : j < 3) : nameE b j = 0 := by
  unfold nameE; rw [if_neg (by omega), if_pos (endB_of hj)]
theorem eq_hit (b k : Int) (t : ByteArray) : (t.toList == (⟨(nameL b k).toArray⟩ : ByteArray).toList) = hit b k t := by
  rw [Lib.toList_data, Lib.toList_data]
  unfold hit
  by_cases h : t.data.toList = nameL b k <;> simp [h]
/-- The names of the first j kinds among the texts. -/
def kc (b : Int) : Nat → List ByteArray → Nat
  | 0, _ => 0
  | j + 1, l => kc b j l + cnt b (j : Int) l
theorem kc_three (b : Int) (l : List ByteArray) : kc b 3 l = cnt3 b l := by unfold cnt3; simp [kc]
theorem told_take (R : List Seg) (l : List ByteArray) (k : Nat) (h : k < R.length) : told (R.take (k + 1)) l = told (R.take k) l + cnt3 R[k].base l := by
  unfold told
  rw [List.take_succ_eq_append_getElem h, List.map_append, List.sum_append]; simp
theorem told_mono (l : List ByteArray) : ∀ (R : List Seg) (k : Nat), told (R.take k) l ≤ told R l
  | [], k => by simp
  | s :: R, 0 => by simp [told]
  | s :: R, k + 1 => by
    have := told_mono l R k
    unfold told at this ⊢
    simp only [List.take_succ_cons, List.map_cons, List.sum_cons]; omega
theorem told_le (R : List Seg) (l : List ByteArray) (k j : Nat) (h : k < R.length) (hj : j < 3) : told (R.take k) l + (kc R[k].base j l + cnt R[k].base (j : Int) l) ≤ told R l := by
  have h1 := told_mono l R (k + 1)
  rw [told_take R l k h] at h1
  have h2 : kc R[k].base j l + cnt R[k].base (j : Int) l ≤ cnt3 R[k].base l := by
    rw [← kc_three]
    rcases three hj with rfl | rfl | rfl <;> simp [kc] <;> omega
  omega
theorem hasCell {w : World} {b off k : Nat} {s : Seg} (c1 : w.cell? ⟨b, off + k * 4 + 1, none⟩ = some (.bool s.h0)) (c2 : w.cell? ⟨b, off + k * 4 + 2, none⟩ = some (.bool s.h1)) (c3 : w.cell? ⟨b, off + k * 4 + 3, none⟩ = some (.bool s.h2)) {j : Nat} (hj : j < 3) :
    w.cell? ⟨b, off + k * 4 + 1 + j, none⟩ = some (.bool (s.has j)) := by
  rcases three hj with rfl | rfl | rfl
  · exact c1
  · exact c2
  · exact c3

set_option maxRecDepth 100000 in
set_option maxHeartbeats 4000000 in
theorem NamesParts_row (w : World) (v : Value) (ss : List ByteArray) (hv : StrRow w v ss) (htab : Tab w) :
    Calls Tryd.prog 7 #[v] w fun e w' => e = .returned (.bool true) ∧ Below w.heap.size w w' := by
  obtain ⟨a, cap, rfl, hcap, hcap2, hnn, hsz, hrow⟩ := hv
  have HV : Hid (StrRow w (.slice a (ss.take 500).length cap) (ss.take 500)) := Lib.hid ⟨a, cap, rfl, by rw [List.length_take]; omega, hcap2, hnn, fun s hs => hsz s (List.mem_of_mem_take hs), fun hne => by
    obtain ⟨b, off, rfl, hlt, hcell⟩ := hrow (by rintro rfl; simp at hne)
    refine ⟨b, off, rfl, hlt, fun i hi => ?_⟩
    rw [hcell i (by rw [List.length_take] at hi; omega)]
    simp⟩
  have hnil : a = none → ss.length = 0 ∧ cap = 0 := fun e => by have := hnn e; omega
  unfold maxLen at hcap2
  have hn : ss.length ≤ 9223372036854775807 := by omega
  have HZ : Hid (∀ s ∈ ss.take 500, s.size ≤ maxLen) := Lib.hid fun s hs => hsz s (List.mem_of_mem_take hs)
  have hl5 : (ss.take 500).length ≤ 500 := by rw [List.length_take]; omega
  have HL : Hid ((ss.take 500).length = min 500 ss.length) := Lib.hid (List.length_take)
  clear hrow hsz hnn
  have HT := Lib.hid htab; clear htab
  go_enter Tryd.func7, Tryd.ntmps7
  go_wp2_with fail
  refine (awake_any _ HT.out).mono ?_
  rintro e w1 ⟨rfl, hb1⟩
  have HV1 := Lib.hid (strRow_below HV.out hb1)
  go_upto_region 4 with fail
  have em : (min (ss.length : Int) 500).toNat = (ss.take 500).length := by rw [HL.out]; omega
  rw [em]
  clear em HL
  generalize ss.take 500 = ts at *
  go_wp2_with fail
  refine (Group_any _ _ _ HV1.out (by omega)).mono ?_
  rintro e w2 ⟨vl, vs, R, rfl, hp, hpw, hl, hS, hb2⟩
  obtain ⟨rfl, hXe⟩ := group_same ts R hp hpw
  rw [hXe] at hS
  clear hp hpw hXe
  have hwhole := told_whole ts
  have hR : Hid (Rising (rgather ts).1) := Lib.hid (gathers ts).2.1
  have hX : Hid (InOrder (rgather ts).2) := Lib.hid (gathers ts).2.2.2
  have hT : Hid (Told (rgather ts).1 ts) := Lib.hid (told_all ts)
  have hXs : Hid (∀ t ∈ (rgather ts).2, parseL t.data.toList = none) := Lib.hid (stray_of ts)
  have hlen := rgather_len ts
  have HV2 := Lib.hid (strRow_below HV1.out hb2)
  have hSR := segRow_ownT hl
  have hSX := strRow_own hS (sizes_rgather ts HZ.out)
  clear hl hS
  generalize (rgather ts).1 = R at *
  generalize (rgather ts).2 = X at *
  obtain ⟨al, cl, rfl, _, _, hcl⟩ := hSR
  obtain ⟨ax, cx, rfl, _, _, _, _, hcx⟩ := hSX
  have HCL := Lib.hid hcl
  have HCX := Lib.hid hcx
  have hb02 := hb1.trans (hb2.mono hb1.size)
  clear hcl hcx hb2
  go_wp2_with fail
  go_loopg [5, 6] R.length (fun g td i wr => ∃ k : Nat, k ≤ R.length ∧ g = R.length - k ∧ i = .int .i64 k ∧ td = .int .i64 (told (R.take k) ts : Nat) ∧ Below w2.heap.size w2 wr)
  case atStart => exact ⟨0, by omega, rfl, rfl, by simp [told], Below.refl _ _⟩
  case round =>
    obtain ⟨k, hk, rfl, rfl, rfl, hb⟩ := hrel
    by_cases hlt : k < R.length
    · obtain ⟨b, off, rfl, hblt, hcell⟩ := HCL.out (by rintro rfl; simp at hlt)
      obtain ⟨s, hs⟩ : ∃ s, R[k] = s := ⟨_, rfl⟩
      have hsR : s ∈ R := by rw [← hs]; exact List.getElem_mem hlt
      obtain ⟨c0, c1, c2, c3⟩ := hcell k hlt
      rw [hs] at c0 c1 c2 c3
      have hprev : 0 < k → ∃ p : Int, p < s.base ∧ wr.cell? ⟨b, off + (k - 1) * 4, none⟩ = some (.int .i64 p) := by
        intro hk0
        refine ⟨R[k - 1].base, ?_, ?_⟩
        · have := List.pairwise_iff_getElem.1 hR.out (k - 1) k (by omega) hlt (by omega)
          rwa [hs] at this
        · rw [hb.cell (p := ⟨b, _, none⟩) hblt]; exact (hcell (k - 1) (by omega)).1
      have HC0 := Lib.hid c0; have HC := Lib.hid (fun j (hj : j < 3) => hasCell c1 c2 c3 hj); have HC1 := Lib.hid c1; have HC2 := Lib.hid c2; have HC3 := Lib.hid c3
      rw [← hb.cell (p := ⟨b, _, none⟩) hblt] at c0
      clear c1 c2 c3
      have htl := fun j hj => told_le R ts k j hlt hj
      have htk := told_take R ts k hlt
      rw [hs] at htl htk
      have HTL := Lib.hid htl; have HTK := Lib.hid htk
      have HPREV := Lib.hid hprev
      clear hprev htl htk hcell hs
      rcases Nat.eq_zero_or_pos k with hk0 | hk0
      case' inl =>
        have hq : ((k : Int) > 0) = False := by simp [hk0]
        have hR0 : 0 < R.length := by omega
        go_wp2_with fail
        go_region
        clear hq hk0 hR0
      case' inr =>
        obtain ⟨p, hp, hpc⟩ := HPREV.out hk0
        have hsub : ((k : Int) - 1).toNat = k - 1 := by omega
        go_wp2_with fail
        go_region
        clear hpc hsub hk0
      all_goals
        clear c0
        have hbs := hT.out.bd s hsR
        have hhas := Lib.hid (hT.out.has s hsR)
        have hsome := Lib.hid (hT.out.some s hsR)
        obtain ⟨hs0, hs1⟩ := hbs
        go_wp2_with fail
        go_loopg [5, 7] 3 (fun g td i wr => ∃ j : Nat, j ≤ 3 ∧ g = 3 - j ∧ i = .int .i64 j ∧ td = .int .i64 ((told (R.take k) ts + kc s.base j ts : Nat) : Int) ∧ Below w2.heap.size w2 wr)
        case atStart => exact ⟨0, by omega, rfl, rfl, by simp [kc], hb.drew⟩
        case round =>
          clear hb
          obtain ⟨j, hj, rfl, rfl, rfl, hb⟩ := hrel
          by_cases hj3 : j < 3
          · have c0 := HC0.out
            rw [← hb.cell (p := ⟨b, _, none⟩) hblt] at c0
            have htl := HTL.out j hj3
            go_wp2_with fail
            have hN := Name_any s.base j wr (tab_below HT.out (hb02.trans (hb.mono hb02.size)))
            rw [nameS_of hs0 hs1 hj3, nameE_of hs0 hs1 hj3] at hN
            obtain ⟨N, hNe⟩ : ∃ N : ByteArray, N = ⟨(nameL s.base j).toArray⟩ := ⟨_, rfl⟩
            rw [← hNe] at hN
            have HN : Hid (∀ t : ByteArray, (t.toList == N.toList) = hit s.base j t) := Lib.hid (by subst hNe; exact eq_hit s.base j)
            clear hNe
            refine hN.mono ?_
            rintro e w3 ⟨rfl, hb3⟩
            have hb3' := hb.trans (hb3.mono hb.size)
            clear hN hb hb3 c0
            obtain ⟨c, hc⟩ : ∃ c, cnt s.base j ts = c := ⟨_, rfl⟩
            have HCN := Lib.hid hc
            rw [hc] at htl
            have hhj := hhas.out j hj3
            rw [hc] at hhj
            clear hc
            go_wp2_with fail
            go_loopg [10, 11] ts.length (fun g n i wr => ∃ m : Nat, m ≤ ts.length ∧ g = ts.length - m ∧ i = .int .i64 m ∧ n = .int .i64 (cnt s.base j (ts.take m) : Nat) ∧ Below w2.heap.size w2 wr)
            case atStart => exact ⟨0, by omega, rfl, rfl, by simp [cnt], hb3'⟩
            case round =>
              clear hb3'
              obtain ⟨m, hm, rfl, rfl, rfl, hb⟩ := hrel
              by_cases hlm : m < ts.length
              · obtain ⟨a', cap', hva, _, _, _, _, hrow⟩ := HV2.out
                obtain ⟨bt, ot, hat, hbt, hct⟩ := hrow (by rintro rfl; simp at hlm)
                cases hva
                subst hat
                obtain ⟨t, ht⟩ : ∃ t, ts[m] = t := ⟨_, rfl⟩
                have ct := hct m hlm
                rw [ht, ← hb.cell (p := ⟨bt, _, none⟩) hbt] at ct
                have hq := HN.out t
                have hcs : cnt s.base j (ts.take (m + 1)) = cnt s.base j (ts.take m) + if hit s.base j t = true then 1 else 0 := by
                  rw [List.take_succ_eq_append_getElem hlm, cnt_snoc, ht]
                have hcb : cnt s.base j (ts.take m) ≤ 500 := Nat.le_trans (List.countP_le_length) (by rw [List.length_take]; omega)
                have HCS := Lib.hid hcs
                clear hcs hrow hct ht
                rcases hh : hit s.base j t with _ | _
                all_goals
                  rw [hh] at hq
                  go_wp2_with fail
                  go_roundg (ts.length - (m + 1))
                  case measure => omega
                  case rel =>
                    refine ⟨m + 1, by omega, rfl, by go_num, ?_, hb⟩
                    rw [HCS.out, hh]
                    first | rfl | (simp; done) | (congr 1; simp)
              · have hmt : ts.take m = ts := List.take_of_length_le (by omega)
                rw [hmt, HCN.out]
                have cj := HC.out j hj3
                rw [← hb.cell (p := ⟨b, _, none⟩) hblt, hhj] at cj
                clear hmt
                rcases Nat.eq_zero_or_pos c with hc0 | hc0
                case' inl =>
                  have e0 : decide (0 < c) = false := by simp [hc0]
                case' inr =>
                  have e0 : decide (0 < c) = true := by simp [hc0]
                all_goals
                  rw [e0] at cj
                  clear e0
                  go_wp2_with fail
                  go_roundg (3 - (j + 1))
                  case measure => omega
                  case rel =>
                    refine ⟨j + 1, by omega, rfl, by go_num, ?_, hb⟩
                    rw [kc, HCN.out]; exact congrArg (Value.int IntKind.i64) (by omega)
          · have hj' : j = 3 := by omega
            subst hj'
            obtain ⟨js, hjs, hjt⟩ := hsome.out
            have cs1 := HC1.out
            have cs2 := HC2.out
            have cs3 := HC3.out
            rw [← hb.cell (p := ⟨b, _, none⟩) hblt] at cs1 cs2 cs3
            have hany : (s.h0 || s.h1 || s.h2) = true := by
              rcases three hjs with rfl | rfl | rfl <;> simp [Seg.has] at hjt <;> simp [hjt]
            have heq : ∀ (W : World), (binOp .eql 46 (.agg #[.bool s.h0, .bool s.h1, .bool s.h2]) (.agg #[.bool false, .bool false, .bool false])).run Tryd.prog W = .ok (.bool false) W := by
              intro W
              revert hany
              cases s.h0 <;> cases s.h1 <;> cases s.h2 <;> intro hany <;> first | (exact absurd hany (by decide)) | kernel_rfl
            have htk := HTK.out
            rw [← kc_three] at htk
            have HTK' := Lib.hid htk
            clear htk HTK hjt hany
            go_wp2_with fail
            go_roundg (R.length - (k + 1))
            case measure => omega
            case rel =>
              exact ⟨k + 1, by omega, rfl, by go_num, by rw [HTK'.out], hb⟩
    · have hkt : R.take k = R := List.take_of_length_le (by omega)
      rw [hkt]
      clear hkt
      have hb0 := hb02.trans (hb.mono hb02.size)
      go_wp2_with fail
      go_loopg [12] X.length (fun g i wr => ∃ m : Nat, m ≤ X.length ∧ g = X.length - m ∧ i = .int .i64 m ∧ Below w2.heap.size w2 wr)
      case atStart => exact ⟨0, by omega, rfl, rfl, hb⟩
      case round =>
        clear hb hb0
        obtain ⟨m, hm, rfl, rfl, hb⟩ := hrel
        by_cases hlm : m < X.length
        · obtain ⟨b, off, rfl, hblt, hcell⟩ := HCX.out (by rintro rfl; simp at hlm)
          obtain ⟨t, ht⟩ : ∃ t, X[m] = t := ⟨_, rfl⟩
          have hpn : parseL t.data.toList = none := hXs.out t (by rw [← ht]; exact List.getElem_mem hlm)
          have hpv : parseV t.data.toList = .tuple #[.int .i64 0, .int .i64 0, .bool false] := by unfold parseV; rw [hpn]
          have HP := Lib.hid (Parse_says t _ hpv)
          have hct := hcell m hlm
          rw [ht] at hct
          have HCT := Lib.hid hct
          rw [← hb.cell (p := ⟨b, _, none⟩) hblt] at hct
          have hprev : Hid (0 < m → ∃ p : ByteArray, ¬ t.data.toList < p.data.toList ∧ w2.cell? ⟨b, off + (m - 1), none⟩ = some (.string p)) := Lib.hid (by
            intro h0
            refine ⟨X[m - 1], ?_, hcell (m - 1) (by omega)⟩
            have := List.pairwise_iff_getElem.1 hX.out (m - 1) m (by omega) hlm (by omega)
            rw [ht] at this
            exact List.not_lt.2 this)
          clear hpn hpv hcell ht
          go_wp2_with fail
          refine (HP.out _).mono ?_
          rintro e w3 ⟨rfl, hb3⟩
          have hb3' := hb.trans (hb3.mono hb.size)
          clear hb hb3 hct
          have hct := HCT.out
          rw [← hb3'.cell (p := ⟨b, _, none⟩) hblt] at hct
          rcases Nat.eq_zero_or_pos m with hm0 | hm0
          · have hq : ((m : Int) > 0) = False := by simp [hm0]
            have hR0 : 0 < X.length := by omega
            go_wp2_with fail
            go_region
            clear hq
            go_wp2_with fail
            go_roundg (X.length - (m + 1))
            case measure => omega
            case rel => exact ⟨m + 1, by omega, rfl, by go_num, hb3'.drew⟩
          · obtain ⟨p, hp, hpc⟩ := hprev.out hm0
            rw [← hb3'.cell (p := ⟨b, _, none⟩) hblt] at hpc
            have hsub : ((m : Int) - 1).toNat = m - 1 := by omega
            rcases gtr_not hp with hq1 | ⟨hq1, hq2⟩
            all_goals
              have HPP := Lib.hid hp; clear hp
              go_wp2_with fail
              go_region
              go_wp2_with fail
              go_roundg (X.length - (m + 1))
              case measure => omega
              case rel => exact ⟨m + 1, by omega, rfl, by go_num, hb3'.drew⟩
        · have hqe : ((told R ts : Int) + (X.length : Int) == (ts.length : Int)) = true := by simp; omega
          go_wp2_with fail
          go_ret
          exact ⟨ret_of (by simp), hb02.trans (hb.mono hb02.size)⟩

set_option maxRecDepth 100000 in
theorem NamesParts_walk {H : Type} {enc : TypeId × Value → H} {d : DataW H} {p : List MemPlace} {base : Nat} {ts : List TypeId} {ds : List (DataW H)} (w : World) (v : Value)
    (o : Value.okWide Tryd.prog w .any base 29 v) (k : DataW.Trod enc Tryd.prog w 0 (fun _ => true) true 29 v d p) (_lt : ∀ x ∈ p, x.block < w.heap.size)
    (_hsz : (DataW.weightsEach Tryd.prog ts ds).all (· ≤ reachBytes) = true) (htab : Tab w) :
    Calls Tryd.prog 7 #[v] w fun e w' => e = .returned (.bool true) ∧ Below w.heap.size w w' := by
  obtain ⟨ss, hv, _⟩ := strRow_of o k
  exact NamesParts_row w v ss hv htab
end Go.Proofs.YtbnplhbepkggpaaDoor.nm
