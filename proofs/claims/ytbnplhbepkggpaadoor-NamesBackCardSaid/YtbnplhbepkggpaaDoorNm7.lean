/- The walk of the law NamesBack. -/
import Derived.Test.YtbnplhbepkggpaaDoorNm6
namespace Go.Proofs.YtbnplhbepkggpaaDoor.nm
open Go Go.RowKit

theorem nameS_good (b k : Int) (h0 : 0 ≤ b) (h1 : b ≤ 4611686018427387904) (hk : endB k = true) : nameS b k = nameL b k ∧ nameE b k = 0 := by
  have h2 : ¬ (b < 0 ∨ b > 4611686018427387904) := by omega
  unfold nameS nameE; rw [if_neg h2, if_neg h2, if_pos hk, if_pos hk]; exact ⟨rfl, rfl⟩
theorem parseV_name (b k : Int) (h0 : 0 ≤ b) (h1 : b ≤ 4611686018427387904) (hk : endB k = true) : parseV (nameL b k) = .tuple #[.int .i64 b, .int .i64 k, .bool true] := by
  unfold parseV; rw [parse_name b k h0 h1 hk]
theorem endB_of (k : Int) (h0 : 0 ≤ k) (h1 : k ≤ 2) : endB k = true := by unfold endB; simp [h0, h1]
theorem endB_not (k : Int) (h : k < 0 ∨ k > 2) : endB k = false := by unfold endB; simp; omega
theorem nameE_lo (b k : Int) (h : b < 0) : nameE b k = 1 := by unfold nameE; rw [if_pos (Or.inl h)]
theorem nameE_hi (b k : Int) (h : b > 4611686018427387904) : nameE b k = 1 := by unfold nameE; rw [if_pos (Or.inr h)]
theorem nameE_kind (b k : Int) (h0 : 0 ≤ b) (h1 : b ≤ 4611686018427387904) (h : endB k = false) : nameE b k = 6 := by
  unfold nameE; rw [if_neg (by omega), if_neg (by rw [h]; simp)]

/-- Name's contract with what it answers under names. -/
theorem Name_as (b k : Int) (S : List UInt8) (E : Int) (hS : nameS b k = S) (hE : nameE b k = E) : ∀ w, Tab w →
    Calls Tryd.prog 10 #[.int .i64 b, .int .i64 k] w fun e w' => e = .returned (.tuple #[.string ⟨S.toArray⟩, .int .i64 E]) ∧ Below w.heap.size w w' := by
  intro w hw; rw [← hS, ← hE]; exact Name_any b k w hw
theorem Parse_as (l : List UInt8) (v : Value) (h : parseV l = v) : ∀ w, Calls Tryd.prog 12 #[.string ⟨l.toArray⟩] w fun e w' => e = .returned v ∧ Below w.heap.size w w' := by
  intro w; have := Parse_any ⟨l.toArray⟩ w; rwa [show (⟨l.toArray⟩ : ByteArray).data.toList = l from rfl, h] at this
theorem Parse_of (s : ByteArray) (v : Value) (h : parseV s.data.toList = v) : ∀ w, Calls Tryd.prog 12 #[.string s] w fun e w' => e = .returned v ∧ Below w.heap.size w w' := by
  intro w; have := Parse_any s w; rwa [h] at this


set_option maxRecDepth 100000 in
set_option maxHeartbeats 1000000 in
theorem back_lll (a b k : Int) (s : ByteArray) (ha : a < 0) (hb : b < 0) (hk : k < 0) (w : World) (htab : Tab w) :
    Calls Tryd.prog 5 #[.int .i64 a, .int .i64 b, .int .i64 k, .string s] w fun e w' => e = .returned (.bool true) ∧ Below w.heap.size w w' := by
  obtain ⟨SA, hSA⟩ : ∃ S, nameS a k = S := ⟨_, rfl⟩
  obtain ⟨SB, hSB⟩ : ∃ S, nameS b k = S := ⟨_, rfl⟩
  have NA := Lib.hid (Name_as a k SA 1 hSA (nameE_lo a k ha))
  have NB := Lib.hid (Name_as b k SB 1 hSB (nameE_lo b k hb))
  clear hSA hSB
  have HT := Lib.hid htab; clear htab
  cases hp : parseL s.data.toList with
  | none =>
    have PS := Lib.hid (Parse_of s (.tuple #[.int .i64 0, .int .i64 0, .bool false]) (by unfold parseV; rw [hp]))
    clear hp
    go_enter Tryd.func5, Tryd.ntmps5
    go_wp2_with fail
    refine (awake_any _ HT.out).mono ?_
    rintro e w1 ⟨rfl, hb1⟩
    have HT1 := Lib.hid (tab_below HT.out hb1)
    go_wp2_with fail
    refine (NA.out _ HT1.out).mono ?_
    rintro e w2 ⟨rfl, hb2⟩
    have hb2 := hb1.trans (hb2.mono hb1.size)
    have HT2 := Lib.hid (tab_below HT.out hb2)
    go_wp2_with fail
    refine (NB.out _ HT2.out).mono ?_
    rintro e w3 ⟨rfl, hb3⟩
    have hb4 := hb2.trans (hb3.mono hb2.size)
    have HT4 := Lib.hid (tab_below HT.out hb4)
    go_wp2_with fail
    refine (PS.out _).mono ?_
    rintro e w5 ⟨rfl, hb5⟩
    go_wp2
    go_ret
    exact ⟨rfl, hb4.trans (hb5.mono hb4.size)⟩
  | some x =>
    obtain ⟨B, K⟩ := x
    obtain ⟨q0, q1, q2, q3⟩ := name_parse _ _ _ hp
    have NS := Lib.hid (Name_as B K s.data.toList 0 ((nameS_good B K q0 q1 q2).1.trans q3) (nameS_good B K q0 q1 q2).2)
    have PS := Lib.hid (Parse_of s (.tuple #[.int .i64 B, .int .i64 K, .bool true]) (by unfold parseV; rw [hp]))
    clear hp q0 q1 q2 q3
    go_enter Tryd.func5, Tryd.ntmps5
    go_wp2_with fail
    refine (awake_any _ HT.out).mono ?_
    rintro e w1 ⟨rfl, hb1⟩
    have HT1 := Lib.hid (tab_below HT.out hb1)
    go_wp2_with fail
    refine (NA.out _ HT1.out).mono ?_
    rintro e w2 ⟨rfl, hb2⟩
    have hb2 := hb1.trans (hb2.mono hb1.size)
    have HT2 := Lib.hid (tab_below HT.out hb2)
    go_wp2_with fail
    refine (NB.out _ HT2.out).mono ?_
    rintro e w3 ⟨rfl, hb3⟩
    have hb4 := hb2.trans (hb3.mono hb2.size)
    have HT4 := Lib.hid (tab_below HT.out hb4)
    go_wp2_with fail
    refine (PS.out _).mono ?_
    rintro e w5 ⟨rfl, hb5⟩
    have HT5 := Lib.hid (tab_below HT4.out hb5)
    go_wp2_with fail
    refine (NS.out _ HT5.out).mono ?_
    rintro e w6 ⟨rfl, hb6⟩
    go_wp2
    go_ret
    exact ⟨rfl, hb4.trans ((hb5.trans (hb6.mono hb5.size)).mono hb4.size)⟩

set_option maxRecDepth 100000 in
set_option maxHeartbeats 1000000 in
theorem back_llg (a b k : Int) (s : ByteArray) (ha : a < 0) (hb : 0 ≤ b) (gb : b ≤ 4611686018427387904) (hk : k < 0) (w : World) (htab : Tab w) :
    Calls Tryd.prog 5 #[.int .i64 a, .int .i64 b, .int .i64 k, .string s] w fun e w' => e = .returned (.bool true) ∧ Below w.heap.size w w' := by
  obtain ⟨SA, hSA⟩ : ∃ S, nameS a k = S := ⟨_, rfl⟩
  obtain ⟨SB, hSB⟩ : ∃ S, nameS b k = S := ⟨_, rfl⟩
  have NA := Lib.hid (Name_as a k SA 1 hSA (nameE_lo a k ha))
  have NB := Lib.hid (Name_as b k SB 6 hSB (nameE_kind b k hb gb (endB_not k (by omega))))
  clear hSA hSB
  have HT := Lib.hid htab; clear htab
  cases hp : parseL s.data.toList with
  | none =>
    have PS := Lib.hid (Parse_of s (.tuple #[.int .i64 0, .int .i64 0, .bool false]) (by unfold parseV; rw [hp]))
    clear hp
    go_enter Tryd.func5, Tryd.ntmps5
    go_wp2_with fail
    refine (awake_any _ HT.out).mono ?_
    rintro e w1 ⟨rfl, hb1⟩
    have HT1 := Lib.hid (tab_below HT.out hb1)
    go_wp2_with fail
    refine (NA.out _ HT1.out).mono ?_
    rintro e w2 ⟨rfl, hb2⟩
    have hb2 := hb1.trans (hb2.mono hb1.size)
    have HT2 := Lib.hid (tab_below HT.out hb2)
    go_wp2_with fail
    refine (NB.out _ HT2.out).mono ?_
    rintro e w3 ⟨rfl, hb3⟩
    have hb4 := hb2.trans (hb3.mono hb2.size)
    have HT4 := Lib.hid (tab_below HT.out hb4)
    go_wp2_with fail
    refine (PS.out _).mono ?_
    rintro e w5 ⟨rfl, hb5⟩
    go_wp2
    go_ret
    exact ⟨rfl, hb4.trans (hb5.mono hb4.size)⟩
  | some x =>
    obtain ⟨B, K⟩ := x
    obtain ⟨q0, q1, q2, q3⟩ := name_parse _ _ _ hp
    have NS := Lib.hid (Name_as B K s.data.toList 0 ((nameS_good B K q0 q1 q2).1.trans q3) (nameS_good B K q0 q1 q2).2)
    have PS := Lib.hid (Parse_of s (.tuple #[.int .i64 B, .int .i64 K, .bool true]) (by unfold parseV; rw [hp]))
    clear hp q0 q1 q2 q3
    go_enter Tryd.func5, Tryd.ntmps5
    go_wp2_with fail
    refine (awake_any _ HT.out).mono ?_
    rintro e w1 ⟨rfl, hb1⟩
    have HT1 := Lib.hid (tab_below HT.out hb1)
    go_wp2_with fail
    refine (NA.out _ HT1.out).mono ?_
    rintro e w2 ⟨rfl, hb2⟩
    have hb2 := hb1.trans (hb2.mono hb1.size)
    have HT2 := Lib.hid (tab_below HT.out hb2)
    go_wp2_with fail
    refine (NB.out _ HT2.out).mono ?_
    rintro e w3 ⟨rfl, hb3⟩
    have hb4 := hb2.trans (hb3.mono hb2.size)
    have HT4 := Lib.hid (tab_below HT.out hb4)
    go_wp2_with fail
    refine (PS.out _).mono ?_
    rintro e w5 ⟨rfl, hb5⟩
    have HT5 := Lib.hid (tab_below HT4.out hb5)
    go_wp2_with fail
    refine (NS.out _ HT5.out).mono ?_
    rintro e w6 ⟨rfl, hb6⟩
    go_wp2
    go_ret
    exact ⟨rfl, hb4.trans ((hb5.trans (hb6.mono hb5.size)).mono hb4.size)⟩

set_option maxRecDepth 100000 in
set_option maxHeartbeats 1000000 in
theorem back_llh (a b k : Int) (s : ByteArray) (ha : a < 0) (hb : b > 4611686018427387904) (hk : k < 0) (w : World) (htab : Tab w) :
    Calls Tryd.prog 5 #[.int .i64 a, .int .i64 b, .int .i64 k, .string s] w fun e w' => e = .returned (.bool true) ∧ Below w.heap.size w w' := by
  obtain ⟨SA, hSA⟩ : ∃ S, nameS a k = S := ⟨_, rfl⟩
  obtain ⟨SB, hSB⟩ : ∃ S, nameS b k = S := ⟨_, rfl⟩
  have NA := Lib.hid (Name_as a k SA 1 hSA (nameE_lo a k ha))
  have NB := Lib.hid (Name_as b k SB 1 hSB (nameE_hi b k hb))
  clear hSA hSB
  have HT := Lib.hid htab; clear htab
  cases hp : parseL s.data.toList with
  | none =>
    have PS := Lib.hid (Parse_of s (.tuple #[.int .i64 0, .int .i64 0, .bool false]) (by unfold parseV; rw [hp]))
    clear hp
    go_enter Tryd.func5, Tryd.ntmps5
    go_wp2_with fail
    refine (awake_any _ HT.out).mono ?_
    rintro e w1 ⟨rfl, hb1⟩
    have HT1 := Lib.hid (tab_below HT.out hb1)
    go_wp2_with fail
    refine (NA.out _ HT1.out).mono ?_
    rintro e w2 ⟨rfl, hb2⟩
    have hb2 := hb1.trans (hb2.mono hb1.size)
    have HT2 := Lib.hid (tab_below HT.out hb2)
    go_wp2_with fail
    refine (NB.out _ HT2.out).mono ?_
    rintro e w3 ⟨rfl, hb3⟩
    have hb4 := hb2.trans (hb3.mono hb2.size)
    have HT4 := Lib.hid (tab_below HT.out hb4)
    go_wp2_with fail
    refine (PS.out _).mono ?_
    rintro e w5 ⟨rfl, hb5⟩
    go_wp2
    go_ret
    exact ⟨rfl, hb4.trans (hb5.mono hb4.size)⟩
  | some x =>
    obtain ⟨B, K⟩ := x
    obtain ⟨q0, q1, q2, q3⟩ := name_parse _ _ _ hp
    have NS := Lib.hid (Name_as B K s.data.toList 0 ((nameS_good B K q0 q1 q2).1.trans q3) (nameS_good B K q0 q1 q2).2)
    have PS := Lib.hid (Parse_of s (.tuple #[.int .i64 B, .int .i64 K, .bool true]) (by unfold parseV; rw [hp]))
    clear hp q0 q1 q2 q3
    go_enter Tryd.func5, Tryd.ntmps5
    go_wp2_with fail
    refine (awake_any _ HT.out).mono ?_
    rintro e w1 ⟨rfl, hb1⟩
    have HT1 := Lib.hid (tab_below HT.out hb1)
    go_wp2_with fail
    refine (NA.out _ HT1.out).mono ?_
    rintro e w2 ⟨rfl, hb2⟩
    have hb2 := hb1.trans (hb2.mono hb1.size)
    have HT2 := Lib.hid (tab_below HT.out hb2)
    go_wp2_with fail
    refine (NB.out _ HT2.out).mono ?_
    rintro e w3 ⟨rfl, hb3⟩
    have hb4 := hb2.trans (hb3.mono hb2.size)
    have HT4 := Lib.hid (tab_below HT.out hb4)
    go_wp2_with fail
    refine (PS.out _).mono ?_
    rintro e w5 ⟨rfl, hb5⟩
    have HT5 := Lib.hid (tab_below HT4.out hb5)
    go_wp2_with fail
    refine (NS.out _ HT5.out).mono ?_
    rintro e w6 ⟨rfl, hb6⟩
    go_wp2
    go_ret
    exact ⟨rfl, hb4.trans ((hb5.trans (hb6.mono hb5.size)).mono hb4.size)⟩

set_option maxRecDepth 100000 in
set_option maxHeartbeats 1000000 in
theorem back_lgl (a b k : Int) (s : ByteArray) (ha : 0 ≤ a) (ga : a ≤ 4611686018427387904) (hb : b < 0) (hk : k < 0) (w : World) (htab : Tab w) :
    Calls Tryd.prog 5 #[.int .i64 a, .int .i64 b, .int .i64 k, .string s] w fun e w' => e = .returned (.bool true) ∧ Below w.heap.size w w' := by
  obtain ⟨SA, hSA⟩ : ∃ S, nameS a k = S := ⟨_, rfl⟩
  obtain ⟨SB, hSB⟩ : ∃ S, nameS b k = S := ⟨_, rfl⟩
  have NA := Lib.hid (Name_as a k SA 6 hSA (nameE_kind a k ha ga (endB_not k (by omega))))
  have NB := Lib.hid (Name_as b k SB 1 hSB (nameE_lo b k hb))
  clear hSA hSB
  have HT := Lib.hid htab; clear htab
  cases hp : parseL s.data.toList with
  | none =>
    have PS := Lib.hid (Parse_of s (.tuple #[.int .i64 0, .int .i64 0, .bool false]) (by unfold parseV; rw [hp]))
    clear hp
    go_enter Tryd.func5, Tryd.ntmps5
    go_wp2_with fail
    refine (awake_any _ HT.out).mono ?_
    rintro e w1 ⟨rfl, hb1⟩
    have HT1 := Lib.hid (tab_below HT.out hb1)
    go_wp2_with fail
    refine (NA.out _ HT1.out).mono ?_
    rintro e w2 ⟨rfl, hb2⟩
    have hb2 := hb1.trans (hb2.mono hb1.size)
    have HT2 := Lib.hid (tab_below HT.out hb2)
    go_wp2_with fail
    refine (NB.out _ HT2.out).mono ?_
    rintro e w3 ⟨rfl, hb3⟩
    have hb4 := hb2.trans (hb3.mono hb2.size)
    have HT4 := Lib.hid (tab_below HT.out hb4)
    go_wp2_with fail
    refine (PS.out _).mono ?_
    rintro e w5 ⟨rfl, hb5⟩
    go_wp2
    go_ret
    exact ⟨rfl, hb4.trans (hb5.mono hb4.size)⟩
  | some x =>
    obtain ⟨B, K⟩ := x
    obtain ⟨q0, q1, q2, q3⟩ := name_parse _ _ _ hp
    have NS := Lib.hid (Name_as B K s.data.toList 0 ((nameS_good B K q0 q1 q2).1.trans q3) (nameS_good B K q0 q1 q2).2)
    have PS := Lib.hid (Parse_of s (.tuple #[.int .i64 B, .int .i64 K, .bool true]) (by unfold parseV; rw [hp]))
    clear hp q0 q1 q2 q3
    go_enter Tryd.func5, Tryd.ntmps5
    go_wp2_with fail
    refine (awake_any _ HT.out).mono ?_
    rintro e w1 ⟨rfl, hb1⟩
    have HT1 := Lib.hid (tab_below HT.out hb1)
    go_wp2_with fail
    refine (NA.out _ HT1.out).mono ?_
    rintro e w2 ⟨rfl, hb2⟩
    have hb2 := hb1.trans (hb2.mono hb1.size)
    have HT2 := Lib.hid (tab_below HT.out hb2)
    go_wp2_with fail
    refine (NB.out _ HT2.out).mono ?_
    rintro e w3 ⟨rfl, hb3⟩
    have hb4 := hb2.trans (hb3.mono hb2.size)
    have HT4 := Lib.hid (tab_below HT.out hb4)
    go_wp2_with fail
    refine (PS.out _).mono ?_
    rintro e w5 ⟨rfl, hb5⟩
    have HT5 := Lib.hid (tab_below HT4.out hb5)
    go_wp2_with fail
    refine (NS.out _ HT5.out).mono ?_
    rintro e w6 ⟨rfl, hb6⟩
    go_wp2
    go_ret
    exact ⟨rfl, hb4.trans ((hb5.trans (hb6.mono hb5.size)).mono hb4.size)⟩

set_option maxRecDepth 100000 in
set_option maxHeartbeats 1000000 in
theorem back_lgg (a b k : Int) (s : ByteArray) (ha : 0 ≤ a) (ga : a ≤ 4611686018427387904) (hb : 0 ≤ b) (gb : b ≤ 4611686018427387904) (hk : k < 0) (w : World) (htab : Tab w) :
    Calls Tryd.prog 5 #[.int .i64 a, .int .i64 b, .int .i64 k, .string s] w fun e w' => e = .returned (.bool true) ∧ Below w.heap.size w w' := by
  obtain ⟨SA, hSA⟩ : ∃ S, nameS a k = S := ⟨_, rfl⟩
  obtain ⟨SB, hSB⟩ : ∃ S, nameS b k = S := ⟨_, rfl⟩
  have NA := Lib.hid (Name_as a k SA 6 hSA (nameE_kind a k ha ga (endB_not k (by omega))))
  have NB := Lib.hid (Name_as b k SB 6 hSB (nameE_kind b k hb gb (endB_not k (by omega))))
  clear hSA hSB
  have HT := Lib.hid htab; clear htab
  cases hp : parseL s.data.toList with
  | none =>
    have PS := Lib.hid (Parse_of s (.tuple #[.int .i64 0, .int .i64 0, .bool false]) (by unfold parseV; rw [hp]))
    clear hp
    go_enter Tryd.func5, Tryd.ntmps5
    go_wp2_with fail
    refine (awake_any _ HT.out).mono ?_
    rintro e w1 ⟨rfl, hb1⟩
    have HT1 := Lib.hid (tab_below HT.out hb1)
    go_wp2_with fail
    refine (NA.out _ HT1.out).mono ?_
    rintro e w2 ⟨rfl, hb2⟩
    have hb2 := hb1.trans (hb2.mono hb1.size)
    have HT2 := Lib.hid (tab_below HT.out hb2)
    go_wp2_with fail
    refine (NB.out _ HT2.out).mono ?_
    rintro e w3 ⟨rfl, hb3⟩
    have hb4 := hb2.trans (hb3.mono hb2.size)
    have HT4 := Lib.hid (tab_below HT.out hb4)
    go_wp2_with fail
    refine (PS.out _).mono ?_
    rintro e w5 ⟨rfl, hb5⟩
    go_wp2
    go_ret
    exact ⟨rfl, hb4.trans (hb5.mono hb4.size)⟩
  | some x =>
    obtain ⟨B, K⟩ := x
    obtain ⟨q0, q1, q2, q3⟩ := name_parse _ _ _ hp
    have NS := Lib.hid (Name_as B K s.data.toList 0 ((nameS_good B K q0 q1 q2).1.trans q3) (nameS_good B K q0 q1 q2).2)
    have PS := Lib.hid (Parse_of s (.tuple #[.int .i64 B, .int .i64 K, .bool true]) (by unfold parseV; rw [hp]))
    clear hp q0 q1 q2 q3
    go_enter Tryd.func5, Tryd.ntmps5
    go_wp2_with fail
    refine (awake_any _ HT.out).mono ?_
    rintro e w1 ⟨rfl, hb1⟩
    have HT1 := Lib.hid (tab_below HT.out hb1)
    go_wp2_with fail
    refine (NA.out _ HT1.out).mono ?_
    rintro e w2 ⟨rfl, hb2⟩
    have hb2 := hb1.trans (hb2.mono hb1.size)
    have HT2 := Lib.hid (tab_below HT.out hb2)
    go_wp2_with fail
    refine (NB.out _ HT2.out).mono ?_
    rintro e w3 ⟨rfl, hb3⟩
    have hb4 := hb2.trans (hb3.mono hb2.size)
    have HT4 := Lib.hid (tab_below HT.out hb4)
    go_wp2_with fail
    refine (PS.out _).mono ?_
    rintro e w5 ⟨rfl, hb5⟩
    have HT5 := Lib.hid (tab_below HT4.out hb5)
    go_wp2_with fail
    refine (NS.out _ HT5.out).mono ?_
    rintro e w6 ⟨rfl, hb6⟩
    go_wp2
    go_ret
    exact ⟨rfl, hb4.trans ((hb5.trans (hb6.mono hb5.size)).mono hb4.size)⟩

set_option maxRecDepth 100000 in
set_option maxHeartbeats 1000000 in
theorem back_lgh (a b k : Int) (s : ByteArray) (ha : 0 ≤ a) (ga : a ≤ 4611686018427387904) (hb : b > 4611686018427387904) (hk : k < 0) (w : World) (htab : Tab w) :
    Calls Tryd.prog 5 #[.int .i64 a, .int .i64 b, .int .i64 k, .string s] w fun e w' => e = .returned (.bool true) ∧ Below w.heap.size w w' := by
  obtain ⟨SA, hSA⟩ : ∃ S, nameS a k = S := ⟨_, rfl⟩
  obtain ⟨SB, hSB⟩ : ∃ S, nameS b k = S := ⟨_, rfl⟩
  have NA := Lib.hid (Name_as a k SA 6 hSA (nameE_kind a k ha ga (endB_not k (by omega))))
  have NB := Lib.hid (Name_as b k SB 1 hSB (nameE_hi b k hb))
  clear hSA hSB
  have HT := Lib.hid htab; clear htab
  cases hp : parseL s.data.toList with
  | none =>
    have PS := Lib.hid (Parse_of s (.tuple #[.int .i64 0, .int .i64 0, .bool false]) (by unfold parseV; rw [hp]))
    clear hp
    go_enter Tryd.func5, Tryd.ntmps5
    go_wp2_with fail
    refine (awake_any _ HT.out).mono ?_
    rintro e w1 ⟨rfl, hb1⟩
    have HT1 := Lib.hid (tab_below HT.out hb1)
    go_wp2_with fail
    refine (NA.out _ HT1.out).mono ?_
    rintro e w2 ⟨rfl, hb2⟩
    have hb2 := hb1.trans (hb2.mono hb1.size)
    have HT2 := Lib.hid (tab_below HT.out hb2)
    go_wp2_with fail
    refine (NB.out _ HT2.out).mono ?_
    rintro e w3 ⟨rfl, hb3⟩
    have hb4 := hb2.trans (hb3.mono hb2.size)
    have HT4 := Lib.hid (tab_below HT.out hb4)
    go_wp2_with fail
    refine (PS.out _).mono ?_
    rintro e w5 ⟨rfl, hb5⟩
    go_wp2
    go_ret
    exact ⟨rfl, hb4.trans (hb5.mono hb4.size)⟩
  | some x =>
    obtain ⟨B, K⟩ := x
    obtain ⟨q0, q1, q2, q3⟩ := name_parse _ _ _ hp
    have NS := Lib.hid (Name_as B K s.data.toList 0 ((nameS_good B K q0 q1 q2).1.trans q3) (nameS_good B K q0 q1 q2).2)
    have PS := Lib.hid (Parse_of s (.tuple #[.int .i64 B, .int .i64 K, .bool true]) (by unfold parseV; rw [hp]))
    clear hp q0 q1 q2 q3
    go_enter Tryd.func5, Tryd.ntmps5
    go_wp2_with fail
    refine (awake_any _ HT.out).mono ?_
    rintro e w1 ⟨rfl, hb1⟩
    have HT1 := Lib.hid (tab_below HT.out hb1)
    go_wp2_with fail
    refine (NA.out _ HT1.out).mono ?_
    rintro e w2 ⟨rfl, hb2⟩
    have hb2 := hb1.trans (hb2.mono hb1.size)
    have HT2 := Lib.hid (tab_below HT.out hb2)
    go_wp2_with fail
    refine (NB.out _ HT2.out).mono ?_
    rintro e w3 ⟨rfl, hb3⟩
    have hb4 := hb2.trans (hb3.mono hb2.size)
    have HT4 := Lib.hid (tab_below HT.out hb4)
    go_wp2_with fail
    refine (PS.out _).mono ?_
    rintro e w5 ⟨rfl, hb5⟩
    have HT5 := Lib.hid (tab_below HT4.out hb5)
    go_wp2_with fail
    refine (NS.out _ HT5.out).mono ?_
    rintro e w6 ⟨rfl, hb6⟩
    go_wp2
    go_ret
    exact ⟨rfl, hb4.trans ((hb5.trans (hb6.mono hb5.size)).mono hb4.size)⟩

set_option maxRecDepth 100000 in
set_option maxHeartbeats 1000000 in
theorem back_lhl (a b k : Int) (s : ByteArray) (ha : a > 4611686018427387904) (hb : b < 0) (hk : k < 0) (w : World) (htab : Tab w) :
    Calls Tryd.prog 5 #[.int .i64 a, .int .i64 b, .int .i64 k, .string s] w fun e w' => e = .returned (.bool true) ∧ Below w.heap.size w w' := by
  obtain ⟨SA, hSA⟩ : ∃ S, nameS a k = S := ⟨_, rfl⟩
  obtain ⟨SB, hSB⟩ : ∃ S, nameS b k = S := ⟨_, rfl⟩
  have NA := Lib.hid (Name_as a k SA 1 hSA (nameE_hi a k ha))
  have NB := Lib.hid (Name_as b k SB 1 hSB (nameE_lo b k hb))
  clear hSA hSB
  have HT := Lib.hid htab; clear htab
  cases hp : parseL s.data.toList with
  | none =>
    have PS := Lib.hid (Parse_of s (.tuple #[.int .i64 0, .int .i64 0, .bool false]) (by unfold parseV; rw [hp]))
    clear hp
    go_enter Tryd.func5, Tryd.ntmps5
    go_wp2_with fail
    refine (awake_any _ HT.out).mono ?_
    rintro e w1 ⟨rfl, hb1⟩
    have HT1 := Lib.hid (tab_below HT.out hb1)
    go_wp2_with fail
    refine (NA.out _ HT1.out).mono ?_
    rintro e w2 ⟨rfl, hb2⟩
    have hb2 := hb1.trans (hb2.mono hb1.size)
    have HT2 := Lib.hid (tab_below HT.out hb2)
    go_wp2_with fail
    refine (NB.out _ HT2.out).mono ?_
    rintro e w3 ⟨rfl, hb3⟩
    have hb4 := hb2.trans (hb3.mono hb2.size)
    have HT4 := Lib.hid (tab_below HT.out hb4)
    go_wp2_with fail
    refine (PS.out _).mono ?_
    rintro e w5 ⟨rfl, hb5⟩
    go_wp2
    go_ret
    exact ⟨rfl, hb4.trans (hb5.mono hb4.size)⟩
  | some x =>
    obtain ⟨B, K⟩ := x
    obtain ⟨q0, q1, q2, q3⟩ := name_parse _ _ _ hp
    have NS := Lib.hid (Name_as B K s.data.toList 0 ((nameS_good B K q0 q1 q2).1.trans q3) (nameS_good B K q0 q1 q2).2)
    have PS := Lib.hid (Parse_of s (.tuple #[.int .i64 B, .int .i64 K, .bool true]) (by unfold parseV; rw [hp]))
    clear hp q0 q1 q2 q3
    go_enter Tryd.func5, Tryd.ntmps5
    go_wp2_with fail
    refine (awake_any _ HT.out).mono ?_
    rintro e w1 ⟨rfl, hb1⟩
    have HT1 := Lib.hid (tab_below HT.out hb1)
    go_wp2_with fail
    refine (NA.out _ HT1.out).mono ?_
    rintro e w2 ⟨rfl, hb2⟩
    have hb2 := hb1.trans (hb2.mono hb1.size)
    have HT2 := Lib.hid (tab_below HT.out hb2)
    go_wp2_with fail
    refine (NB.out _ HT2.out).mono ?_
    rintro e w3 ⟨rfl, hb3⟩
    have hb4 := hb2.trans (hb3.mono hb2.size)
    have HT4 := Lib.hid (tab_below HT.out hb4)
    go_wp2_with fail
    refine (PS.out _).mono ?_
    rintro e w5 ⟨rfl, hb5⟩
    have HT5 := Lib.hid (tab_below HT4.out hb5)
    go_wp2_with fail
    refine (NS.out _ HT5.out).mono ?_
    rintro e w6 ⟨rfl, hb6⟩
    go_wp2
    go_ret
    exact ⟨rfl, hb4.trans ((hb5.trans (hb6.mono hb5.size)).mono hb4.size)⟩

set_option maxRecDepth 100000 in
set_option maxHeartbeats 1000000 in
theorem back_lhg (a b k : Int) (s : ByteArray) (ha : a > 4611686018427387904) (hb : 0 ≤ b) (gb : b ≤ 4611686018427387904) (hk : k < 0) (w : World) (htab : Tab w) :
    Calls Tryd.prog 5 #[.int .i64 a, .int .i64 b, .int .i64 k, .string s] w fun e w' => e = .returned (.bool true) ∧ Below w.heap.size w w' := by
  obtain ⟨SA, hSA⟩ : ∃ S, nameS a k = S := ⟨_, rfl⟩
  obtain ⟨SB, hSB⟩ : ∃ S, nameS b k = S := ⟨_, rfl⟩
  have NA := Lib.hid (Name_as a k SA 1 hSA (nameE_hi a k ha))
  have NB := Lib.hid (Name_as b k SB 6 hSB (nameE_kind b k hb gb (endB_not k (by omega))))
  clear hSA hSB
  have HT := Lib.hid htab; clear htab
  cases hp : parseL s.data.toList with
  | none =>
    have PS := Lib.hid (Parse_of s (.tuple #[.int .i64 0, .int .i64 0, .bool false]) (by unfold parseV; rw [hp]))
    clear hp
    go_enter Tryd.func5, Tryd.ntmps5
    go_wp2_with fail
    refine (awake_any _ HT.out).mono ?_
    rintro e w1 ⟨rfl, hb1⟩
    have HT1 := Lib.hid (tab_below HT.out hb1)
    go_wp2_with fail
    refine (NA.out _ HT1.out).mono ?_
    rintro e w2 ⟨rfl, hb2⟩
    have hb2 := hb1.trans (hb2.mono hb1.size)
    have HT2 := Lib.hid (tab_below HT.out hb2)
    go_wp2_with fail
    refine (NB.out _ HT2.out).mono ?_
    rintro e w3 ⟨rfl, hb3⟩
    have hb4 := hb2.trans (hb3.mono hb2.size)
    have HT4 := Lib.hid (tab_below HT.out hb4)
    go_wp2_with fail
    refine (PS.out _).mono ?_
    rintro e w5 ⟨rfl, hb5⟩
    go_wp2
    go_ret
    exact ⟨rfl, hb4.trans (hb5.mono hb4.size)⟩
  | some x =>
    obtain ⟨B, K⟩ := x
    obtain ⟨q0, q1, q2, q3⟩ := name_parse _ _ _ hp
    have NS := Lib.hid (Name_as B K s.data.toList 0 ((nameS_good B K q0 q1 q2).1.trans q3) (nameS_good B K q0 q1 q2).2)
    have PS := Lib.hid (Parse_of s (.tuple #[.int .i64 B, .int .i64 K, .bool true]) (by unfold parseV; rw [hp]))
    clear hp q0 q1 q2 q3
    go_enter Tryd.func5, Tryd.ntmps5
    go_wp2_with fail
    refine (awake_any _ HT.out).mono ?_
    rintro e w1 ⟨rfl, hb1⟩
    have HT1 := Lib.hid (tab_below HT.out hb1)
    go_wp2_with fail
    refine (NA.out _ HT1.out).mono ?_
    rintro e w2 ⟨rfl, hb2⟩
    have hb2 := hb1.trans (hb2.mono hb1.size)
    have HT2 := Lib.hid (tab_below HT.out hb2)
    go_wp2_with fail
    refine (NB.out _ HT2.out).mono ?_
    rintro e w3 ⟨rfl, hb3⟩
    have hb4 := hb2.trans (hb3.mono hb2.size)
    have HT4 := Lib.hid (tab_below HT.out hb4)
    go_wp2_with fail
    refine (PS.out _).mono ?_
    rintro e w5 ⟨rfl, hb5⟩
    have HT5 := Lib.hid (tab_below HT4.out hb5)
    go_wp2_with fail
    refine (NS.out _ HT5.out).mono ?_
    rintro e w6 ⟨rfl, hb6⟩
    go_wp2
    go_ret
    exact ⟨rfl, hb4.trans ((hb5.trans (hb6.mono hb5.size)).mono hb4.size)⟩

set_option maxRecDepth 100000 in
set_option maxHeartbeats 1000000 in
theorem back_lhh (a b k : Int) (s : ByteArray) (ha : a > 4611686018427387904) (hb : b > 4611686018427387904) (hk : k < 0) (w : World) (htab : Tab w) :
    Calls Tryd.prog 5 #[.int .i64 a, .int .i64 b, .int .i64 k, .string s] w fun e w' => e = .returned (.bool true) ∧ Below w.heap.size w w' := by
  obtain ⟨SA, hSA⟩ : ∃ S, nameS a k = S := ⟨_, rfl⟩
  obtain ⟨SB, hSB⟩ : ∃ S, nameS b k = S := ⟨_, rfl⟩
  have NA := Lib.hid (Name_as a k SA 1 hSA (nameE_hi a k ha))
  have NB := Lib.hid (Name_as b k SB 1 hSB (nameE_hi b k hb))
  clear hSA hSB
  have HT := Lib.hid htab; clear htab
  cases hp : parseL s.data.toList with
  | none =>
    have PS := Lib.hid (Parse_of s (.tuple #[.int .i64 0, .int .i64 0, .bool false]) (by unfold parseV; rw [hp]))
    clear hp
    go_enter Tryd.func5, Tryd.ntmps5
    go_wp2_with fail
    refine (awake_any _ HT.out).mono ?_
    rintro e w1 ⟨rfl, hb1⟩
    have HT1 := Lib.hid (tab_below HT.out hb1)
    go_wp2_with fail
    refine (NA.out _ HT1.out).mono ?_
    rintro e w2 ⟨rfl, hb2⟩
    have hb2 := hb1.trans (hb2.mono hb1.size)
    have HT2 := Lib.hid (tab_below HT.out hb2)
    go_wp2_with fail
    refine (NB.out _ HT2.out).mono ?_
    rintro e w3 ⟨rfl, hb3⟩
    have hb4 := hb2.trans (hb3.mono hb2.size)
    have HT4 := Lib.hid (tab_below HT.out hb4)
    go_wp2_with fail
    refine (PS.out _).mono ?_
    rintro e w5 ⟨rfl, hb5⟩
    go_wp2
    go_ret
    exact ⟨rfl, hb4.trans (hb5.mono hb4.size)⟩
  | some x =>
    obtain ⟨B, K⟩ := x
    obtain ⟨q0, q1, q2, q3⟩ := name_parse _ _ _ hp
    have NS := Lib.hid (Name_as B K s.data.toList 0 ((nameS_good B K q0 q1 q2).1.trans q3) (nameS_good B K q0 q1 q2).2)
    have PS := Lib.hid (Parse_of s (.tuple #[.int .i64 B, .int .i64 K, .bool true]) (by unfold parseV; rw [hp]))
    clear hp q0 q1 q2 q3
    go_enter Tryd.func5, Tryd.ntmps5
    go_wp2_with fail
    refine (awake_any _ HT.out).mono ?_
    rintro e w1 ⟨rfl, hb1⟩
    have HT1 := Lib.hid (tab_below HT.out hb1)
    go_wp2_with fail
    refine (NA.out _ HT1.out).mono ?_
    rintro e w2 ⟨rfl, hb2⟩
    have hb2 := hb1.trans (hb2.mono hb1.size)
    have HT2 := Lib.hid (tab_below HT.out hb2)
    go_wp2_with fail
    refine (NB.out _ HT2.out).mono ?_
    rintro e w3 ⟨rfl, hb3⟩
    have hb4 := hb2.trans (hb3.mono hb2.size)
    have HT4 := Lib.hid (tab_below HT.out hb4)
    go_wp2_with fail
    refine (PS.out _).mono ?_
    rintro e w5 ⟨rfl, hb5⟩
    have HT5 := Lib.hid (tab_below HT4.out hb5)
    go_wp2_with fail
    refine (NS.out _ HT5.out).mono ?_
    rintro e w6 ⟨rfl, hb6⟩
    go_wp2
    go_ret
    exact ⟨rfl, hb4.trans ((hb5.trans (hb6.mono hb5.size)).mono hb4.size)⟩

set_option maxRecDepth 100000 in
set_option maxHeartbeats 1000000 in
theorem back_gll (a b k : Int) (s : ByteArray) (ha : a < 0) (hb : b < 0) (hk : 0 ≤ k) (gk : k ≤ 2) (w : World) (htab : Tab w) :
    Calls Tryd.prog 5 #[.int .i64 a, .int .i64 b, .int .i64 k, .string s] w fun e w' => e = .returned (.bool true) ∧ Below w.heap.size w w' := by
  obtain ⟨SA, hSA⟩ : ∃ S, nameS a k = S := ⟨_, rfl⟩
  obtain ⟨SB, hSB⟩ : ∃ S, nameS b k = S := ⟨_, rfl⟩
  have NA := Lib.hid (Name_as a k SA 1 hSA (nameE_lo a k ha))
  have NB := Lib.hid (Name_as b k SB 1 hSB (nameE_lo b k hb))
  clear hSA hSB
  have HT := Lib.hid htab; clear htab
  cases hp : parseL s.data.toList with
  | none =>
    have PS := Lib.hid (Parse_of s (.tuple #[.int .i64 0, .int .i64 0, .bool false]) (by unfold parseV; rw [hp]))
    clear hp
    go_enter Tryd.func5, Tryd.ntmps5
    go_wp2_with fail
    refine (awake_any _ HT.out).mono ?_
    rintro e w1 ⟨rfl, hb1⟩
    have HT1 := Lib.hid (tab_below HT.out hb1)
    go_wp2_with fail
    refine (NA.out _ HT1.out).mono ?_
    rintro e w2 ⟨rfl, hb2⟩
    have hb2 := hb1.trans (hb2.mono hb1.size)
    have HT2 := Lib.hid (tab_below HT.out hb2)
    go_wp2_with fail
    refine (NB.out _ HT2.out).mono ?_
    rintro e w3 ⟨rfl, hb3⟩
    have hb4 := hb2.trans (hb3.mono hb2.size)
    have HT4 := Lib.hid (tab_below HT.out hb4)
    go_wp2_with fail
    refine (PS.out _).mono ?_
    rintro e w5 ⟨rfl, hb5⟩
    go_wp2
    go_ret
    exact ⟨rfl, hb4.trans (hb5.mono hb4.size)⟩
  | some x =>
    obtain ⟨B, K⟩ := x
    obtain ⟨q0, q1, q2, q3⟩ := name_parse _ _ _ hp
    have NS := Lib.hid (Name_as B K s.data.toList 0 ((nameS_good B K q0 q1 q2).1.trans q3) (nameS_good B K q0 q1 q2).2)
    have PS := Lib.hid (Parse_of s (.tuple #[.int .i64 B, .int .i64 K, .bool true]) (by unfold parseV; rw [hp]))
    clear hp q0 q1 q2 q3
    go_enter Tryd.func5, Tryd.ntmps5
    go_wp2_with fail
    refine (awake_any _ HT.out).mono ?_
    rintro e w1 ⟨rfl, hb1⟩
    have HT1 := Lib.hid (tab_below HT.out hb1)
    go_wp2_with fail
    refine (NA.out _ HT1.out).mono ?_
    rintro e w2 ⟨rfl, hb2⟩
    have hb2 := hb1.trans (hb2.mono hb1.size)
    have HT2 := Lib.hid (tab_below HT.out hb2)
    go_wp2_with fail
    refine (NB.out _ HT2.out).mono ?_
    rintro e w3 ⟨rfl, hb3⟩
    have hb4 := hb2.trans (hb3.mono hb2.size)
    have HT4 := Lib.hid (tab_below HT.out hb4)
    go_wp2_with fail
    refine (PS.out _).mono ?_
    rintro e w5 ⟨rfl, hb5⟩
    have HT5 := Lib.hid (tab_below HT4.out hb5)
    go_wp2_with fail
    refine (NS.out _ HT5.out).mono ?_
    rintro e w6 ⟨rfl, hb6⟩
    go_wp2
    go_ret
    exact ⟨rfl, hb4.trans ((hb5.trans (hb6.mono hb5.size)).mono hb4.size)⟩

set_option maxRecDepth 100000 in
set_option maxHeartbeats 1000000 in
theorem back_glg (a b k : Int) (s : ByteArray) (ha : a < 0) (hb : 0 ≤ b) (gb : b ≤ 4611686018427387904) (hk : 0 ≤ k) (gk : k ≤ 2) (w : World) (htab : Tab w) :
    Calls Tryd.prog 5 #[.int .i64 a, .int .i64 b, .int .i64 k, .string s] w fun e w' => e = .returned (.bool true) ∧ Below w.heap.size w w' := by
  obtain ⟨SA, hSA⟩ : ∃ S, nameS a k = S := ⟨_, rfl⟩
  obtain ⟨SB, hSB⟩ : ∃ S, nameS b k = S := ⟨_, rfl⟩
  have NA := Lib.hid (Name_as a k SA 1 hSA (nameE_lo a k ha))
  have NB := Lib.hid (Name_as b k SB 0 hSB ((nameS_good b k hb gb (endB_of k hk gk)).2))
  clear hSA hSB
  have HT := Lib.hid htab; clear htab
  cases hp : parseL s.data.toList with
  | none =>
    have PS := Lib.hid (Parse_of s (.tuple #[.int .i64 0, .int .i64 0, .bool false]) (by unfold parseV; rw [hp]))
    clear hp
    go_enter Tryd.func5, Tryd.ntmps5
    go_wp2_with fail
    refine (awake_any _ HT.out).mono ?_
    rintro e w1 ⟨rfl, hb1⟩
    have HT1 := Lib.hid (tab_below HT.out hb1)
    go_wp2_with fail
    refine (NA.out _ HT1.out).mono ?_
    rintro e w2 ⟨rfl, hb2⟩
    have hb2 := hb1.trans (hb2.mono hb1.size)
    have HT2 := Lib.hid (tab_below HT.out hb2)
    go_wp2_with fail
    refine (NB.out _ HT2.out).mono ?_
    rintro e w3 ⟨rfl, hb3⟩
    have hb4 := hb2.trans (hb3.mono hb2.size)
    have HT4 := Lib.hid (tab_below HT.out hb4)
    go_wp2_with fail
    refine (PS.out _).mono ?_
    rintro e w5 ⟨rfl, hb5⟩
    go_wp2
    go_ret
    exact ⟨rfl, hb4.trans (hb5.mono hb4.size)⟩
  | some x =>
    obtain ⟨B, K⟩ := x
    obtain ⟨q0, q1, q2, q3⟩ := name_parse _ _ _ hp
    have NS := Lib.hid (Name_as B K s.data.toList 0 ((nameS_good B K q0 q1 q2).1.trans q3) (nameS_good B K q0 q1 q2).2)
    have PS := Lib.hid (Parse_of s (.tuple #[.int .i64 B, .int .i64 K, .bool true]) (by unfold parseV; rw [hp]))
    clear hp q0 q1 q2 q3
    go_enter Tryd.func5, Tryd.ntmps5
    go_wp2_with fail
    refine (awake_any _ HT.out).mono ?_
    rintro e w1 ⟨rfl, hb1⟩
    have HT1 := Lib.hid (tab_below HT.out hb1)
    go_wp2_with fail
    refine (NA.out _ HT1.out).mono ?_
    rintro e w2 ⟨rfl, hb2⟩
    have hb2 := hb1.trans (hb2.mono hb1.size)
    have HT2 := Lib.hid (tab_below HT.out hb2)
    go_wp2_with fail
    refine (NB.out _ HT2.out).mono ?_
    rintro e w3 ⟨rfl, hb3⟩
    have hb4 := hb2.trans (hb3.mono hb2.size)
    have HT4 := Lib.hid (tab_below HT.out hb4)
    go_wp2_with fail
    refine (PS.out _).mono ?_
    rintro e w5 ⟨rfl, hb5⟩
    have HT5 := Lib.hid (tab_below HT4.out hb5)
    go_wp2_with fail
    refine (NS.out _ HT5.out).mono ?_
    rintro e w6 ⟨rfl, hb6⟩
    go_wp2
    go_ret
    exact ⟨rfl, hb4.trans ((hb5.trans (hb6.mono hb5.size)).mono hb4.size)⟩

set_option maxRecDepth 100000 in
set_option maxHeartbeats 1000000 in
theorem back_glh (a b k : Int) (s : ByteArray) (ha : a < 0) (hb : b > 4611686018427387904) (hk : 0 ≤ k) (gk : k ≤ 2) (w : World) (htab : Tab w) :
    Calls Tryd.prog 5 #[.int .i64 a, .int .i64 b, .int .i64 k, .string s] w fun e w' => e = .returned (.bool true) ∧ Below w.heap.size w w' := by
  obtain ⟨SA, hSA⟩ : ∃ S, nameS a k = S := ⟨_, rfl⟩
  obtain ⟨SB, hSB⟩ : ∃ S, nameS b k = S := ⟨_, rfl⟩
  have NA := Lib.hid (Name_as a k SA 1 hSA (nameE_lo a k ha))
  have NB := Lib.hid (Name_as b k SB 1 hSB (nameE_hi b k hb))
  clear hSA hSB
  have HT := Lib.hid htab; clear htab
  cases hp : parseL s.data.toList with
  | none =>
    have PS := Lib.hid (Parse_of s (.tuple #[.int .i64 0, .int .i64 0, .bool false]) (by unfold parseV; rw [hp]))
    clear hp
    go_enter Tryd.func5, Tryd.ntmps5
    go_wp2_with fail
    refine (awake_any _ HT.out).mono ?_
    rintro e w1 ⟨rfl, hb1⟩
    have HT1 := Lib.hid (tab_below HT.out hb1)
    go_wp2_with fail
    refine (NA.out _ HT1.out).mono ?_
    rintro e w2 ⟨rfl, hb2⟩
    have hb2 := hb1.trans (hb2.mono hb1.size)
    have HT2 := Lib.hid (tab_below HT.out hb2)
    go_wp2_with fail
    refine (NB.out _ HT2.out).mono ?_
    rintro e w3 ⟨rfl, hb3⟩
    have hb4 := hb2.trans (hb3.mono hb2.size)
    have HT4 := Lib.hid (tab_below HT.out hb4)
    go_wp2_with fail
    refine (PS.out _).mono ?_
    rintro e w5 ⟨rfl, hb5⟩
    go_wp2
    go_ret
    exact ⟨rfl, hb4.trans (hb5.mono hb4.size)⟩
  | some x =>
    obtain ⟨B, K⟩ := x
    obtain ⟨q0, q1, q2, q3⟩ := name_parse _ _ _ hp
    have NS := Lib.hid (Name_as B K s.data.toList 0 ((nameS_good B K q0 q1 q2).1.trans q3) (nameS_good B K q0 q1 q2).2)
    have PS := Lib.hid (Parse_of s (.tuple #[.int .i64 B, .int .i64 K, .bool true]) (by unfold parseV; rw [hp]))
    clear hp q0 q1 q2 q3
    go_enter Tryd.func5, Tryd.ntmps5
    go_wp2_with fail
    refine (awake_any _ HT.out).mono ?_
    rintro e w1 ⟨rfl, hb1⟩
    have HT1 := Lib.hid (tab_below HT.out hb1)
    go_wp2_with fail
    refine (NA.out _ HT1.out).mono ?_
    rintro e w2 ⟨rfl, hb2⟩
    have hb2 := hb1.trans (hb2.mono hb1.size)
    have HT2 := Lib.hid (tab_below HT.out hb2)
    go_wp2_with fail
    refine (NB.out _ HT2.out).mono ?_
    rintro e w3 ⟨rfl, hb3⟩
    have hb4 := hb2.trans (hb3.mono hb2.size)
    have HT4 := Lib.hid (tab_below HT.out hb4)
    go_wp2_with fail
    refine (PS.out _).mono ?_
    rintro e w5 ⟨rfl, hb5⟩
    have HT5 := Lib.hid (tab_below HT4.out hb5)
    go_wp2_with fail
    refine (NS.out _ HT5.out).mono ?_
    rintro e w6 ⟨rfl, hb6⟩
    go_wp2
    go_ret
    exact ⟨rfl, hb4.trans ((hb5.trans (hb6.mono hb5.size)).mono hb4.size)⟩

set_option maxRecDepth 100000 in
set_option maxHeartbeats 1000000 in
theorem back_ggl (a b k : Int) (s : ByteArray) (ha : 0 ≤ a) (ga : a ≤ 4611686018427387904) (hb : b < 0) (hk : 0 ≤ k) (gk : k ≤ 2) (w : World) (htab : Tab w) :
    Calls Tryd.prog 5 #[.int .i64 a, .int .i64 b, .int .i64 k, .string s] w fun e w' => e = .returned (.bool true) ∧ Below w.heap.size w w' := by
  obtain ⟨SA, hSA⟩ : ∃ S, nameS a k = S := ⟨_, rfl⟩
  obtain ⟨SB, hSB⟩ : ∃ S, nameS b k = S := ⟨_, rfl⟩
  have NA := Lib.hid (Name_as a k SA 0 hSA ((nameS_good a k ha ga (endB_of k hk gk)).2))
  have NB := Lib.hid (Name_as b k SB 1 hSB (nameE_lo b k hb))
  have hA : SA = nameL a k := by rw [← hSA]; exact (nameS_good a k ha ga (endB_of k hk gk)).1
  have hAl : SA.length = 24 := by rw [hA]; exact nameL_len a k (endB_of k hk gk)
  have PA := Lib.hid (Parse_as SA (.tuple #[.int .i64 a, .int .i64 k, .bool true]) (by rw [hA]; exact parseV_name a k ha ga (endB_of k hk gk)))
  clear hA
  clear hSA hSB
  have HT := Lib.hid htab; clear htab
  cases hp : parseL s.data.toList with
  | none =>
    have PS := Lib.hid (Parse_of s (.tuple #[.int .i64 0, .int .i64 0, .bool false]) (by unfold parseV; rw [hp]))
    clear hp
    go_enter Tryd.func5, Tryd.ntmps5
    go_wp2_with fail
    refine (awake_any _ HT.out).mono ?_
    rintro e w1 ⟨rfl, hb1⟩
    have HT1 := Lib.hid (tab_below HT.out hb1)
    go_wp2_with fail
    refine (NA.out _ HT1.out).mono ?_
    rintro e w2 ⟨rfl, hb2⟩
    have hb2 := hb1.trans (hb2.mono hb1.size)
    have HT2 := Lib.hid (tab_below HT.out hb2)
    go_wp2_with fail
    refine (NB.out _ HT2.out).mono ?_
    rintro e w3 ⟨rfl, hb3⟩
    have hb4 := hb2.trans (hb3.mono hb2.size)
    have HT4 := Lib.hid (tab_below HT.out hb4)
    go_wp2_with fail
    refine (PA.out _).mono ?_
    rintro e w4 ⟨rfl, hb44⟩
    have hb4 := hb4.trans (hb44.mono hb4.size)
    have HT4 := Lib.hid (tab_below HT.out hb4)
    go_wp2_with fail
    refine (PS.out _).mono ?_
    rintro e w5 ⟨rfl, hb5⟩
    go_wp2
    go_ret
    exact ⟨rfl, hb4.trans (hb5.mono hb4.size)⟩
  | some x =>
    obtain ⟨B, K⟩ := x
    obtain ⟨q0, q1, q2, q3⟩ := name_parse _ _ _ hp
    have NS := Lib.hid (Name_as B K s.data.toList 0 ((nameS_good B K q0 q1 q2).1.trans q3) (nameS_good B K q0 q1 q2).2)
    have PS := Lib.hid (Parse_of s (.tuple #[.int .i64 B, .int .i64 K, .bool true]) (by unfold parseV; rw [hp]))
    clear hp q0 q1 q2 q3
    go_enter Tryd.func5, Tryd.ntmps5
    go_wp2_with fail
    refine (awake_any _ HT.out).mono ?_
    rintro e w1 ⟨rfl, hb1⟩
    have HT1 := Lib.hid (tab_below HT.out hb1)
    go_wp2_with fail
    refine (NA.out _ HT1.out).mono ?_
    rintro e w2 ⟨rfl, hb2⟩
    have hb2 := hb1.trans (hb2.mono hb1.size)
    have HT2 := Lib.hid (tab_below HT.out hb2)
    go_wp2_with fail
    refine (NB.out _ HT2.out).mono ?_
    rintro e w3 ⟨rfl, hb3⟩
    have hb4 := hb2.trans (hb3.mono hb2.size)
    have HT4 := Lib.hid (tab_below HT.out hb4)
    go_wp2_with fail
    refine (PA.out _).mono ?_
    rintro e w4 ⟨rfl, hb44⟩
    have hb4 := hb4.trans (hb44.mono hb4.size)
    have HT4 := Lib.hid (tab_below HT.out hb4)
    go_wp2_with fail
    refine (PS.out _).mono ?_
    rintro e w5 ⟨rfl, hb5⟩
    have HT5 := Lib.hid (tab_below HT4.out hb5)
    go_wp2_with fail
    refine (NS.out _ HT5.out).mono ?_
    rintro e w6 ⟨rfl, hb6⟩
    go_wp2
    go_ret
    exact ⟨rfl, hb4.trans ((hb5.trans (hb6.mono hb5.size)).mono hb4.size)⟩

set_option maxRecDepth 100000 in
set_option maxHeartbeats 1000000 in
theorem back_ggg (a b k : Int) (s : ByteArray) (ha : 0 ≤ a) (ga : a ≤ 4611686018427387904) (hb : 0 ≤ b) (gb : b ≤ 4611686018427387904) (hk : 0 ≤ k) (gk : k ≤ 2) (hab : a < b) (w : World) (htab : Tab w) :
    Calls Tryd.prog 5 #[.int .i64 a, .int .i64 b, .int .i64 k, .string s] w fun e w' => e = .returned (.bool true) ∧ Below w.heap.size w w' := by
  obtain ⟨SA, hSA⟩ : ∃ S, nameS a k = S := ⟨_, rfl⟩
  obtain ⟨SB, hSB⟩ : ∃ S, nameS b k = S := ⟨_, rfl⟩
  have NA := Lib.hid (Name_as a k SA 0 hSA ((nameS_good a k ha ga (endB_of k hk gk)).2))
  have NB := Lib.hid (Name_as b k SB 0 hSB ((nameS_good b k hb gb (endB_of k hk gk)).2))
  have hA : SA = nameL a k := by rw [← hSA]; exact (nameS_good a k ha ga (endB_of k hk gk)).1
  have hAl : SA.length = 24 := by rw [hA]; exact nameL_len a k (endB_of k hk gk)
  have PA := Lib.hid (Parse_as SA (.tuple #[.int .i64 a, .int .i64 k, .bool true]) (by rw [hA]; exact parseV_name a k ha ga (endB_of k hk gk)))
  have hB : SB = nameL b k := by rw [← hSB]; exact (nameS_good b k hb gb (endB_of k hk gk)).1
  have hless : Op.bytesLess SA SB = true := by rw [hA, hB, nameL_less a b k ha ga hb gb]; simp; omega
  clear hB
  clear hA
  clear hSA hSB
  have HT := Lib.hid htab; clear htab
  cases hp : parseL s.data.toList with
  | none =>
    have PS := Lib.hid (Parse_of s (.tuple #[.int .i64 0, .int .i64 0, .bool false]) (by unfold parseV; rw [hp]))
    clear hp
    go_enter Tryd.func5, Tryd.ntmps5
    go_wp2_with fail
    refine (awake_any _ HT.out).mono ?_
    rintro e w1 ⟨rfl, hb1⟩
    have HT1 := Lib.hid (tab_below HT.out hb1)
    go_wp2_with fail
    refine (NA.out _ HT1.out).mono ?_
    rintro e w2 ⟨rfl, hb2⟩
    have hb2 := hb1.trans (hb2.mono hb1.size)
    have HT2 := Lib.hid (tab_below HT.out hb2)
    go_wp2_with fail
    refine (NB.out _ HT2.out).mono ?_
    rintro e w3 ⟨rfl, hb3⟩
    have hb4 := hb2.trans (hb3.mono hb2.size)
    have HT4 := Lib.hid (tab_below HT.out hb4)
    go_wp2_with fail
    refine (PA.out _).mono ?_
    rintro e w4 ⟨rfl, hb44⟩
    have hb4 := hb4.trans (hb44.mono hb4.size)
    have HT4 := Lib.hid (tab_below HT.out hb4)
    go_wp2_with fail
    refine (PS.out _).mono ?_
    rintro e w5 ⟨rfl, hb5⟩
    go_wp2
    go_ret
    exact ⟨rfl, hb4.trans (hb5.mono hb4.size)⟩
  | some x =>
    obtain ⟨B, K⟩ := x
    obtain ⟨q0, q1, q2, q3⟩ := name_parse _ _ _ hp
    have NS := Lib.hid (Name_as B K s.data.toList 0 ((nameS_good B K q0 q1 q2).1.trans q3) (nameS_good B K q0 q1 q2).2)
    have PS := Lib.hid (Parse_of s (.tuple #[.int .i64 B, .int .i64 K, .bool true]) (by unfold parseV; rw [hp]))
    clear hp q0 q1 q2 q3
    go_enter Tryd.func5, Tryd.ntmps5
    go_wp2_with fail
    refine (awake_any _ HT.out).mono ?_
    rintro e w1 ⟨rfl, hb1⟩
    have HT1 := Lib.hid (tab_below HT.out hb1)
    go_wp2_with fail
    refine (NA.out _ HT1.out).mono ?_
    rintro e w2 ⟨rfl, hb2⟩
    have hb2 := hb1.trans (hb2.mono hb1.size)
    have HT2 := Lib.hid (tab_below HT.out hb2)
    go_wp2_with fail
    refine (NB.out _ HT2.out).mono ?_
    rintro e w3 ⟨rfl, hb3⟩
    have hb4 := hb2.trans (hb3.mono hb2.size)
    have HT4 := Lib.hid (tab_below HT.out hb4)
    go_wp2_with fail
    refine (PA.out _).mono ?_
    rintro e w4 ⟨rfl, hb44⟩
    have hb4 := hb4.trans (hb44.mono hb4.size)
    have HT4 := Lib.hid (tab_below HT.out hb4)
    go_wp2_with fail
    refine (PS.out _).mono ?_
    rintro e w5 ⟨rfl, hb5⟩
    have HT5 := Lib.hid (tab_below HT4.out hb5)
    go_wp2_with fail
    refine (NS.out _ HT5.out).mono ?_
    rintro e w6 ⟨rfl, hb6⟩
    go_wp2
    go_ret
    exact ⟨rfl, hb4.trans ((hb5.trans (hb6.mono hb5.size)).mono hb4.size)⟩

set_option maxRecDepth 100000 in
set_option maxHeartbeats 1000000 in
theorem back_ggm (a b k : Int) (s : ByteArray) (ha : 0 ≤ a) (ga : a ≤ 4611686018427387904) (hb : 0 ≤ b) (gb : b ≤ 4611686018427387904) (hk : 0 ≤ k) (gk : k ≤ 2) (hab : b ≤ a) (w : World) (htab : Tab w) :
    Calls Tryd.prog 5 #[.int .i64 a, .int .i64 b, .int .i64 k, .string s] w fun e w' => e = .returned (.bool true) ∧ Below w.heap.size w w' := by
  obtain ⟨SA, hSA⟩ : ∃ S, nameS a k = S := ⟨_, rfl⟩
  obtain ⟨SB, hSB⟩ : ∃ S, nameS b k = S := ⟨_, rfl⟩
  have NA := Lib.hid (Name_as a k SA 0 hSA ((nameS_good a k ha ga (endB_of k hk gk)).2))
  have NB := Lib.hid (Name_as b k SB 0 hSB ((nameS_good b k hb gb (endB_of k hk gk)).2))
  have hA : SA = nameL a k := by rw [← hSA]; exact (nameS_good a k ha ga (endB_of k hk gk)).1
  have hAl : SA.length = 24 := by rw [hA]; exact nameL_len a k (endB_of k hk gk)
  have PA := Lib.hid (Parse_as SA (.tuple #[.int .i64 a, .int .i64 k, .bool true]) (by rw [hA]; exact parseV_name a k ha ga (endB_of k hk gk)))
  have hB : SB = nameL b k := by rw [← hSB]; exact (nameS_good b k hb gb (endB_of k hk gk)).1
  have hless : Op.bytesLess SA SB = false := by rw [hA, hB, nameL_less a b k ha ga hb gb]; simp; omega
  clear hB
  clear hA
  clear hSA hSB
  have HT := Lib.hid htab; clear htab
  cases hp : parseL s.data.toList with
  | none =>
    have PS := Lib.hid (Parse_of s (.tuple #[.int .i64 0, .int .i64 0, .bool false]) (by unfold parseV; rw [hp]))
    clear hp
    go_enter Tryd.func5, Tryd.ntmps5
    go_wp2_with fail
    refine (awake_any _ HT.out).mono ?_
    rintro e w1 ⟨rfl, hb1⟩
    have HT1 := Lib.hid (tab_below HT.out hb1)
    go_wp2_with fail
    refine (NA.out _ HT1.out).mono ?_
    rintro e w2 ⟨rfl, hb2⟩
    have hb2 := hb1.trans (hb2.mono hb1.size)
    have HT2 := Lib.hid (tab_below HT.out hb2)
    go_wp2_with fail
    refine (NB.out _ HT2.out).mono ?_
    rintro e w3 ⟨rfl, hb3⟩
    have hb4 := hb2.trans (hb3.mono hb2.size)
    have HT4 := Lib.hid (tab_below HT.out hb4)
    go_wp2_with fail
    refine (PA.out _).mono ?_
    rintro e w4 ⟨rfl, hb44⟩
    have hb4 := hb4.trans (hb44.mono hb4.size)
    have HT4 := Lib.hid (tab_below HT.out hb4)
    go_wp2_with fail
    refine (PS.out _).mono ?_
    rintro e w5 ⟨rfl, hb5⟩
    go_wp2
    go_ret
    exact ⟨rfl, hb4.trans (hb5.mono hb4.size)⟩
  | some x =>
    obtain ⟨B, K⟩ := x
    obtain ⟨q0, q1, q2, q3⟩ := name_parse _ _ _ hp
    have NS := Lib.hid (Name_as B K s.data.toList 0 ((nameS_good B K q0 q1 q2).1.trans q3) (nameS_good B K q0 q1 q2).2)
    have PS := Lib.hid (Parse_of s (.tuple #[.int .i64 B, .int .i64 K, .bool true]) (by unfold parseV; rw [hp]))
    clear hp q0 q1 q2 q3
    go_enter Tryd.func5, Tryd.ntmps5
    go_wp2_with fail
    refine (awake_any _ HT.out).mono ?_
    rintro e w1 ⟨rfl, hb1⟩
    have HT1 := Lib.hid (tab_below HT.out hb1)
    go_wp2_with fail
    refine (NA.out _ HT1.out).mono ?_
    rintro e w2 ⟨rfl, hb2⟩
    have hb2 := hb1.trans (hb2.mono hb1.size)
    have HT2 := Lib.hid (tab_below HT.out hb2)
    go_wp2_with fail
    refine (NB.out _ HT2.out).mono ?_
    rintro e w3 ⟨rfl, hb3⟩
    have hb4 := hb2.trans (hb3.mono hb2.size)
    have HT4 := Lib.hid (tab_below HT.out hb4)
    go_wp2_with fail
    refine (PA.out _).mono ?_
    rintro e w4 ⟨rfl, hb44⟩
    have hb4 := hb4.trans (hb44.mono hb4.size)
    have HT4 := Lib.hid (tab_below HT.out hb4)
    go_wp2_with fail
    refine (PS.out _).mono ?_
    rintro e w5 ⟨rfl, hb5⟩
    have HT5 := Lib.hid (tab_below HT4.out hb5)
    go_wp2_with fail
    refine (NS.out _ HT5.out).mono ?_
    rintro e w6 ⟨rfl, hb6⟩
    go_wp2
    go_ret
    exact ⟨rfl, hb4.trans ((hb5.trans (hb6.mono hb5.size)).mono hb4.size)⟩

set_option maxRecDepth 100000 in
set_option maxHeartbeats 1000000 in
theorem back_ggh (a b k : Int) (s : ByteArray) (ha : 0 ≤ a) (ga : a ≤ 4611686018427387904) (hb : b > 4611686018427387904) (hk : 0 ≤ k) (gk : k ≤ 2) (w : World) (htab : Tab w) :
    Calls Tryd.prog 5 #[.int .i64 a, .int .i64 b, .int .i64 k, .string s] w fun e w' => e = .returned (.bool true) ∧ Below w.heap.size w w' := by
  obtain ⟨SA, hSA⟩ : ∃ S, nameS a k = S := ⟨_, rfl⟩
  obtain ⟨SB, hSB⟩ : ∃ S, nameS b k = S := ⟨_, rfl⟩
  have NA := Lib.hid (Name_as a k SA 0 hSA ((nameS_good a k ha ga (endB_of k hk gk)).2))
  have NB := Lib.hid (Name_as b k SB 1 hSB (nameE_hi b k hb))
  have hA : SA = nameL a k := by rw [← hSA]; exact (nameS_good a k ha ga (endB_of k hk gk)).1
  have hAl : SA.length = 24 := by rw [hA]; exact nameL_len a k (endB_of k hk gk)
  have PA := Lib.hid (Parse_as SA (.tuple #[.int .i64 a, .int .i64 k, .bool true]) (by rw [hA]; exact parseV_name a k ha ga (endB_of k hk gk)))
  clear hA
  clear hSA hSB
  have HT := Lib.hid htab; clear htab
  cases hp : parseL s.data.toList with
  | none =>
    have PS := Lib.hid (Parse_of s (.tuple #[.int .i64 0, .int .i64 0, .bool false]) (by unfold parseV; rw [hp]))
    clear hp
    go_enter Tryd.func5, Tryd.ntmps5
    go_wp2_with fail
    refine (awake_any _ HT.out).mono ?_
    rintro e w1 ⟨rfl, hb1⟩
    have HT1 := Lib.hid (tab_below HT.out hb1)
    go_wp2_with fail
    refine (NA.out _ HT1.out).mono ?_
    rintro e w2 ⟨rfl, hb2⟩
    have hb2 := hb1.trans (hb2.mono hb1.size)
    have HT2 := Lib.hid (tab_below HT.out hb2)
    go_wp2_with fail
    refine (NB.out _ HT2.out).mono ?_
    rintro e w3 ⟨rfl, hb3⟩
    have hb4 := hb2.trans (hb3.mono hb2.size)
    have HT4 := Lib.hid (tab_below HT.out hb4)
    go_wp2_with fail
    refine (PA.out _).mono ?_
    rintro e w4 ⟨rfl, hb44⟩
    have hb4 := hb4.trans (hb44.mono hb4.size)
    have HT4 := Lib.hid (tab_below HT.out hb4)
    go_wp2_with fail
    refine (PS.out _).mono ?_
    rintro e w5 ⟨rfl, hb5⟩
    go_wp2
    go_ret
    exact ⟨rfl, hb4.trans (hb5.mono hb4.size)⟩
  | some x =>
    obtain ⟨B, K⟩ := x
    obtain ⟨q0, q1, q2, q3⟩ := name_parse _ _ _ hp
    have NS := Lib.hid (Name_as B K s.data.toList 0 ((nameS_good B K q0 q1 q2).1.trans q3) (nameS_good B K q0 q1 q2).2)
    have PS := Lib.hid (Parse_of s (.tuple #[.int .i64 B, .int .i64 K, .bool true]) (by unfold parseV; rw [hp]))
    clear hp q0 q1 q2 q3
    go_enter Tryd.func5, Tryd.ntmps5
    go_wp2_with fail
    refine (awake_any _ HT.out).mono ?_
    rintro e w1 ⟨rfl, hb1⟩
    have HT1 := Lib.hid (tab_below HT.out hb1)
    go_wp2_with fail
    refine (NA.out _ HT1.out).mono ?_
    rintro e w2 ⟨rfl, hb2⟩
    have hb2 := hb1.trans (hb2.mono hb1.size)
    have HT2 := Lib.hid (tab_below HT.out hb2)
    go_wp2_with fail
    refine (NB.out _ HT2.out).mono ?_
    rintro e w3 ⟨rfl, hb3⟩
    have hb4 := hb2.trans (hb3.mono hb2.size)
    have HT4 := Lib.hid (tab_below HT.out hb4)
    go_wp2_with fail
    refine (PA.out _).mono ?_
    rintro e w4 ⟨rfl, hb44⟩
    have hb4 := hb4.trans (hb44.mono hb4.size)
    have HT4 := Lib.hid (tab_below HT.out hb4)
    go_wp2_with fail
    refine (PS.out _).mono ?_
    rintro e w5 ⟨rfl, hb5⟩
    have HT5 := Lib.hid (tab_below HT4.out hb5)
    go_wp2_with fail
    refine (NS.out _ HT5.out).mono ?_
    rintro e w6 ⟨rfl, hb6⟩
    go_wp2
    go_ret
    exact ⟨rfl, hb4.trans ((hb5.trans (hb6.mono hb5.size)).mono hb4.size)⟩

set_option maxRecDepth 100000 in
set_option maxHeartbeats 1000000 in
theorem back_ghl (a b k : Int) (s : ByteArray) (ha : a > 4611686018427387904) (hb : b < 0) (hk : 0 ≤ k) (gk : k ≤ 2) (w : World) (htab : Tab w) :
    Calls Tryd.prog 5 #[.int .i64 a, .int .i64 b, .int .i64 k, .string s] w fun e w' => e = .returned (.bool true) ∧ Below w.heap.size w w' := by
  obtain ⟨SA, hSA⟩ : ∃ S, nameS a k = S := ⟨_, rfl⟩
  obtain ⟨SB, hSB⟩ : ∃ S, nameS b k = S := ⟨_, rfl⟩
  have NA := Lib.hid (Name_as a k SA 1 hSA (nameE_hi a k ha))
  have NB := Lib.hid (Name_as b k SB 1 hSB (nameE_lo b k hb))
  clear hSA hSB
  have HT := Lib.hid htab; clear htab
  cases hp : parseL s.data.toList with
  | none =>
    have PS := Lib.hid (Parse_of s (.tuple #[.int .i64 0, .int .i64 0, .bool false]) (by unfold parseV; rw [hp]))
    clear hp
    go_enter Tryd.func5, Tryd.ntmps5
    go_wp2_with fail
    refine (awake_any _ HT.out).mono ?_
    rintro e w1 ⟨rfl, hb1⟩
    have HT1 := Lib.hid (tab_below HT.out hb1)
    go_wp2_with fail
    refine (NA.out _ HT1.out).mono ?_
    rintro e w2 ⟨rfl, hb2⟩
    have hb2 := hb1.trans (hb2.mono hb1.size)
    have HT2 := Lib.hid (tab_below HT.out hb2)
    go_wp2_with fail
    refine (NB.out _ HT2.out).mono ?_
    rintro e w3 ⟨rfl, hb3⟩
    have hb4 := hb2.trans (hb3.mono hb2.size)
    have HT4 := Lib.hid (tab_below HT.out hb4)
    go_wp2_with fail
    refine (PS.out _).mono ?_
    rintro e w5 ⟨rfl, hb5⟩
    go_wp2
    go_ret
    exact ⟨rfl, hb4.trans (hb5.mono hb4.size)⟩
  | some x =>
    obtain ⟨B, K⟩ := x
    obtain ⟨q0, q1, q2, q3⟩ := name_parse _ _ _ hp
    have NS := Lib.hid (Name_as B K s.data.toList 0 ((nameS_good B K q0 q1 q2).1.trans q3) (nameS_good B K q0 q1 q2).2)
    have PS := Lib.hid (Parse_of s (.tuple #[.int .i64 B, .int .i64 K, .bool true]) (by unfold parseV; rw [hp]))
    clear hp q0 q1 q2 q3
    go_enter Tryd.func5, Tryd.ntmps5
    go_wp2_with fail
    refine (awake_any _ HT.out).mono ?_
    rintro e w1 ⟨rfl, hb1⟩
    have HT1 := Lib.hid (tab_below HT.out hb1)
    go_wp2_with fail
    refine (NA.out _ HT1.out).mono ?_
    rintro e w2 ⟨rfl, hb2⟩
    have hb2 := hb1.trans (hb2.mono hb1.size)
    have HT2 := Lib.hid (tab_below HT.out hb2)
    go_wp2_with fail
    refine (NB.out _ HT2.out).mono ?_
    rintro e w3 ⟨rfl, hb3⟩
    have hb4 := hb2.trans (hb3.mono hb2.size)
    have HT4 := Lib.hid (tab_below HT.out hb4)
    go_wp2_with fail
    refine (PS.out _).mono ?_
    rintro e w5 ⟨rfl, hb5⟩
    have HT5 := Lib.hid (tab_below HT4.out hb5)
    go_wp2_with fail
    refine (NS.out _ HT5.out).mono ?_
    rintro e w6 ⟨rfl, hb6⟩
    go_wp2
    go_ret
    exact ⟨rfl, hb4.trans ((hb5.trans (hb6.mono hb5.size)).mono hb4.size)⟩

set_option maxRecDepth 100000 in
set_option maxHeartbeats 1000000 in
theorem back_ghg (a b k : Int) (s : ByteArray) (ha : a > 4611686018427387904) (hb : 0 ≤ b) (gb : b ≤ 4611686018427387904) (hk : 0 ≤ k) (gk : k ≤ 2) (w : World) (htab : Tab w) :
    Calls Tryd.prog 5 #[.int .i64 a, .int .i64 b, .int .i64 k, .string s] w fun e w' => e = .returned (.bool true) ∧ Below w.heap.size w w' := by
  obtain ⟨SA, hSA⟩ : ∃ S, nameS a k = S := ⟨_, rfl⟩
  obtain ⟨SB, hSB⟩ : ∃ S, nameS b k = S := ⟨_, rfl⟩
  have NA := Lib.hid (Name_as a k SA 1 hSA (nameE_hi a k ha))
  have NB := Lib.hid (Name_as b k SB 0 hSB ((nameS_good b k hb gb (endB_of k hk gk)).2))
  clear hSA hSB
  have HT := Lib.hid htab; clear htab
  cases hp : parseL s.data.toList with
  | none =>
    have PS := Lib.hid (Parse_of s (.tuple #[.int .i64 0, .int .i64 0, .bool false]) (by unfold parseV; rw [hp]))
    clear hp
    go_enter Tryd.func5, Tryd.ntmps5
    go_wp2_with fail
    refine (awake_any _ HT.out).mono ?_
    rintro e w1 ⟨rfl, hb1⟩
    have HT1 := Lib.hid (tab_below HT.out hb1)
    go_wp2_with fail
    refine (NA.out _ HT1.out).mono ?_
    rintro e w2 ⟨rfl, hb2⟩
    have hb2 := hb1.trans (hb2.mono hb1.size)
    have HT2 := Lib.hid (tab_below HT.out hb2)
    go_wp2_with fail
    refine (NB.out _ HT2.out).mono ?_
    rintro e w3 ⟨rfl, hb3⟩
    have hb4 := hb2.trans (hb3.mono hb2.size)
    have HT4 := Lib.hid (tab_below HT.out hb4)
    go_wp2_with fail
    refine (PS.out _).mono ?_
    rintro e w5 ⟨rfl, hb5⟩
    go_wp2
    go_ret
    exact ⟨rfl, hb4.trans (hb5.mono hb4.size)⟩
  | some x =>
    obtain ⟨B, K⟩ := x
    obtain ⟨q0, q1, q2, q3⟩ := name_parse _ _ _ hp
    have NS := Lib.hid (Name_as B K s.data.toList 0 ((nameS_good B K q0 q1 q2).1.trans q3) (nameS_good B K q0 q1 q2).2)
    have PS := Lib.hid (Parse_of s (.tuple #[.int .i64 B, .int .i64 K, .bool true]) (by unfold parseV; rw [hp]))
    clear hp q0 q1 q2 q3
    go_enter Tryd.func5, Tryd.ntmps5
    go_wp2_with fail
    refine (awake_any _ HT.out).mono ?_
    rintro e w1 ⟨rfl, hb1⟩
    have HT1 := Lib.hid (tab_below HT.out hb1)
    go_wp2_with fail
    refine (NA.out _ HT1.out).mono ?_
    rintro e w2 ⟨rfl, hb2⟩
    have hb2 := hb1.trans (hb2.mono hb1.size)
    have HT2 := Lib.hid (tab_below HT.out hb2)
    go_wp2_with fail
    refine (NB.out _ HT2.out).mono ?_
    rintro e w3 ⟨rfl, hb3⟩
    have hb4 := hb2.trans (hb3.mono hb2.size)
    have HT4 := Lib.hid (tab_below HT.out hb4)
    go_wp2_with fail
    refine (PS.out _).mono ?_
    rintro e w5 ⟨rfl, hb5⟩
    have HT5 := Lib.hid (tab_below HT4.out hb5)
    go_wp2_with fail
    refine (NS.out _ HT5.out).mono ?_
    rintro e w6 ⟨rfl, hb6⟩
    go_wp2
    go_ret
    exact ⟨rfl, hb4.trans ((hb5.trans (hb6.mono hb5.size)).mono hb4.size)⟩

set_option maxRecDepth 100000 in
set_option maxHeartbeats 1000000 in
theorem back_ghh (a b k : Int) (s : ByteArray) (ha : a > 4611686018427387904) (hb : b > 4611686018427387904) (hk : 0 ≤ k) (gk : k ≤ 2) (w : World) (htab : Tab w) :
    Calls Tryd.prog 5 #[.int .i64 a, .int .i64 b, .int .i64 k, .string s] w fun e w' => e = .returned (.bool true) ∧ Below w.heap.size w w' := by
  obtain ⟨SA, hSA⟩ : ∃ S, nameS a k = S := ⟨_, rfl⟩
  obtain ⟨SB, hSB⟩ : ∃ S, nameS b k = S := ⟨_, rfl⟩
  have NA := Lib.hid (Name_as a k SA 1 hSA (nameE_hi a k ha))
  have NB := Lib.hid (Name_as b k SB 1 hSB (nameE_hi b k hb))
  clear hSA hSB
  have HT := Lib.hid htab; clear htab
  cases hp : parseL s.data.toList with
  | none =>
    have PS := Lib.hid (Parse_of s (.tuple #[.int .i64 0, .int .i64 0, .bool false]) (by unfold parseV; rw [hp]))
    clear hp
    go_enter Tryd.func5, Tryd.ntmps5
    go_wp2_with fail
    refine (awake_any _ HT.out).mono ?_
    rintro e w1 ⟨rfl, hb1⟩
    have HT1 := Lib.hid (tab_below HT.out hb1)
    go_wp2_with fail
    refine (NA.out _ HT1.out).mono ?_
    rintro e w2 ⟨rfl, hb2⟩
    have hb2 := hb1.trans (hb2.mono hb1.size)
    have HT2 := Lib.hid (tab_below HT.out hb2)
    go_wp2_with fail
    refine (NB.out _ HT2.out).mono ?_
    rintro e w3 ⟨rfl, hb3⟩
    have hb4 := hb2.trans (hb3.mono hb2.size)
    have HT4 := Lib.hid (tab_below HT.out hb4)
    go_wp2_with fail
    refine (PS.out _).mono ?_
    rintro e w5 ⟨rfl, hb5⟩
    go_wp2
    go_ret
    exact ⟨rfl, hb4.trans (hb5.mono hb4.size)⟩
  | some x =>
    obtain ⟨B, K⟩ := x
    obtain ⟨q0, q1, q2, q3⟩ := name_parse _ _ _ hp
    have NS := Lib.hid (Name_as B K s.data.toList 0 ((nameS_good B K q0 q1 q2).1.trans q3) (nameS_good B K q0 q1 q2).2)
    have PS := Lib.hid (Parse_of s (.tuple #[.int .i64 B, .int .i64 K, .bool true]) (by unfold parseV; rw [hp]))
    clear hp q0 q1 q2 q3
    go_enter Tryd.func5, Tryd.ntmps5
    go_wp2_with fail
    refine (awake_any _ HT.out).mono ?_
    rintro e w1 ⟨rfl, hb1⟩
    have HT1 := Lib.hid (tab_below HT.out hb1)
    go_wp2_with fail
    refine (NA.out _ HT1.out).mono ?_
    rintro e w2 ⟨rfl, hb2⟩
    have hb2 := hb1.trans (hb2.mono hb1.size)
    have HT2 := Lib.hid (tab_below HT.out hb2)
    go_wp2_with fail
    refine (NB.out _ HT2.out).mono ?_
    rintro e w3 ⟨rfl, hb3⟩
    have hb4 := hb2.trans (hb3.mono hb2.size)
    have HT4 := Lib.hid (tab_below HT.out hb4)
    go_wp2_with fail
    refine (PS.out _).mono ?_
    rintro e w5 ⟨rfl, hb5⟩
    have HT5 := Lib.hid (tab_below HT4.out hb5)
    go_wp2_with fail
    refine (NS.out _ HT5.out).mono ?_
    rintro e w6 ⟨rfl, hb6⟩
    go_wp2
    go_ret
    exact ⟨rfl, hb4.trans ((hb5.trans (hb6.mono hb5.size)).mono hb4.size)⟩

set_option maxRecDepth 100000 in
set_option maxHeartbeats 1000000 in
theorem back_hll (a b k : Int) (s : ByteArray) (ha : a < 0) (hb : b < 0) (hk : k > 2) (w : World) (htab : Tab w) :
    Calls Tryd.prog 5 #[.int .i64 a, .int .i64 b, .int .i64 k, .string s] w fun e w' => e = .returned (.bool true) ∧ Below w.heap.size w w' := by
  obtain ⟨SA, hSA⟩ : ∃ S, nameS a k = S := ⟨_, rfl⟩
  obtain ⟨SB, hSB⟩ : ∃ S, nameS b k = S := ⟨_, rfl⟩
  have NA := Lib.hid (Name_as a k SA 1 hSA (nameE_lo a k ha))
  have NB := Lib.hid (Name_as b k SB 1 hSB (nameE_lo b k hb))
  clear hSA hSB
  have HT := Lib.hid htab; clear htab
  cases hp : parseL s.data.toList with
  | none =>
    have PS := Lib.hid (Parse_of s (.tuple #[.int .i64 0, .int .i64 0, .bool false]) (by unfold parseV; rw [hp]))
    clear hp
    go_enter Tryd.func5, Tryd.ntmps5
    go_wp2_with fail
    refine (awake_any _ HT.out).mono ?_
    rintro e w1 ⟨rfl, hb1⟩
    have HT1 := Lib.hid (tab_below HT.out hb1)
    go_wp2_with fail
    refine (NA.out _ HT1.out).mono ?_
    rintro e w2 ⟨rfl, hb2⟩
    have hb2 := hb1.trans (hb2.mono hb1.size)
    have HT2 := Lib.hid (tab_below HT.out hb2)
    go_wp2_with fail
    refine (NB.out _ HT2.out).mono ?_
    rintro e w3 ⟨rfl, hb3⟩
    have hb4 := hb2.trans (hb3.mono hb2.size)
    have HT4 := Lib.hid (tab_below HT.out hb4)
    go_wp2_with fail
    refine (PS.out _).mono ?_
    rintro e w5 ⟨rfl, hb5⟩
    go_wp2
    go_ret
    exact ⟨rfl, hb4.trans (hb5.mono hb4.size)⟩
  | some x =>
    obtain ⟨B, K⟩ := x
    obtain ⟨q0, q1, q2, q3⟩ := name_parse _ _ _ hp
    have NS := Lib.hid (Name_as B K s.data.toList 0 ((nameS_good B K q0 q1 q2).1.trans q3) (nameS_good B K q0 q1 q2).2)
    have PS := Lib.hid (Parse_of s (.tuple #[.int .i64 B, .int .i64 K, .bool true]) (by unfold parseV; rw [hp]))
    clear hp q0 q1 q2 q3
    go_enter Tryd.func5, Tryd.ntmps5
    go_wp2_with fail
    refine (awake_any _ HT.out).mono ?_
    rintro e w1 ⟨rfl, hb1⟩
    have HT1 := Lib.hid (tab_below HT.out hb1)
    go_wp2_with fail
    refine (NA.out _ HT1.out).mono ?_
    rintro e w2 ⟨rfl, hb2⟩
    have hb2 := hb1.trans (hb2.mono hb1.size)
    have HT2 := Lib.hid (tab_below HT.out hb2)
    go_wp2_with fail
    refine (NB.out _ HT2.out).mono ?_
    rintro e w3 ⟨rfl, hb3⟩
    have hb4 := hb2.trans (hb3.mono hb2.size)
    have HT4 := Lib.hid (tab_below HT.out hb4)
    go_wp2_with fail
    refine (PS.out _).mono ?_
    rintro e w5 ⟨rfl, hb5⟩
    have HT5 := Lib.hid (tab_below HT4.out hb5)
    go_wp2_with fail
    refine (NS.out _ HT5.out).mono ?_
    rintro e w6 ⟨rfl, hb6⟩
    go_wp2
    go_ret
    exact ⟨rfl, hb4.trans ((hb5.trans (hb6.mono hb5.size)).mono hb4.size)⟩

set_option maxRecDepth 100000 in
set_option maxHeartbeats 1000000 in
theorem back_hlg (a b k : Int) (s : ByteArray) (ha : a < 0) (hb : 0 ≤ b) (gb : b ≤ 4611686018427387904) (hk : k > 2) (w : World) (htab : Tab w) :
    Calls Tryd.prog 5 #[.int .i64 a, .int .i64 b, .int .i64 k, .string s] w fun e w' => e = .returned (.bool true) ∧ Below w.heap.size w w' := by
  obtain ⟨SA, hSA⟩ : ∃ S, nameS a k = S := ⟨_, rfl⟩
  obtain ⟨SB, hSB⟩ : ∃ S, nameS b k = S := ⟨_, rfl⟩
  have NA := Lib.hid (Name_as a k SA 1 hSA (nameE_lo a k ha))
  have NB := Lib.hid (Name_as b k SB 6 hSB (nameE_kind b k hb gb (endB_not k (by omega))))
  clear hSA hSB
  have HT := Lib.hid htab; clear htab
  cases hp : parseL s.data.toList with
  | none =>
    have PS := Lib.hid (Parse_of s (.tuple #[.int .i64 0, .int .i64 0, .bool false]) (by unfold parseV; rw [hp]))
    clear hp
    go_enter Tryd.func5, Tryd.ntmps5
    go_wp2_with fail
    refine (awake_any _ HT.out).mono ?_
    rintro e w1 ⟨rfl, hb1⟩
    have HT1 := Lib.hid (tab_below HT.out hb1)
    go_wp2_with fail
    refine (NA.out _ HT1.out).mono ?_
    rintro e w2 ⟨rfl, hb2⟩
    have hb2 := hb1.trans (hb2.mono hb1.size)
    have HT2 := Lib.hid (tab_below HT.out hb2)
    go_wp2_with fail
    refine (NB.out _ HT2.out).mono ?_
    rintro e w3 ⟨rfl, hb3⟩
    have hb4 := hb2.trans (hb3.mono hb2.size)
    have HT4 := Lib.hid (tab_below HT.out hb4)
    go_wp2_with fail
    refine (PS.out _).mono ?_
    rintro e w5 ⟨rfl, hb5⟩
    go_wp2
    go_ret
    exact ⟨rfl, hb4.trans (hb5.mono hb4.size)⟩
  | some x =>
    obtain ⟨B, K⟩ := x
    obtain ⟨q0, q1, q2, q3⟩ := name_parse _ _ _ hp
    have NS := Lib.hid (Name_as B K s.data.toList 0 ((nameS_good B K q0 q1 q2).1.trans q3) (nameS_good B K q0 q1 q2).2)
    have PS := Lib.hid (Parse_of s (.tuple #[.int .i64 B, .int .i64 K, .bool true]) (by unfold parseV; rw [hp]))
    clear hp q0 q1 q2 q3
    go_enter Tryd.func5, Tryd.ntmps5
    go_wp2_with fail
    refine (awake_any _ HT.out).mono ?_
    rintro e w1 ⟨rfl, hb1⟩
    have HT1 := Lib.hid (tab_below HT.out hb1)
    go_wp2_with fail
    refine (NA.out _ HT1.out).mono ?_
    rintro e w2 ⟨rfl, hb2⟩
    have hb2 := hb1.trans (hb2.mono hb1.size)
    have HT2 := Lib.hid (tab_below HT.out hb2)
    go_wp2_with fail
    refine (NB.out _ HT2.out).mono ?_
    rintro e w3 ⟨rfl, hb3⟩
    have hb4 := hb2.trans (hb3.mono hb2.size)
    have HT4 := Lib.hid (tab_below HT.out hb4)
    go_wp2_with fail
    refine (PS.out _).mono ?_
    rintro e w5 ⟨rfl, hb5⟩
    have HT5 := Lib.hid (tab_below HT4.out hb5)
    go_wp2_with fail
    refine (NS.out _ HT5.out).mono ?_
    rintro e w6 ⟨rfl, hb6⟩
    go_wp2
    go_ret
    exact ⟨rfl, hb4.trans ((hb5.trans (hb6.mono hb5.size)).mono hb4.size)⟩

set_option maxRecDepth 100000 in
set_option maxHeartbeats 1000000 in
theorem back_hlh (a b k : Int) (s : ByteArray) (ha : a < 0) (hb : b > 4611686018427387904) (hk : k > 2) (w : World) (htab : Tab w) :
    Calls Tryd.prog 5 #[.int .i64 a, .int .i64 b, .int .i64 k, .string s] w fun e w' => e = .returned (.bool true) ∧ Below w.heap.size w w' := by
  obtain ⟨SA, hSA⟩ : ∃ S, nameS a k = S := ⟨_, rfl⟩
  obtain ⟨SB, hSB⟩ : ∃ S, nameS b k = S := ⟨_, rfl⟩
  have NA := Lib.hid (Name_as a k SA 1 hSA (nameE_lo a k ha))
  have NB := Lib.hid (Name_as b k SB 1 hSB (nameE_hi b k hb))
  clear hSA hSB
  have HT := Lib.hid htab; clear htab
  cases hp : parseL s.data.toList with
  | none =>
    have PS := Lib.hid (Parse_of s (.tuple #[.int .i64 0, .int .i64 0, .bool false]) (by unfold parseV; rw [hp]))
    clear hp
    go_enter Tryd.func5, Tryd.ntmps5
    go_wp2_with fail
    refine (awake_any _ HT.out).mono ?_
    rintro e w1 ⟨rfl, hb1⟩
    have HT1 := Lib.hid (tab_below HT.out hb1)
    go_wp2_with fail
    refine (NA.out _ HT1.out).mono ?_
    rintro e w2 ⟨rfl, hb2⟩
    have hb2 := hb1.trans (hb2.mono hb1.size)
    have HT2 := Lib.hid (tab_below HT.out hb2)
    go_wp2_with fail
    refine (NB.out _ HT2.out).mono ?_
    rintro e w3 ⟨rfl, hb3⟩
    have hb4 := hb2.trans (hb3.mono hb2.size)
    have HT4 := Lib.hid (tab_below HT.out hb4)
    go_wp2_with fail
    refine (PS.out _).mono ?_
    rintro e w5 ⟨rfl, hb5⟩
    go_wp2
    go_ret
    exact ⟨rfl, hb4.trans (hb5.mono hb4.size)⟩
  | some x =>
    obtain ⟨B, K⟩ := x
    obtain ⟨q0, q1, q2, q3⟩ := name_parse _ _ _ hp
    have NS := Lib.hid (Name_as B K s.data.toList 0 ((nameS_good B K q0 q1 q2).1.trans q3) (nameS_good B K q0 q1 q2).2)
    have PS := Lib.hid (Parse_of s (.tuple #[.int .i64 B, .int .i64 K, .bool true]) (by unfold parseV; rw [hp]))
    clear hp q0 q1 q2 q3
    go_enter Tryd.func5, Tryd.ntmps5
    go_wp2_with fail
    refine (awake_any _ HT.out).mono ?_
    rintro e w1 ⟨rfl, hb1⟩
    have HT1 := Lib.hid (tab_below HT.out hb1)
    go_wp2_with fail
    refine (NA.out _ HT1.out).mono ?_
    rintro e w2 ⟨rfl, hb2⟩
    have hb2 := hb1.trans (hb2.mono hb1.size)
    have HT2 := Lib.hid (tab_below HT.out hb2)
    go_wp2_with fail
    refine (NB.out _ HT2.out).mono ?_
    rintro e w3 ⟨rfl, hb3⟩
    have hb4 := hb2.trans (hb3.mono hb2.size)
    have HT4 := Lib.hid (tab_below HT.out hb4)
    go_wp2_with fail
    refine (PS.out _).mono ?_
    rintro e w5 ⟨rfl, hb5⟩
    have HT5 := Lib.hid (tab_below HT4.out hb5)
    go_wp2_with fail
    refine (NS.out _ HT5.out).mono ?_
    rintro e w6 ⟨rfl, hb6⟩
    go_wp2
    go_ret
    exact ⟨rfl, hb4.trans ((hb5.trans (hb6.mono hb5.size)).mono hb4.size)⟩

set_option maxRecDepth 100000 in
set_option maxHeartbeats 1000000 in
theorem back_hgl (a b k : Int) (s : ByteArray) (ha : 0 ≤ a) (ga : a ≤ 4611686018427387904) (hb : b < 0) (hk : k > 2) (w : World) (htab : Tab w) :
    Calls Tryd.prog 5 #[.int .i64 a, .int .i64 b, .int .i64 k, .string s] w fun e w' => e = .returned (.bool true) ∧ Below w.heap.size w w' := by
  obtain ⟨SA, hSA⟩ : ∃ S, nameS a k = S := ⟨_, rfl⟩
  obtain ⟨SB, hSB⟩ : ∃ S, nameS b k = S := ⟨_, rfl⟩
  have NA := Lib.hid (Name_as a k SA 6 hSA (nameE_kind a k ha ga (endB_not k (by omega))))
  have NB := Lib.hid (Name_as b k SB 1 hSB (nameE_lo b k hb))
  clear hSA hSB
  have HT := Lib.hid htab; clear htab
  cases hp : parseL s.data.toList with
  | none =>
    have PS := Lib.hid (Parse_of s (.tuple #[.int .i64 0, .int .i64 0, .bool false]) (by unfold parseV; rw [hp]))
    clear hp
    go_enter Tryd.func5, Tryd.ntmps5
    go_wp2_with fail
    refine (awake_any _ HT.out).mono ?_
    rintro e w1 ⟨rfl, hb1⟩
    have HT1 := Lib.hid (tab_below HT.out hb1)
    go_wp2_with fail
    refine (NA.out _ HT1.out).mono ?_
    rintro e w2 ⟨rfl, hb2⟩
    have hb2 := hb1.trans (hb2.mono hb1.size)
    have HT2 := Lib.hid (tab_below HT.out hb2)
    go_wp2_with fail
    refine (NB.out _ HT2.out).mono ?_
    rintro e w3 ⟨rfl, hb3⟩
    have hb4 := hb2.trans (hb3.mono hb2.size)
    have HT4 := Lib.hid (tab_below HT.out hb4)
    go_wp2_with fail
    refine (PS.out _).mono ?_
    rintro e w5 ⟨rfl, hb5⟩
    go_wp2
    go_ret
    exact ⟨rfl, hb4.trans (hb5.mono hb4.size)⟩
  | some x =>
    obtain ⟨B, K⟩ := x
    obtain ⟨q0, q1, q2, q3⟩ := name_parse _ _ _ hp
    have NS := Lib.hid (Name_as B K s.data.toList 0 ((nameS_good B K q0 q1 q2).1.trans q3) (nameS_good B K q0 q1 q2).2)
    have PS := Lib.hid (Parse_of s (.tuple #[.int .i64 B, .int .i64 K, .bool true]) (by unfold parseV; rw [hp]))
    clear hp q0 q1 q2 q3
    go_enter Tryd.func5, Tryd.ntmps5
    go_wp2_with fail
    refine (awake_any _ HT.out).mono ?_
    rintro e w1 ⟨rfl, hb1⟩
    have HT1 := Lib.hid (tab_below HT.out hb1)
    go_wp2_with fail
    refine (NA.out _ HT1.out).mono ?_
    rintro e w2 ⟨rfl, hb2⟩
    have hb2 := hb1.trans (hb2.mono hb1.size)
    have HT2 := Lib.hid (tab_below HT.out hb2)
    go_wp2_with fail
    refine (NB.out _ HT2.out).mono ?_
    rintro e w3 ⟨rfl, hb3⟩
    have hb4 := hb2.trans (hb3.mono hb2.size)
    have HT4 := Lib.hid (tab_below HT.out hb4)
    go_wp2_with fail
    refine (PS.out _).mono ?_
    rintro e w5 ⟨rfl, hb5⟩
    have HT5 := Lib.hid (tab_below HT4.out hb5)
    go_wp2_with fail
    refine (NS.out _ HT5.out).mono ?_
    rintro e w6 ⟨rfl, hb6⟩
    go_wp2
    go_ret
    exact ⟨rfl, hb4.trans ((hb5.trans (hb6.mono hb5.size)).mono hb4.size)⟩

set_option maxRecDepth 100000 in
set_option maxHeartbeats 1000000 in
theorem back_hgg (a b k : Int) (s : ByteArray) (ha : 0 ≤ a) (ga : a ≤ 4611686018427387904) (hb : 0 ≤ b) (gb : b ≤ 4611686018427387904) (hk : k > 2) (w : World) (htab : Tab w) :
    Calls Tryd.prog 5 #[.int .i64 a, .int .i64 b, .int .i64 k, .string s] w fun e w' => e = .returned (.bool true) ∧ Below w.heap.size w w' := by
  obtain ⟨SA, hSA⟩ : ∃ S, nameS a k = S := ⟨_, rfl⟩
  obtain ⟨SB, hSB⟩ : ∃ S, nameS b k = S := ⟨_, rfl⟩
  have NA := Lib.hid (Name_as a k SA 6 hSA (nameE_kind a k ha ga (endB_not k (by omega))))
  have NB := Lib.hid (Name_as b k SB 6 hSB (nameE_kind b k hb gb (endB_not k (by omega))))
  clear hSA hSB
  have HT := Lib.hid htab; clear htab
  cases hp : parseL s.data.toList with
  | none =>
    have PS := Lib.hid (Parse_of s (.tuple #[.int .i64 0, .int .i64 0, .bool false]) (by unfold parseV; rw [hp]))
    clear hp
    go_enter Tryd.func5, Tryd.ntmps5
    go_wp2_with fail
    refine (awake_any _ HT.out).mono ?_
    rintro e w1 ⟨rfl, hb1⟩
    have HT1 := Lib.hid (tab_below HT.out hb1)
    go_wp2_with fail
    refine (NA.out _ HT1.out).mono ?_
    rintro e w2 ⟨rfl, hb2⟩
    have hb2 := hb1.trans (hb2.mono hb1.size)
    have HT2 := Lib.hid (tab_below HT.out hb2)
    go_wp2_with fail
    refine (NB.out _ HT2.out).mono ?_
    rintro e w3 ⟨rfl, hb3⟩
    have hb4 := hb2.trans (hb3.mono hb2.size)
    have HT4 := Lib.hid (tab_below HT.out hb4)
    go_wp2_with fail
    refine (PS.out _).mono ?_
    rintro e w5 ⟨rfl, hb5⟩
    go_wp2
    go_ret
    exact ⟨rfl, hb4.trans (hb5.mono hb4.size)⟩
  | some x =>
    obtain ⟨B, K⟩ := x
    obtain ⟨q0, q1, q2, q3⟩ := name_parse _ _ _ hp
    have NS := Lib.hid (Name_as B K s.data.toList 0 ((nameS_good B K q0 q1 q2).1.trans q3) (nameS_good B K q0 q1 q2).2)
    have PS := Lib.hid (Parse_of s (.tuple #[.int .i64 B, .int .i64 K, .bool true]) (by unfold parseV; rw [hp]))
    clear hp q0 q1 q2 q3
    go_enter Tryd.func5, Tryd.ntmps5
    go_wp2_with fail
    refine (awake_any _ HT.out).mono ?_
    rintro e w1 ⟨rfl, hb1⟩
    have HT1 := Lib.hid (tab_below HT.out hb1)
    go_wp2_with fail
    refine (NA.out _ HT1.out).mono ?_
    rintro e w2 ⟨rfl, hb2⟩
    have hb2 := hb1.trans (hb2.mono hb1.size)
    have HT2 := Lib.hid (tab_below HT.out hb2)
    go_wp2_with fail
    refine (NB.out _ HT2.out).mono ?_
    rintro e w3 ⟨rfl, hb3⟩
    have hb4 := hb2.trans (hb3.mono hb2.size)
    have HT4 := Lib.hid (tab_below HT.out hb4)
    go_wp2_with fail
    refine (PS.out _).mono ?_
    rintro e w5 ⟨rfl, hb5⟩
    have HT5 := Lib.hid (tab_below HT4.out hb5)
    go_wp2_with fail
    refine (NS.out _ HT5.out).mono ?_
    rintro e w6 ⟨rfl, hb6⟩
    go_wp2
    go_ret
    exact ⟨rfl, hb4.trans ((hb5.trans (hb6.mono hb5.size)).mono hb4.size)⟩

set_option maxRecDepth 100000 in
set_option maxHeartbeats 1000000 in
theorem back_hgh (a b k : Int) (s : ByteArray) (ha : 0 ≤ a) (ga : a ≤ 4611686018427387904) (hb : b > 4611686018427387904) (hk : k > 2) (w : World) (htab : Tab w) :
    Calls Tryd.prog 5 #[.int .i64 a, .int .i64 b, .int .i64 k, .string s] w fun e w' => e = .returned (.bool true) ∧ Below w.heap.size w w' := by
  obtain ⟨SA, hSA⟩ : ∃ S, nameS a k = S := ⟨_, rfl⟩
  obtain ⟨SB, hSB⟩ : ∃ S, nameS b k = S := ⟨_, rfl⟩
  have NA := Lib.hid (Name_as a k SA 6 hSA (nameE_kind a k ha ga (endB_not k (by omega))))
  have NB := Lib.hid (Name_as b k SB 1 hSB (nameE_hi b k hb))
  clear hSA hSB
  have HT := Lib.hid htab; clear htab
  cases hp : parseL s.data.toList with
  | none =>
    have PS := Lib.hid (Parse_of s (.tuple #[.int .i64 0, .int .i64 0, .bool false]) (by unfold parseV; rw [hp]))
    clear hp
    go_enter Tryd.func5, Tryd.ntmps5
    go_wp2_with fail
    refine (awake_any _ HT.out).mono ?_
    rintro e w1 ⟨rfl, hb1⟩
    have HT1 := Lib.hid (tab_below HT.out hb1)
    go_wp2_with fail
    refine (NA.out _ HT1.out).mono ?_
    rintro e w2 ⟨rfl, hb2⟩
    have hb2 := hb1.trans (hb2.mono hb1.size)
    have HT2 := Lib.hid (tab_below HT.out hb2)
    go_wp2_with fail
    refine (NB.out _ HT2.out).mono ?_
    rintro e w3 ⟨rfl, hb3⟩
    have hb4 := hb2.trans (hb3.mono hb2.size)
    have HT4 := Lib.hid (tab_below HT.out hb4)
    go_wp2_with fail
    refine (PS.out _).mono ?_
    rintro e w5 ⟨rfl, hb5⟩
    go_wp2
    go_ret
    exact ⟨rfl, hb4.trans (hb5.mono hb4.size)⟩
  | some x =>
    obtain ⟨B, K⟩ := x
    obtain ⟨q0, q1, q2, q3⟩ := name_parse _ _ _ hp
    have NS := Lib.hid (Name_as B K s.data.toList 0 ((nameS_good B K q0 q1 q2).1.trans q3) (nameS_good B K q0 q1 q2).2)
    have PS := Lib.hid (Parse_of s (.tuple #[.int .i64 B, .int .i64 K, .bool true]) (by unfold parseV; rw [hp]))
    clear hp q0 q1 q2 q3
    go_enter Tryd.func5, Tryd.ntmps5
    go_wp2_with fail
    refine (awake_any _ HT.out).mono ?_
    rintro e w1 ⟨rfl, hb1⟩
    have HT1 := Lib.hid (tab_below HT.out hb1)
    go_wp2_with fail
    refine (NA.out _ HT1.out).mono ?_
    rintro e w2 ⟨rfl, hb2⟩
    have hb2 := hb1.trans (hb2.mono hb1.size)
    have HT2 := Lib.hid (tab_below HT.out hb2)
    go_wp2_with fail
    refine (NB.out _ HT2.out).mono ?_
    rintro e w3 ⟨rfl, hb3⟩
    have hb4 := hb2.trans (hb3.mono hb2.size)
    have HT4 := Lib.hid (tab_below HT.out hb4)
    go_wp2_with fail
    refine (PS.out _).mono ?_
    rintro e w5 ⟨rfl, hb5⟩
    have HT5 := Lib.hid (tab_below HT4.out hb5)
    go_wp2_with fail
    refine (NS.out _ HT5.out).mono ?_
    rintro e w6 ⟨rfl, hb6⟩
    go_wp2
    go_ret
    exact ⟨rfl, hb4.trans ((hb5.trans (hb6.mono hb5.size)).mono hb4.size)⟩

set_option maxRecDepth 100000 in
set_option maxHeartbeats 1000000 in
theorem back_hhl (a b k : Int) (s : ByteArray) (ha : a > 4611686018427387904) (hb : b < 0) (hk : k > 2) (w : World) (htab : Tab w) :
    Calls Tryd.prog 5 #[.int .i64 a, .int .i64 b, .int .i64 k, .string s] w fun e w' => e = .returned (.bool true) ∧ Below w.heap.size w w' := by
  obtain ⟨SA, hSA⟩ : ∃ S, nameS a k = S := ⟨_, rfl⟩
  obtain ⟨SB, hSB⟩ : ∃ S, nameS b k = S := ⟨_, rfl⟩
  have NA := Lib.hid (Name_as a k SA 1 hSA (nameE_hi a k ha))
  have NB := Lib.hid (Name_as b k SB 1 hSB (nameE_lo b k hb))
  clear hSA hSB
  have HT := Lib.hid htab; clear htab
  cases hp : parseL s.data.toList with
  | none =>
    have PS := Lib.hid (Parse_of s (.tuple #[.int .i64 0, .int .i64 0, .bool false]) (by unfold parseV; rw [hp]))
    clear hp
    go_enter Tryd.func5, Tryd.ntmps5
    go_wp2_with fail
    refine (awake_any _ HT.out).mono ?_
    rintro e w1 ⟨rfl, hb1⟩
    have HT1 := Lib.hid (tab_below HT.out hb1)
    go_wp2_with fail
    refine (NA.out _ HT1.out).mono ?_
    rintro e w2 ⟨rfl, hb2⟩
    have hb2 := hb1.trans (hb2.mono hb1.size)
    have HT2 := Lib.hid (tab_below HT.out hb2)
    go_wp2_with fail
    refine (NB.out _ HT2.out).mono ?_
    rintro e w3 ⟨rfl, hb3⟩
    have hb4 := hb2.trans (hb3.mono hb2.size)
    have HT4 := Lib.hid (tab_below HT.out hb4)
    go_wp2_with fail
    refine (PS.out _).mono ?_
    rintro e w5 ⟨rfl, hb5⟩
    go_wp2
    go_ret
    exact ⟨rfl, hb4.trans (hb5.mono hb4.size)⟩
  | some x =>
    obtain ⟨B, K⟩ := x
    obtain ⟨q0, q1, q2, q3⟩ := name_parse _ _ _ hp
    have NS := Lib.hid (Name_as B K s.data.toList 0 ((nameS_good B K q0 q1 q2).1.trans q3) (nameS_good B K q0 q1 q2).2)
    have PS := Lib.hid (Parse_of s (.tuple #[.int .i64 B, .int .i64 K, .bool true]) (by unfold parseV; rw [hp]))
    clear hp q0 q1 q2 q3
    go_enter Tryd.func5, Tryd.ntmps5
    go_wp2_with fail
    refine (awake_any _ HT.out).mono ?_
    rintro e w1 ⟨rfl, hb1⟩
    have HT1 := Lib.hid (tab_below HT.out hb1)
    go_wp2_with fail
    refine (NA.out _ HT1.out).mono ?_
    rintro e w2 ⟨rfl, hb2⟩
    have hb2 := hb1.trans (hb2.mono hb1.size)
    have HT2 := Lib.hid (tab_below HT.out hb2)
    go_wp2_with fail
    refine (NB.out _ HT2.out).mono ?_
    rintro e w3 ⟨rfl, hb3⟩
    have hb4 := hb2.trans (hb3.mono hb2.size)
    have HT4 := Lib.hid (tab_below HT.out hb4)
    go_wp2_with fail
    refine (PS.out _).mono ?_
    rintro e w5 ⟨rfl, hb5⟩
    have HT5 := Lib.hid (tab_below HT4.out hb5)
    go_wp2_with fail
    refine (NS.out _ HT5.out).mono ?_
    rintro e w6 ⟨rfl, hb6⟩
    go_wp2
    go_ret
    exact ⟨rfl, hb4.trans ((hb5.trans (hb6.mono hb5.size)).mono hb4.size)⟩

set_option maxRecDepth 100000 in
set_option maxHeartbeats 1000000 in
theorem back_hhg (a b k : Int) (s : ByteArray) (ha : a > 4611686018427387904) (hb : 0 ≤ b) (gb : b ≤ 4611686018427387904) (hk : k > 2) (w : World) (htab : Tab w) :
    Calls Tryd.prog 5 #[.int .i64 a, .int .i64 b, .int .i64 k, .string s] w fun e w' => e = .returned (.bool true) ∧ Below w.heap.size w w' := by
  obtain ⟨SA, hSA⟩ : ∃ S, nameS a k = S := ⟨_, rfl⟩
  obtain ⟨SB, hSB⟩ : ∃ S, nameS b k = S := ⟨_, rfl⟩
  have NA := Lib.hid (Name_as a k SA 1 hSA (nameE_hi a k ha))
  have NB := Lib.hid (Name_as b k SB 6 hSB (nameE_kind b k hb gb (endB_not k (by omega))))
  clear hSA hSB
  have HT := Lib.hid htab; clear htab
  cases hp : parseL s.data.toList with
  | none =>
    have PS := Lib.hid (Parse_of s (.tuple #[.int .i64 0, .int .i64 0, .bool false]) (by unfold parseV; rw [hp]))
    clear hp
    go_enter Tryd.func5, Tryd.ntmps5
    go_wp2_with fail
    refine (awake_any _ HT.out).mono ?_
    rintro e w1 ⟨rfl, hb1⟩
    have HT1 := Lib.hid (tab_below HT.out hb1)
    go_wp2_with fail
    refine (NA.out _ HT1.out).mono ?_
    rintro e w2 ⟨rfl, hb2⟩
    have hb2 := hb1.trans (hb2.mono hb1.size)
    have HT2 := Lib.hid (tab_below HT.out hb2)
    go_wp2_with fail
    refine (NB.out _ HT2.out).mono ?_
    rintro e w3 ⟨rfl, hb3⟩
    have hb4 := hb2.trans (hb3.mono hb2.size)
    have HT4 := Lib.hid (tab_below HT.out hb4)
    go_wp2_with fail
    refine (PS.out _).mono ?_
    rintro e w5 ⟨rfl, hb5⟩
    go_wp2
    go_ret
    exact ⟨rfl, hb4.trans (hb5.mono hb4.size)⟩
  | some x =>
    obtain ⟨B, K⟩ := x
    obtain ⟨q0, q1, q2, q3⟩ := name_parse _ _ _ hp
    have NS := Lib.hid (Name_as B K s.data.toList 0 ((nameS_good B K q0 q1 q2).1.trans q3) (nameS_good B K q0 q1 q2).2)
    have PS := Lib.hid (Parse_of s (.tuple #[.int .i64 B, .int .i64 K, .bool true]) (by unfold parseV; rw [hp]))
    clear hp q0 q1 q2 q3
    go_enter Tryd.func5, Tryd.ntmps5
    go_wp2_with fail
    refine (awake_any _ HT.out).mono ?_
    rintro e w1 ⟨rfl, hb1⟩
    have HT1 := Lib.hid (tab_below HT.out hb1)
    go_wp2_with fail
    refine (NA.out _ HT1.out).mono ?_
    rintro e w2 ⟨rfl, hb2⟩
    have hb2 := hb1.trans (hb2.mono hb1.size)
    have HT2 := Lib.hid (tab_below HT.out hb2)
    go_wp2_with fail
    refine (NB.out _ HT2.out).mono ?_
    rintro e w3 ⟨rfl, hb3⟩
    have hb4 := hb2.trans (hb3.mono hb2.size)
    have HT4 := Lib.hid (tab_below HT.out hb4)
    go_wp2_with fail
    refine (PS.out _).mono ?_
    rintro e w5 ⟨rfl, hb5⟩
    have HT5 := Lib.hid (tab_below HT4.out hb5)
    go_wp2_with fail
    refine (NS.out _ HT5.out).mono ?_
    rintro e w6 ⟨rfl, hb6⟩
    go_wp2
    go_ret
    exact ⟨rfl, hb4.trans ((hb5.trans (hb6.mono hb5.size)).mono hb4.size)⟩

set_option maxRecDepth 100000 in
set_option maxHeartbeats 1000000 in
theorem back_hhh (a b k : Int) (s : ByteArray) (ha : a > 4611686018427387904) (hb : b > 4611686018427387904) (hk : k > 2) (w : World) (htab : Tab w) :
    Calls Tryd.prog 5 #[.int .i64 a, .int .i64 b, .int .i64 k, .string s] w fun e w' => e = .returned (.bool true) ∧ Below w.heap.size w w' := by
  obtain ⟨SA, hSA⟩ : ∃ S, nameS a k = S := ⟨_, rfl⟩
  obtain ⟨SB, hSB⟩ : ∃ S, nameS b k = S := ⟨_, rfl⟩
  have NA := Lib.hid (Name_as a k SA 1 hSA (nameE_hi a k ha))
  have NB := Lib.hid (Name_as b k SB 1 hSB (nameE_hi b k hb))
  clear hSA hSB
  have HT := Lib.hid htab; clear htab
  cases hp : parseL s.data.toList with
  | none =>
    have PS := Lib.hid (Parse_of s (.tuple #[.int .i64 0, .int .i64 0, .bool false]) (by unfold parseV; rw [hp]))
    clear hp
    go_enter Tryd.func5, Tryd.ntmps5
    go_wp2_with fail
    refine (awake_any _ HT.out).mono ?_
    rintro e w1 ⟨rfl, hb1⟩
    have HT1 := Lib.hid (tab_below HT.out hb1)
    go_wp2_with fail
    refine (NA.out _ HT1.out).mono ?_
    rintro e w2 ⟨rfl, hb2⟩
    have hb2 := hb1.trans (hb2.mono hb1.size)
    have HT2 := Lib.hid (tab_below HT.out hb2)
    go_wp2_with fail
    refine (NB.out _ HT2.out).mono ?_
    rintro e w3 ⟨rfl, hb3⟩
    have hb4 := hb2.trans (hb3.mono hb2.size)
    have HT4 := Lib.hid (tab_below HT.out hb4)
    go_wp2_with fail
    refine (PS.out _).mono ?_
    rintro e w5 ⟨rfl, hb5⟩
    go_wp2
    go_ret
    exact ⟨rfl, hb4.trans (hb5.mono hb4.size)⟩
  | some x =>
    obtain ⟨B, K⟩ := x
    obtain ⟨q0, q1, q2, q3⟩ := name_parse _ _ _ hp
    have NS := Lib.hid (Name_as B K s.data.toList 0 ((nameS_good B K q0 q1 q2).1.trans q3) (nameS_good B K q0 q1 q2).2)
    have PS := Lib.hid (Parse_of s (.tuple #[.int .i64 B, .int .i64 K, .bool true]) (by unfold parseV; rw [hp]))
    clear hp q0 q1 q2 q3
    go_enter Tryd.func5, Tryd.ntmps5
    go_wp2_with fail
    refine (awake_any _ HT.out).mono ?_
    rintro e w1 ⟨rfl, hb1⟩
    have HT1 := Lib.hid (tab_below HT.out hb1)
    go_wp2_with fail
    refine (NA.out _ HT1.out).mono ?_
    rintro e w2 ⟨rfl, hb2⟩
    have hb2 := hb1.trans (hb2.mono hb1.size)
    have HT2 := Lib.hid (tab_below HT.out hb2)
    go_wp2_with fail
    refine (NB.out _ HT2.out).mono ?_
    rintro e w3 ⟨rfl, hb3⟩
    have hb4 := hb2.trans (hb3.mono hb2.size)
    have HT4 := Lib.hid (tab_below HT.out hb4)
    go_wp2_with fail
    refine (PS.out _).mono ?_
    rintro e w5 ⟨rfl, hb5⟩
    have HT5 := Lib.hid (tab_below HT4.out hb5)
    go_wp2_with fail
    refine (NS.out _ HT5.out).mono ?_
    rintro e w6 ⟨rfl, hb6⟩
    go_wp2
    go_ret
    exact ⟨rfl, hb4.trans ((hb5.trans (hb6.mono hb5.size)).mono hb4.size)⟩

theorem NamesBack_walk (w : World) (a b k : Int) (s : ByteArray) (_wa : (Lit.int .i64 a).wf = true) (_wb : (Lit.int .i64 b).wf = true) (_wk : (Lit.int .i64 k).wf = true) (_ws : s.size ≤ maxLen) (htab : Tab w) :
    Calls Tryd.prog 5 #[.int .i64 a, .int .i64 b, .int .i64 k, .string s] w fun e w' => e = .returned (.bool true) ∧ Below w.heap.size w w' := by
  have tri : ∀ x m : Int, x < 0 ∨ (0 ≤ x ∧ x ≤ m) ∨ x > m := fun x m => by omega
  rcases tri k 2 with hk | ⟨hk, gk⟩ | hk
  · rcases tri a 4611686018427387904 with ha | ⟨ha, ga⟩ | ha
    · rcases tri b 4611686018427387904 with hb | ⟨hb, gb⟩ | hb
      · exact back_lll a b k s ha hb hk w htab
      · exact back_llg a b k s ha hb gb hk w htab
      · exact back_llh a b k s ha hb hk w htab
    · rcases tri b 4611686018427387904 with hb | ⟨hb, gb⟩ | hb
      · exact back_lgl a b k s ha ga hb hk w htab
      · exact back_lgg a b k s ha ga hb gb hk w htab
      · exact back_lgh a b k s ha ga hb hk w htab
    · rcases tri b 4611686018427387904 with hb | ⟨hb, gb⟩ | hb
      · exact back_lhl a b k s ha hb hk w htab
      · exact back_lhg a b k s ha hb gb hk w htab
      · exact back_lhh a b k s ha hb hk w htab
  · rcases tri a 4611686018427387904 with ha | ⟨ha, ga⟩ | ha
    · rcases tri b 4611686018427387904 with hb | ⟨hb, gb⟩ | hb
      · exact back_gll a b k s ha hb hk gk w htab
      · exact back_glg a b k s ha hb gb hk gk w htab
      · exact back_glh a b k s ha hb hk gk w htab
    · rcases tri b 4611686018427387904 with hb | ⟨hb, gb⟩ | hb
      · exact back_ggl a b k s ha ga hb hk gk w htab
      · rcases Int.lt_or_le a b with hab | hab
        · exact back_ggg a b k s ha ga hb gb hk gk hab w htab
        · exact back_ggm a b k s ha ga hb gb hk gk hab w htab
      · exact back_ggh a b k s ha ga hb hk gk w htab
    · rcases tri b 4611686018427387904 with hb | ⟨hb, gb⟩ | hb
      · exact back_ghl a b k s ha hb hk gk w htab
      · exact back_ghg a b k s ha hb gb hk gk w htab
      · exact back_ghh a b k s ha hb hk gk w htab
  · rcases tri a 4611686018427387904 with ha | ⟨ha, ga⟩ | ha
    · rcases tri b 4611686018427387904 with hb | ⟨hb, gb⟩ | hb
      · exact back_hll a b k s ha hb hk w htab
      · exact back_hlg a b k s ha hb gb hk w htab
      · exact back_hlh a b k s ha hb hk w htab
    · rcases tri b 4611686018427387904 with hb | ⟨hb, gb⟩ | hb
      · exact back_hgl a b k s ha ga hb hk w htab
      · exact back_hgg a b k s ha ga hb gb hk w htab
      · exact back_hgh a b k s ha ga hb hk w htab
    · rcases tri b 4611686018427387904 with hb | ⟨hb, gb⟩ | hb
      · exact back_hhl a b k s ha hb hk w htab
      · exact back_hhg a b k s ha hb gb hk w htab
      · exact back_hhh a b k s ha hb hk w htab
end Go.Proofs.YtbnplhbepkggpaaDoor.nm
