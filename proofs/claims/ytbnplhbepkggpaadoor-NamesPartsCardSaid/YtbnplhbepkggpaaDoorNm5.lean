/- The contract of awake, and the walks of the laws NamesNames and NamesBack. -/
import Derived.Test.YtbnplhbepkggpaaDoorNm4
namespace Go.Proofs.YtbnplhbepkggpaaDoor.nm
open Go Go.RowKit

def seven : List UInt8 := [48, 48, 48, 48, 48, 48, 48, 48, 48, 48, 48, 48, 48, 48, 48, 48, 48, 48, 48, 55, 46, 111, 102, 102]
theorem name_seven : nameS 7 1 = seven := by decide +kernel
theorem nameE_seven : nameE 7 1 = 0 := by decide +kernel
theorem parse_seven : parseL seven = some (7, 1) := by decide +kernel
theorem parse_bad : parseL [55, 46, 108, 111, 103] = none := by decide +kernel
theorem parseV_seven : parseV seven = .tuple #[.int .i64 7, .int .i64 1, .bool true] := by unfold parseV; rw [parse_seven]
theorem parseV_bad : parseV [55, 46, 108, 111, 103] = .tuple #[.int .i64 0, .int .i64 0, .bool false] := by unfold parseV; rw [parse_bad]

abbrev Tab (w : World) : Prop := Lib.TabIs Tryd.prog w "internal/strconv.uint64pow10" .u64 Lib.pow10Tab
theorem gTab : Tryd.prog.globalNamed "internal/strconv.uint64pow10" = some 0 := by kernel_rfl
theorem tab_lt {w : World} (h : Tab w) : 0 < w.heap.size := by
  unfold Tab Lib.TabIs World.var? at h
  rw [gTab] at h
  simp only [Option.bind_some] at h
  rcases Nat.lt_or_ge 0 w.heap.size with h1 | h1
  · exact h1
  · rw [Array.getElem?_eq_none h1] at h; cases h
theorem tab_below {w w' : World} (h : Tab w) (hb : Below w.heap.size w w') : Tab w' := var?_below hb gTab (tab_lt h) h

set_option maxRecDepth 100000 in
set_option maxHeartbeats 400000 in
theorem awake_any (w : World) (htab : Tab w) :
    Calls Tryd.prog 9 #[] w fun e w' => e = .returned (.bool true) ∧ Below w.heap.size w w' := by
  have h1 := Name_any 7 1 w htab
  rw [name_seven, nameE_seven] at h1
  have h2 : ∀ w, Calls Tryd.prog 12 #[.string ⟨seven.toArray⟩] w fun e w' => e = .returned (.tuple #[.int .i64 7, .int .i64 1, .bool true]) ∧ Below w.heap.size w w' := by
    intro w; have := Parse_any ⟨seven.toArray⟩ w; rwa [show (⟨seven.toArray⟩ : ByteArray).data.toList = seven from rfl, parseV_seven] at this
  have h3 : ∀ w, Calls Tryd.prog 12 #[.string ⟨#[55, 46, 108, 111, 103]⟩] w fun e w' => e = .returned (.tuple #[.int .i64 0, .int .i64 0, .bool false]) ∧ Below w.heap.size w w' := by
    intro w; have := Parse_any ⟨#[55, 46, 108, 111, 103]⟩ w; rwa [show (⟨#[55, 46, 108, 111, 103]⟩ : ByteArray).data.toList = [55, 46, 108, 111, 103] from rfl, parseV_bad] at this
  have H1 := Lib.hid h1; have H2 := Lib.hid h2; have H3 := Lib.hid h3; clear h1 h2 h3 htab
  go_enter Tryd.func9, Tryd.ntmps9
  go_wp2_with fail
  refine H1.out.mono ?_
  rintro e w1 ⟨rfl, hb1⟩
  go_wp2_with fail
  refine (H2.out _).mono ?_
  rintro e w2 ⟨rfl, hb2⟩
  go_wp2_with fail
  refine (H3.out _).mono ?_
  rintro e w3 ⟨rfl, hb3⟩
  go_wp2
  go_ret
  exact ⟨rfl, hb1.trans ((hb2.trans (hb3.mono hb2.size)).mono hb1.size)⟩

set_option maxRecDepth 100000 in
set_option maxHeartbeats 400000 in
theorem NamesNames_walk (w : World) (b k : Int) (_wb : (Lit.int .i64 b).wf = true) (_wk : (Lit.int .i64 k).wf = true) (htab : Tab w) :
    Calls Tryd.prog 3 #[.int .i64 b, .int .i64 k] w fun e w' => e = .returned (.bool true) ∧ Below w.heap.size w w' := by
  have HT := Lib.hid htab; clear htab
  go_enter Tryd.func3, Tryd.ntmps3
  go_wp2_with fail
  refine (awake_any _ HT.out).mono ?_
  rintro e w1 ⟨rfl, hb1⟩
  have HT1 := Lib.hid (tab_below HT.out hb1)
  go_wp2_with fail
  refine (Name_any _ _ _ HT1.out).mono ?_
  rintro e w2 ⟨rfl, hb2⟩
  go_wp2_with fail
  refine (rName_any _ _ _).mono ?_
  rintro e w3 ⟨rfl, hb3⟩
  go_wp2
  go_ret
  exact ⟨rfl, hb1.trans ((hb2.trans (hb3.mono hb2.size)).mono hb1.size)⟩
end Go.Proofs.YtbnplhbepkggpaaDoor.nm
