/- A slice of strings that came in; the walk of the law NamesParses. -/
import Derived.Test.YtbnplhbepkggpaaDoorNm6
import Derived.SliceStrings
import Derived.ProofKit
namespace Go.Proofs.YtbnplhbepkggpaaDoor.nm
open Go Go.RowKit Go.WideShapes Go.ChangeShapes

/-- A slice value whose elements are these strings. -/
def StrRow (w : World) (v : Value) (ss : List ByteArray) : Prop :=
  ∃ a cap, v = .slice a ss.length cap ∧ ss.length ≤ cap ∧ cap ≤ maxLen ∧ (a = none → cap = 0) ∧ (∀ s ∈ ss, s.size ≤ maxLen) ∧
    (ss ≠ [] → ∃ b off, a = some ⟨b, off, none⟩ ∧ b < w.heap.size ∧ ∀ i (h : i < ss.length), w.cell? ⟨b, off + i, none⟩ = some (.string ss[i]))

theorem cell_plain {w : World} {a : Addr} {v : Value} (h : w.cell? a = some v) : a.spot = none := by
  unfold World.cell? at h
  split at h
  · split at h
    · cases h
    · rename_i hs; simpa using hs
  · cases h
theorem cell_lt {w : World} {a : Addr} {v : Value} (h : w.cell? a = some v) : a.block < w.heap.size := by
  rcases Nat.lt_or_ge a.block w.heap.size with h1 | h1
  · exact h1
  · unfold World.cell? at h; rw [Array.getElem?_eq_none h1] at h; cases h
theorem add_plain (b off i : Nat) : (⟨b, off, none⟩ : Addr).add i = ⟨b, off + i, none⟩ := by unfold Addr.add; split <;> simp_all

set_option maxRecDepth 100000 in
theorem strRow_of {H : Type} {enc : TypeId × Value → H} {W : World} {v : Value} {d : DataW H} {p : List MemPlace} {base : Nat}
    (o : Value.okWide Tryd.prog W .any base 29 v) (h : DataW.Trod enc Tryd.prog W 0 (fun _ => true) true 29 v d p) :
    ∃ ss, StrRow W v ss ∧ ((d = .nil ∧ ss = []) ∨ ∃ rest, d = .slice (ss.map fun s => .lit (.string s.data.toList)) rest) := by
  obtain ⟨a, len, cap, rfl⟩ := okWide_slice Tryd.underlying29 o
  obtain ⟨fuel, hf⟩ := h
  rcases open_strings Tryd.underlying29 Tryd.underlying9 (by kernel_rfl) hf with ⟨hcs, hx⟩ | ⟨a', len', cap', ss, hcs, _, hl, hm, hz, hx, hcell, hws⟩
  · simp [Value.cells] at hcs
    obtain ⟨rfl, rfl, rfl⟩ := hcs
    simp only [Prod.mk.injEq] at hx
    exact ⟨[], ⟨none, 0, rfl, Nat.le_refl _, by simp, fun _ => rfl, by simp, by simp⟩, Or.inl ⟨hx.1, rfl⟩⟩
  · simp [Value.cells] at hcs
    obtain ⟨rfl, rfl, rfl⟩ := hcs
    simp only [Prod.mk.injEq] at hx
    have hlen : (ss.take len).length = len := by simp at hz; simp; omega
    refine ⟨ss.take len, ⟨some a', cap, by rw [hlen], by rw [hlen]; exact hl, hm, by simp, fun s hs => hws s (List.mem_of_mem_take hs), ?_⟩, Or.inr ⟨_, hx.1⟩⟩
    intro hne
    have h0 : 0 < ss.length := by
      rcases ss with _ | ⟨x, l⟩
      · simp at hne
      · simp
    have c0 := hcell 0 h0
    have hsp := cell_plain c0
    obtain ⟨b, off, spot⟩ := a'
    have hsp' : spot = none := by simpa [Addr.add] using hsp
    subst hsp'
    refine ⟨b, off, rfl, ?_, fun i hi => ?_⟩
    · have := cell_lt c0; simpa [Addr.add] using this
    · have hi' : i < ss.length := by simp at hi; omega
      have := hcell i hi'
      rw [add_plain] at this
      rw [this]
      simp [List.getD, List.getElem?_eq_getElem hi']

set_option maxRecDepth 100000 in
set_option maxHeartbeats 1000000 in
theorem NamesParses_row (w : World) (v : Value) (ss : List ByteArray) (hv : StrRow w v ss) (htab : Tab w) :
    Calls Tryd.prog 4 #[v] w fun e w' => e = .returned (.bool true) ∧ Below w.heap.size w w' := by
  obtain ⟨a, cap, rfl, hcap, hcap2, _, _, hrow⟩ := hv
  unfold maxLen at hcap2
  have hn : ss.length ≤ 9223372036854775807 := by omega
  clear hcap hcap2
  have HR := Lib.hid hrow; clear hrow
  have HT := Lib.hid htab; clear htab
  go_enter Tryd.func4, Tryd.ntmps4
  go_wp2_with fail
  refine (awake_any _ HT.out).mono ?_
  rintro e w1 ⟨rfl, hb1⟩
  go_wp2
  go_loopw [3] (fun i wr => ∃ k : Nat, k ≤ ss.length ∧ i = .int .i64 k ∧ Below w.heap.size w wr) (fun i _ => ss.length - (intOf i).toNat)
  case atStart => exact ⟨0, by omega, rfl, hb1⟩
  case round =>
    obtain ⟨k, hk, rfl, hb⟩ := hrel
    by_cases hlt : k < ss.length
    · obtain ⟨b, off, rfl, hblt, hcell⟩ := HR.out (by rintro rfl; simp at hlt)
      obtain ⟨s, hs⟩ : ∃ s, ss[k] = s := ⟨_, rfl⟩
      have hc : wr.cell? ⟨b, off + k, none⟩ = some (.string s) := by rw [hb.cell (p := ⟨b, off + k, none⟩) hblt, hcell k hlt, hs]
      clear hs hcell
      obtain ⟨B, K, ok, hpv⟩ : ∃ (B K : Int) (ok : Bool), parseV s.data.toList = .tuple #[.int .i64 B, .int .i64 K, .bool ok] := by
        unfold parseV; split
        · exact ⟨_, _, _, rfl⟩
        · exact ⟨_, _, _, rfl⟩
      have hP := fun w => Parse_any s w
      have hR := fun w => rParse_any s w
      rw [hpv] at hP hR
      have HP := Lib.hid hP; have HRP := Lib.hid hR; clear hP hR hpv
      go_wp2_with fail
      refine (HP.out _).mono ?_
      rintro e w2 ⟨rfl, hb2⟩
      have hc2 : w2.cell? ⟨b, off + k, none⟩ = some (.string s) := by rw [hb2.cell (p := ⟨b, off + k, none⟩) (by have := hb.size; simp; omega), hc]
      clear hc
      go_wp2_with fail
      refine (HRP.out _).mono ?_
      rintro e w3 ⟨rfl, rfl⟩
      go_wp2
      go_roundw
      case rel => exact ⟨k + 1, by omega, by go_num, hb.trans (hb2.mono hb.size)⟩
      case measure => simp [intOf]; omega
    · go_wp2
      go_ret
      exact ⟨rfl, hb⟩

set_option maxRecDepth 100000 in
theorem NamesParses_walk {H : Type} {enc : TypeId × Value → H} {d : DataW H} {p : List MemPlace} {base : Nat} {ts : List TypeId} {ds : List (DataW H)} (w : World) (v : Value)
    (o : Value.okWide Tryd.prog w .any base 29 v) (k : DataW.Trod enc Tryd.prog w 0 (fun _ => true) true 29 v d p) (_lt : ∀ x ∈ p, x.block < w.heap.size)
    (_hsz : (DataW.weightsEach Tryd.prog ts ds).all (· ≤ reachBytes) = true) (htab : Tab w) :
    Calls Tryd.prog 4 #[v] w fun e w' => e = .returned (.bool true) ∧ Below w.heap.size w w' := by
  obtain ⟨ss, hv, _⟩ := strRow_of o k
  exact NamesParses_row w v ss hv htab
end Go.Proofs.YtbnplhbepkggpaaDoor.nm
