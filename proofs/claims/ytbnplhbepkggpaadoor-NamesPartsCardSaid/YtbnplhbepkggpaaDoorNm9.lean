/- Slices of segments; the contracts of Next and of the reference's Next. -/
import Derived.Test.YtbnplhbepkggpaaDoorNm8
import Derived.Deep.QuietTactic
import Derived.BigQuiet
import Derived.StillTailTactics
namespace Go.Proofs.YtbnplhbepkggpaaDoor.nm
open Go Go.RowKit Go.WideShapes Go.ChangeShapes

/-- A segment as names tells it: its base, and which files are there. -/
structure Seg where
  base : Int
  h0 : Bool
  h1 : Bool
  h2 : Bool
  deriving DecidableEq, Inhabited

def Seg.cells (s : Seg) : List Value := [.int .i64 s.base, .bool s.h0, .bool s.h1, .bool s.h2]

/-- A slice value whose elements are these segments (four cells each). -/
def SegRow (w : World) (v : Value) (l : List Seg) : Prop :=
  ∃ a cap, v = .slice a l.length cap ∧ l.length ≤ cap ∧ cap ≤ maxLen ∧
    (l ≠ [] → ∃ b off, a = some ⟨b, off, none⟩ ∧ b < w.heap.size ∧ ∀ i (h : i < l.length), 
      w.cell? ⟨b, off + i * 4, none⟩ = some (.int .i64 l[i].base) ∧ w.cell? ⟨b, off + i * 4 + 1, none⟩ = some (.bool l[i].h0) ∧
      w.cell? ⟨b, off + i * 4 + 2, none⟩ = some (.bool l[i].h1) ∧ w.cell? ⟨b, off + i * 4 + 3, none⟩ = some (.bool l[i].h2))

/-- Next's step. -/
def nstep (base : Int) (x : Int × Bool) (s : Seg) : Int × Bool := if s.base > base ∧ s.h0 = true ∧ (x.2 = false ∨ s.base < x.1) then (s.base, true) else x
def nextL (base : Int) (l : List Seg) : Int × Bool := l.foldl (nstep base) (0, false)
theorem next_snoc (base : Int) (l : List Seg) (k : Nat) (h : k < l.length) : nextL base (l.take (k + 1)) = nstep base (nextL base (l.take k)) l[k] := by
  unfold nextL; rw [List.take_succ_eq_append_getElem h, List.foldl_append]; rfl

theorem nst1 {base sb N : Int} {s0 s1 s2 F : Bool} (h1 : base < sb) (h2 : s0 = true) (h4 : sb < N) : nstep base (N, F) ⟨sb, s0, s1, s2⟩ = (sb, true) := by
  unfold nstep; rw [if_pos ⟨h1, h2, Or.inr h4⟩]
theorem nst2 {base sb N : Int} {s0 s1 s2 F : Bool} (h3 : F = true) (h4 : N ≤ sb) : nstep base (N, F) ⟨sb, s0, s1, s2⟩ = (N, F) := by
  unfold nstep; rw [if_neg]; rintro ⟨_, _, h | h⟩
  · exact absurd (h3.symm.trans h) (by decide)
  · exact absurd h4 (Int.not_le.2 h)
theorem nst3 {base sb N : Int} {s0 s1 s2 F : Bool} (h1 : base < sb) (h2 : s0 = true) (h3 : ¬ F = true) : nstep base (N, F) ⟨sb, s0, s1, s2⟩ = (sb, true) := by
  unfold nstep; rw [if_pos ⟨h1, h2, Or.inl (by simpa using h3)⟩]
theorem nst4 {base sb N : Int} {s0 s1 s2 F : Bool} (h2 : ¬ s0 = true) : nstep base (N, F) ⟨sb, s0, s1, s2⟩ = (N, F) := by
  unfold nstep; rw [if_neg]; rintro ⟨_, h, _⟩; exact h2 h
theorem nst5 {base sb N : Int} {s0 s1 s2 F : Bool} (h1 : ¬ base < sb) : nstep base (N, F) ⟨sb, s0, s1, s2⟩ = (N, F) := by
  unfold nstep; rw [if_neg]; rintro ⟨h, _⟩; exact h1 h

set_option maxRecDepth 100000 in
set_option maxHeartbeats 1000000 in
theorem Next_any (w : World) (base : Int) (v : Value) (l : List Seg) (hv : SegRow w v l) :
    Calls Tryd.prog 15 #[.int .i64 base, v] w fun e w' => e = .returned (.tuple #[.int .i64 (nextL base l).1, .bool (nextL base l).2]) ∧ Below w.heap.size w w' := by
  obtain ⟨a, cap, rfl, hcap, hcap2, hrow⟩ := hv
  unfold maxLen at hcap2
  have hn : l.length ≤ 9223372036854775807 := by omega
  clear hcap hcap2
  have HR := Lib.hid hrow; clear hrow
  go_enter Tryd.func15, Tryd.ntmps15
  go_wp2
  go_loopw [6, 7, 12] (fun n f i wr => ∃ (k : Nat) (N : Int) (F : Bool), k ≤ l.length ∧ i = .int .i64 k ∧ Hid (nextL base (l.take k) = (N, F)) ∧ n = .int .i64 N ∧ f = .bool F ∧ Below w.heap.size w wr) (fun _ _ i _ => l.length - (intOf i).toNat)
  case atStart => exact ⟨0, 0, false, by omega, rfl, Lib.hid rfl, rfl, rfl, Below.refl _ _⟩
  case round =>
    obtain ⟨k, N, F, hk, rfl, HN, rfl, rfl, hb⟩ := hrel
    by_cases hlt : k < l.length
    · obtain ⟨b, off, rfl, hblt, hcell⟩ := HR.out (by rintro rfl; simp at hlt)
      obtain ⟨s, hs⟩ : ∃ s, l[k] = s := ⟨_, rfl⟩
      obtain ⟨c0, c1, c2, c3⟩ := hcell k hlt
      rw [hs] at c0 c1 c2 c3
      have HS := Lib.hid hs; clear hs hcell
      obtain ⟨sb, s0, s1, s2⟩ := s
      rw [← hb.cell (p := ⟨b, _, none⟩) hblt] at c0 c1 c2 c3
      have hsn := fun X e => (next_snoc base l k hlt).trans ((congrArg (fun x => nstep base x l[k]) HN.out).trans ((congrArg (nstep base (N, F)) HS.out).trans (e : _ = (X : Int × Bool))))
      have HSN := Lib.hid hsn; clear hsn
      go_wp2
      all_goals
        go_roundw
        case rel =>
          refine ⟨k + 1, _, _, by omega, by go_num, Lib.hid (HSN.out _ ?_), rfl, rfl, hb.alloc hb.size _⟩
          first
            | exact nst1 ‹_› ‹_› ‹_›
            | exact nst3 ‹_› ‹_› ‹_›
            | (rw [nst2 ‹_› ‹_›]; first | rfl | simp [*])
            | exact nst4 ‹_›
            | exact nst5 ‹_›
        case measure => simp [intOf]; omega
    · go_wp2
      go_ret2
      have e : nextL base l = (N, F) := by
        have := HN.out
        rwa [List.take_of_length_le (by omega)] at this
      exact ⟨by rw [e]; rfl, hb⟩
set_option maxRecDepth 100000 in
set_option maxHeartbeats 1000000 in
theorem rNext_any (w : World) (base : Int) (v : Value) (l : List Seg) (hv : SegRow w v l) :
    Calls Tryd.prog 16 #[.int .i64 base, v] w fun e w' => e = .returned (.tuple #[.int .i64 (nextL base l).1, .bool (nextL base l).2]) ∧ Below w.heap.size w w' := by
  obtain ⟨a, cap, rfl, hcap, hcap2, hrow⟩ := hv
  unfold maxLen at hcap2
  have hn : l.length ≤ 9223372036854775807 := by omega
  clear hcap hcap2
  have HR := Lib.hid hrow; clear hrow
  go_enter Tryd.func16, Tryd.ntmps16
  go_wp2
  go_loopw [6, 7, 8] (fun n f i wr => ∃ (k : Nat) (N : Int) (F : Bool), k ≤ l.length ∧ i = .int .i64 k ∧ Hid (nextL base (l.take k) = (N, F)) ∧ n = .int .i64 N ∧ f = .bool F ∧ Below w.heap.size w wr) (fun _ _ i _ => l.length - (intOf i).toNat)
  case atStart => exact ⟨0, 0, false, by omega, rfl, Lib.hid rfl, rfl, rfl, Below.refl _ _⟩
  case round =>
    obtain ⟨k, N, F, hk, rfl, HN, rfl, rfl, hb⟩ := hrel
    by_cases hlt : k < l.length
    · obtain ⟨b, off, rfl, hblt, hcell⟩ := HR.out (by rintro rfl; simp at hlt)
      obtain ⟨s, hs⟩ : ∃ s, l[k] = s := ⟨_, rfl⟩
      obtain ⟨c0, c1, c2, c3⟩ := hcell k hlt
      rw [hs] at c0 c1 c2 c3
      have HS := Lib.hid hs; clear hs hcell
      obtain ⟨sb, s0, s1, s2⟩ := s
      rw [← hb.cell (p := ⟨b, _, none⟩) hblt] at c0 c1 c2 c3
      have hsn := fun X e => (next_snoc base l k hlt).trans ((congrArg (fun x => nstep base x l[k]) HN.out).trans ((congrArg (nstep base (N, F)) HS.out).trans (e : _ = (X : Int × Bool))))
      have HSN := Lib.hid hsn; clear hsn
      go_wp2
      all_goals
        go_roundw
        case rel =>
          refine ⟨k + 1, _, _, by omega, by go_num, Lib.hid (HSN.out _ ?_), rfl, rfl, hb⟩
          first
            | exact nst1 ‹_› ‹_› ‹_›
            | exact nst3 ‹_› ‹_› ‹_›
            | (rw [nst2 ‹_› ‹_›]; first | rfl | simp [*])
            | exact nst4 ‹_›
            | exact nst5 ‹_›
        case measure => simp [intOf]; omega
    · go_wp2
      go_ret2
      have e : nextL base l = (N, F) := by
        have := HN.out
        rwa [List.take_of_length_le (by omega)] at this
      exact ⟨by rw [e]; rfl, hb⟩
end Go.Proofs.YtbnplhbepkggpaaDoor.nm
