/- The contract of same where both hold the same segments, and the walk of the law NamesNexts. -/
import Derived.Test.YtbnplhbepkggpaaDoorNmA
import Derived.Lib.QuietBelow
namespace Go.Proofs.YtbnplhbepkggpaaDoor.nm
open Go Go.RowKit Go.WideShapes Go.ChangeShapes

set_option maxRecDepth 100000 in
set_option maxHeartbeats 1000000 in
theorem same_eq (w : World) (v u : Value) (l : List Seg) (hv : SegRow w v l) (hu : SegRow w u l) :
    Calls Tryd.prog 17 #[v, u] w fun e w' => e = .returned (.bool true) ∧ Below w.heap.size w w' := by
  obtain ⟨a, cap, rfl, hcap, hcap2, hrow⟩ := hv
  obtain ⟨a', cap', rfl, _, _, hrow'⟩ := hu
  unfold maxLen at hcap2
  have hn : l.length ≤ 9223372036854775807 := by omega
  clear hcap hcap2
  have HR := Lib.hid hrow; clear hrow
  have HR' := Lib.hid hrow'; clear hrow'
  go_enter Tryd.func17, Tryd.ntmps17
  go_wp2
  go_loopw [5] (fun i wr => ∃ (k : Nat), k ≤ l.length ∧ i = .int .i64 k ∧ Below w.heap.size w wr) (fun i _ => l.length - (intOf i).toNat)
  case atStart => exact ⟨0, by omega, rfl, Below.refl _ _⟩
  case round =>
    obtain ⟨k, hk, rfl, hb⟩ := hrel
    by_cases hlt : k < l.length
    · have hne : l ≠ [] := by rintro rfl; simp at hlt
      obtain ⟨b, off, rfl, hblt, hcell⟩ := HR.out hne
      obtain ⟨b', off', rfl, hblt', hcell'⟩ := HR'.out hne
      obtain ⟨s, hs⟩ : ∃ s, l[k] = s := ⟨_, rfl⟩
      obtain ⟨c0, c1, c2, c3⟩ := hcell k hlt
      obtain ⟨d0, d1, d2, d3⟩ := hcell' k hlt
      rw [hs] at c0 c1 c2 c3 d0 d1 d2 d3
      clear hs hcell hcell' HR HR' hne
      obtain ⟨sb, s0, s1, s2⟩ := s
      simp only at c0 c1 c2 c3 d0 d1 d2 d3
      rw [← hb.cell (p := ⟨b, _, none⟩) hblt] at c0 c1 c2 c3
      rw [← hb.cell (p := ⟨b', _, none⟩) hblt'] at d0 d1 d2 d3
      have hneq : ∀ (W : World), (binOp .neq 46 (.agg #[.bool s0, .bool s1, .bool s2]) (.agg #[.bool s0, .bool s1, .bool s2])).run Tryd.prog W = .ok (.bool false) W := by
        intro W; cases s0 <;> cases s1 <;> cases s2 <;> kernel_rfl
      have hk0 : (0 : Int) ≤ (k : Int) := by omega
      have hk1 : (k : Int) < (l.length : Int) := by omega
      have C0 := cell_regrown c0; have C1 := cell_regrown c1; have C2 := cell_regrown c2; have C3 := cell_regrown c3
      have D0 := cell_regrown d0; have D1 := cell_regrown d1; have D2 := cell_regrown d2; have D3 := cell_regrown d3
      have hW : ∀ d os, Calls Tryd.prog 26 #[.agg #[.int .i64 sb, .bool s0, .bool s1, .bool s2]] (Go.Sort.grow (redrawn wr d) os) fun e w'' => e = .returned (.bool (s0 && s1 && s2)) ∧ ∃ p : Regrown, w'' = Go.Sort.grow (redrawn wr p.d) p.os :=
        fun d os => Calls.regrown_of ((Whole_any _ _ _ _ _).mono fun e w' ⟨he, hw⟩ => ⟨he, by rw [hw]; exact (Below.refl _ _).alloc (Nat.le_refl _) _⟩)
      clear c0 c1 c2 c3 d0 d1 d2 d3
      have HB := Lib.hid hb; clear hb
      cases s0 <;> cases s1 <;> cases s2
      all_goals
        go_wp2_with fail
        refine wp_region_quiet_below (by kernel_rfl) (by kernel_rfl) ?_
        repeat (go_big_quiet_step (exact hW _ _))
        refine wpQuiet_nil ?_
        intro _ hw'
        obtain ⟨⟨dq, osq⟩, hw''⟩ := hw'
        subst hw''
        have hbq := below_regrown wr dq osq
        go_wp2
        go_roundw
        case rel => exact ⟨k + 1, by omega, by go_num, HB.out.trans (hbq.mono HB.out.size)⟩
        case measure => simp [intOf]; omega
    · go_wp2
      go_ret
      exact ⟨rfl, hb⟩
end Go.Proofs.YtbnplhbepkggpaaDoor.nm
