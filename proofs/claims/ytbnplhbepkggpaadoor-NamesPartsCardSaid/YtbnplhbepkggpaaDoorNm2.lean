/- The contract of names.Parse. -/
import Derived.Test.YtbnplhbepkggpaaDoorNm1
namespace Go.Proofs.YtbnplhbepkggpaaDoor.nm
open Go Go.RowKit

/-- A step of reading digits. -/
def dstep (v : Int) (c : UInt8) : Option Int :=
  if (c.toNat : Int) - 48 < 0 ∨ (c.toNat : Int) - 48 > 9 ∨ v > (4611686018427387904 - ((c.toNat : Int) - 48)) / 10 then none else some (10 * v + ((c.toNat : Int) - 48))
def digs (l : List UInt8) : Option Int := l.foldlM dstep 0
def parseL (l : List UInt8) : Option (Int × Int) :=
  if l.length = 24 then
    match digs (l.take 20) with
    | some b => if l.drop 20 = endL 0 then some (b, 0) else if l.drop 20 = endL 1 then some (b, 1) else if l.drop 20 = endL 2 then some (b, 2) else none
    | none => none
  else none
def parseV (l : List UInt8) : Value := match parseL l with
  | some (b, k) => .tuple #[.int .i64 b, .int .i64 k, .bool true]
  | none => .tuple #[.int .i64 0, .int .i64 0, .bool false]

theorem digs_snoc (l : List UInt8) (c : UInt8) (v : Int) (h : digs l = some v) : digs (l ++ [c]) = dstep v c := by
  unfold digs at *
  rw [List.foldlM_append, h]
  simp
theorem digs_append_none (l m : List UInt8) (h : digs l = none) : digs (l ++ m) = none := by
  unfold digs at *
  rw [List.foldlM_append, h]
  rfl
theorem digs_bd (l : List UInt8) : ∀ v, digs l = some v → 0 ≤ v ∧ v ≤ 4611686018427387904 := by
  refine snoc_ind (p := fun l => ∀ v, digs l = some v → 0 ≤ v ∧ v ≤ 4611686018427387904) ?_ ?_ l
  · intro v h; simp [digs] at h; subst h; decide
  · intro l c ih v h
    cases hd : digs l with
    | none => rw [digs_append_none l [c] hd] at h; cases h
    | some u =>
      rw [digs_snoc l c u hd] at h
      have := ih u hd
      unfold dstep at h
      split at h
      · cases h
      · rename_i hn
        simp only [Option.some.injEq] at h
        omega

theorem parse_none_of (s : ByteArray) (k : Nat) (v : Int) (hk : k < 20) (hs : k < s.size) (hd : digs (s.data.toList.take k) = some v) (hn : dstep v s[k] = none) :
    parseV s.data.toList = .tuple #[.int .i64 0, .int .i64 0, .bool false] := by
  have h1 : digs (s.data.toList.take (k + 1)) = none := by rw [take_snoc s k hs, digs_snoc _ _ v hd, hn]
  have h2 : digs (s.data.toList.take 20) = none := by
    have : s.data.toList.take 20 = s.data.toList.take (k + 1) ++ (s.data.toList.take 20).drop (k + 1) := by
      conv => lhs; rw [← List.take_append_drop (k + 1) (s.data.toList.take 20)]
      rw [List.take_take, Nat.min_eq_left (by omega)]
    rw [this]; exact digs_append_none _ _ h1
  unfold parseV parseL
  rw [h2]
  split <;> simp_all
theorem parse_of (l : List UInt8) (h : l.length = 24) (v : Int) (hd : digs (l.take 20) = some v) :
    parseV l = if l.drop 20 = endL 0 then .tuple #[.int .i64 v, .int .i64 0, .bool true] else if l.drop 20 = endL 1 then .tuple #[.int .i64 v, .int .i64 1, .bool true]
      else if l.drop 20 = endL 2 then .tuple #[.int .i64 v, .int .i64 2, .bool true] else .tuple #[.int .i64 0, .int .i64 0, .bool false] := by
  unfold parseV parseL
  rw [if_pos h, hd]
  simp only []
  by_cases h0 : l.drop 20 = endL 0
  · simp [h0]
  by_cases h1 : l.drop 20 = endL 1
  · simp [h1]; rfl
  by_cases h2 : l.drop 20 = endL 2
  · simp [h2]; rfl
  simp [h0, h1, h2]

theorem dr_eq (s : ByteArray) (hl : s.size = 24) : (s.extract 20 24).toList = s.data.toList.drop 20 := by
  have hl' : s.data.toList.length = 24 := by simpa using hl
  rw [Lib.extract_toList]
  exact List.take_of_length_le (by simp [hl'])
theorem dr_pos (s : ByteArray) (hl : s.size = 24) (m : List UInt8) (h : ((s.extract 20 24).toList == m) = true) : s.data.toList.drop 20 = m := by
  rw [← dr_eq s hl]; exact eq_of_beq h
theorem dr_neg (s : ByteArray) (hl : s.size = 24) (m : List UInt8) (h : ((s.extract 20 24).toList == m) = false) : s.data.toList.drop 20 ≠ m := by
  rw [← dr_eq s hl]; exact ne_of_beq_false h
set_option maxRecDepth 100000 in
set_option maxHeartbeats 400000 in
theorem Parse_any (s : ByteArray) (w : World) :
    Calls Tryd.prog 12 #[.string s] w fun e w' => e = .returned (parseV s.data.toList) ∧ Below w.heap.size w w' := by
  by_cases hl : s.size = 24
  · go_enter Tryd.func12, Tryd.ntmps12
    go_wp2
    go_loop [5, 15] (fun b i => ∃ (k : Nat) (v : Int), k ≤ 20 ∧ i = .int .i64 k ∧ b = .int .i64 v ∧ digs (s.data.toList.take k) = some v) (fun _ i => 20 - (intOf i).toNat)
    case atStart => exact ⟨0, 0, by omega, rfl, rfl, rfl⟩
    case round =>
      obtain ⟨k, v, hk, rfl, rfl, hd⟩ := hrel
      obtain ⟨hv0, hv1⟩ := digs_bd _ _ hd
      have Hd := Lib.hid hd; clear hd
      by_cases hlt : k < 20
      · have hks : k < s.size := by omega
        have hc0 : 0 ≤ (s[k].toNat : Int) := by omega
        have hc1 : (s[k].toNat : Int) < 256 := by have := s[k].toNat_lt; omega
        by_cases h1 : (s[k].toNat : Int) - 48 < 0
        · go_wp2
          go_ret3
          exact ⟨ret_of (parse_none_of s k v hlt hks Hd.out (by unfold dstep; rw [if_pos (by omega)])), Below.refl _ _⟩
        by_cases h2 : (s[k].toNat : Int) - 48 > 9
        · go_wp2
          go_ret3
          exact ⟨ret_of (parse_none_of s k v hlt hks Hd.out (by unfold dstep; rw [if_pos (by omega)])), Below.refl _ _⟩
        by_cases h3 : v > (4611686018427387904 - ((s[k].toNat : Int) - 48)) / 10
        · go_wp2
          go_ret3
          exact ⟨ret_of (parse_none_of s k v hlt hks Hd.out (by unfold dstep; rw [if_pos (by omega)])), Below.refl _ _⟩
        · go_wp2
          go_round
          case rel =>
            exact ⟨k + 1, 10 * v + ((s[k].toNat : Int) - 48), by omega, by go_num, rfl, by rw [take_snoc s k hks, digs_snoc _ _ v Hd.out]; unfold dstep; rw [if_neg (by omega)]⟩
          case measure => simp [intOf]; omega
      · go_wp2
        have HP := Lib.hid (parse_of s.data.toList (by simpa using hl) v (by rw [← (by omega : k = 20)]; exact Hd.out))
        go_loop [9, 10, 11, 43] (fun _ _ _ i => ∃ j : Nat, j ≤ 3 ∧ i = .int .i64 j ∧ Hid (∀ n : Nat, n < j → s.data.toList.drop 20 ≠ endL n)) (fun _ _ _ i => 3 - (intOf i).toNat)
        case atStart => exact ⟨0, by omega, rfl, Lib.hid (fun n h => absurd h (by omega))⟩
        case round =>
          obtain ⟨j, hj, rfl, Hn⟩ := hrel
          rcases (by omega : j = 0 ∨ j = 1 ∨ j = 2 ∨ j = 3) with rfl | rfl | rfl | rfl
          · go_wp2_with (go_at_call 21; refine (ending_any _ _).mono ?_; rintro e w' ⟨rfl, rfl⟩)
            · go_ret3
              exact ⟨ret_of (HP.out.trans (if_pos (dr_pos s hl _ ‹_›))), (Below.refl _ _).alloc (Nat.le_refl _) _⟩
            · rename_i hf
              go_round
              case rel => exact ⟨1, by omega, rfl, Lib.hid (fun m h => (by
                by_cases e : m = 0
                · subst e; exact dr_neg s hl _ hf
                · exact Hn.out m (by omega)))⟩
              case measure => simp [intOf]
          · go_wp2_with (go_at_call 21; refine (ending_any _ _).mono ?_; rintro e w' ⟨rfl, rfl⟩)
            · go_ret3
              exact ⟨ret_of (HP.out.trans ((if_neg (Hn.out 0 (by omega))).trans (if_pos (dr_pos s hl _ ‹_›)))), (Below.refl _ _).alloc (Nat.le_refl _) _⟩
            · rename_i hf
              go_round
              case rel => exact ⟨2, by omega, rfl, Lib.hid (fun m h => (by
                by_cases e : m = 1
                · subst e; exact dr_neg s hl _ hf
                · exact Hn.out m (by omega)))⟩
              case measure => simp [intOf]
          · go_wp2_with (go_at_call 21; refine (ending_any _ _).mono ?_; rintro e w' ⟨rfl, rfl⟩)
            · go_ret3
              exact ⟨ret_of (HP.out.trans ((if_neg (Hn.out 0 (by omega))).trans ((if_neg (Hn.out 1 (by omega))).trans (if_pos (dr_pos s hl _ ‹_›))))), (Below.refl _ _).alloc (Nat.le_refl _) _⟩
            · rename_i hf
              go_round
              case rel => exact ⟨3, by omega, rfl, Lib.hid (fun m h => (by
                by_cases e : m = 2
                · subst e; exact dr_neg s hl _ hf
                · exact Hn.out m (by omega)))⟩
              case measure => simp [intOf]
          · go_wp2
            go_ret3
            exact ⟨ret_of (HP.out.trans ((if_neg (Hn.out 0 (by omega))).trans ((if_neg (Hn.out 1 (by omega))).trans (if_neg (Hn.out 2 (by omega)))))), (Below.refl _ _).alloc (Nat.le_refl _) _⟩
  · go_enter Tryd.func12, Tryd.ntmps12
    go_wp2
    go_ret3
    exact ⟨by unfold parseV parseL; rw [if_neg (by simpa using hl)]; rfl, Below.refl _ _⟩
end Go.Proofs.YtbnplhbepkggpaaDoor.nm
