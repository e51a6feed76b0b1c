/- The contracts of the reference's digits and Parse. -/
import Derived.Test.YtbnplhbepkggpaaDoorNm2
namespace Go.Proofs.YtbnplhbepkggpaaDoor.nm
open Go Go.RowKit

theorem rending_any (k : Int) (w : World) : Calls Tryd.prog 24 #[.int .i64 k] w fun e w' => e = .returned (.tuple #[.string ⟨(endL k).toArray⟩, .bool (endB k)]) ∧ w = w' := by
  by_cases h0 : k = 0
  · subst h0
    go_enter Tryd.func24, Tryd.ntmps24
    go_wp2
    go_ret2
    exact ⟨rfl, rfl⟩
  by_cases h1 : k = 1
  · subst h1
    go_enter Tryd.func24, Tryd.ntmps24
    go_wp2
    go_ret2
    exact ⟨rfl, rfl⟩
  by_cases h2 : k = 2
  · subst h2
    go_enter Tryd.func24, Tryd.ntmps24
    go_wp2
    go_ret2
    exact ⟨rfl, rfl⟩
  have e1 : endL k = [] := by unfold endL; rw [if_neg h0, if_neg h1, if_neg h2]
  have e2 : endB k = false := by unfold endB; simp; omega
  rw [e1, e2]
  go_enter Tryd.func24, Tryd.ntmps24
  go_wp2
  go_ret2
  exact ⟨rfl, rfl⟩

def digsV (l : List UInt8) : Value := match digs l with
  | some v => .tuple #[.int .i64 v, .bool true]
  | none => .tuple #[.int .i64 0, .bool false]

theorem digs_none_of (s : ByteArray) (k : Nat) (v : Int) (hs : k < s.size) (hd : digs (s.data.toList.take k) = some v) (hn : dstep v s[k] = none) :
    digs s.data.toList = none := by
  have h1 : digs (s.data.toList.take (k + 1)) = none := by rw [take_snoc s k hs, digs_snoc _ _ v hd, hn]
  rw [← List.take_append_drop (k + 1) s.data.toList]; exact digs_append_none _ _ h1

set_option maxRecDepth 100000 in
set_option maxHeartbeats 400000 in
theorem rdigits_any (s : ByteArray) (w : World) (hs : s.size ≤ maxLen) :
    Calls Tryd.prog 25 #[.string s] w fun e w' => e = .returned (digsV s.data.toList) ∧ w = w' := by
  unfold maxLen at hs
  go_enter Tryd.func25, Tryd.ntmps25
  go_wp2
  go_loop [4, 5] (fun b i => ∃ (k : Nat) (v : Int), k ≤ s.size ∧ i = .int .i64 k ∧ b = .int .i64 v ∧ digs (s.data.toList.take k) = some v) (fun _ i => s.size - (intOf i).toNat)
  case atStart => exact ⟨0, 0, by omega, rfl, rfl, rfl⟩
  case round =>
    obtain ⟨k, v, hk, rfl, rfl, hd⟩ := hrel
    obtain ⟨hv0, hv1⟩ := digs_bd _ _ hd
    have Hd := Lib.hid hd; clear hd
    by_cases hks : k < s.size
    · obtain ⟨hc0, hc1⟩ := u8_bd s[k]
      by_cases h1 : (s[k].toNat : Int) < 48
      · go_wp2
        go_ret2
        exact ⟨ret_of (by unfold digsV; rw [digs_none_of s k v hks Hd.out (by unfold dstep; rw [if_pos (by omega)])]; rfl), rfl⟩
      by_cases h2 : (s[k].toNat : Int) > 57
      · go_wp2
        go_ret2
        exact ⟨ret_of (by unfold digsV; rw [digs_none_of s k v hks Hd.out (by unfold dstep; rw [if_pos (by omega)])]; rfl), rfl⟩
      by_cases h3 : v > (4611686018427387904 - ((s[k].toNat : Int) - 48)) / 10
      · go_wp2
        go_ret2
        exact ⟨ret_of (by unfold digsV; rw [digs_none_of s k v hks Hd.out (by unfold dstep; rw [if_pos (by omega)])]; rfl), rfl⟩
      · go_wp2
        go_round
        case rel => exact ⟨k + 1, v * 10 + ((s[k].toNat : Int) - 48), by omega, by go_num, rfl, by rw [take_snoc s k hks, digs_snoc _ _ v Hd.out]; unfold dstep; rw [if_neg (by omega), Int.mul_comm]⟩
        case measure => simp [intOf]; omega
    · go_wp2
      go_ret2
      have e : digs s.data.toList = some v := by
        have := Hd.out
        rwa [List.take_of_length_le (by simp; omega)] at this
      exact ⟨ret_of (by unfold digsV; rw [e]; rfl), rfl⟩

set_option maxRecDepth 100000 in
set_option maxHeartbeats 400000 in
theorem rParse_any (s : ByteArray) (w : World) :
    Calls Tryd.prog 13 #[.string s] w fun e w' => e = .returned (parseV s.data.toList) ∧ w = w' := by
  by_cases hl : s.size = 24
  · have hz : (s.extract 0 20).size ≤ maxLen := by unfold maxLen; rw [ByteArray.size_extract]; omega
    cases hd : digs (s.data.toList.take 20) with
    | none =>
      have hv : digsV (s.extract 0 20).data.toList = .tuple #[.int .i64 0, .bool false] := by unfold digsV; rw [Lib.extract_data]; simp [hd]
      have HV := Lib.hid hv; clear hv
      go_enter Tryd.func13, Tryd.ntmps13
      go_wp2_with (go_at_call 25; refine (rdigits_any _ _ hz).mono ?_; rintro e w' ⟨rfl, rfl⟩; rw [HV.out])
      go_loop [7, 8, 9] (fun i _ _ => i = .int .i64 0) (fun _ _ _ => 0)
      case atStart => rfl
      case round =>
        obtain rfl := hrel
        go_wp2
        go_ret3
        exact ⟨ret_of (by unfold parseV parseL; rw [hd]; simp), rfl⟩
    | some v =>
      have hv : digsV (s.extract 0 20).data.toList = .tuple #[.int .i64 v, .bool true] := by unfold digsV; rw [Lib.extract_data]; simp [hd]
      have HV := Lib.hid hv; clear hv
      have HP := Lib.hid (parse_of s.data.toList (by simpa using hl) v hd)
      clear hd
      go_enter Tryd.func13, Tryd.ntmps13
      go_wp2_with (go_at_call 25; refine (rdigits_any _ _ hz).mono ?_; rintro e w' ⟨rfl, rfl⟩; rw [HV.out])
      go_loop [7, 8, 9] (fun i _ _ => ∃ j : Nat, j ≤ 3 ∧ i = .int .i64 j ∧ Hid (∀ n : Nat, n < j → s.data.toList.drop 20 ≠ endL n)) (fun i _ _ => 3 - (intOf i).toNat)
      case atStart => exact ⟨0, by omega, rfl, Lib.hid (fun n h => absurd h (by omega))⟩
      case round =>
        obtain ⟨j, hj, rfl, Hn⟩ := hrel
        rcases (by omega : j = 0 ∨ j = 1 ∨ j = 2 ∨ j = 3) with rfl | rfl | rfl | rfl
        · go_wp2_with (go_at_call 24; refine (rending_any _ _).mono ?_; rintro e w' ⟨rfl, rfl⟩)
          · go_ret3
            exact ⟨ret_of (HP.out.trans (if_pos (dr_pos s hl _ ‹_›))), rfl⟩
          · rename_i hf
            go_round
            case rel => exact ⟨1, by omega, rfl, Lib.hid (fun m h => (by
              by_cases e : m = 0
              · subst e; exact dr_neg s hl _ hf
              · exact Hn.out m (by omega)))⟩
            case measure => simp [intOf]
        · go_wp2_with (go_at_call 24; refine (rending_any _ _).mono ?_; rintro e w' ⟨rfl, rfl⟩)
          · go_ret3
            exact ⟨ret_of (HP.out.trans ((if_neg (Hn.out 0 (by omega))).trans (if_pos (dr_pos s hl _ ‹_›)))), rfl⟩
          · rename_i hf
            go_round
            case rel => exact ⟨2, by omega, rfl, Lib.hid (fun m h => (by
              by_cases e : m = 1
              · subst e; exact dr_neg s hl _ hf
              · exact Hn.out m (by omega)))⟩
            case measure => simp [intOf]
        · go_wp2_with (go_at_call 24; refine (rending_any _ _).mono ?_; rintro e w' ⟨rfl, rfl⟩)
          · go_ret3
            exact ⟨ret_of (HP.out.trans ((if_neg (Hn.out 0 (by omega))).trans ((if_neg (Hn.out 1 (by omega))).trans (if_pos (dr_pos s hl _ ‹_›))))), rfl⟩
          · rename_i hf
            go_round
            case rel => exact ⟨3, by omega, rfl, Lib.hid (fun m h => (by
              by_cases e : m = 2
              · subst e; exact dr_neg s hl _ hf
              · exact Hn.out m (by omega)))⟩
            case measure => simp [intOf]
        · go_wp2
          go_ret3
          exact ⟨ret_of (HP.out.trans ((if_neg (Hn.out 0 (by omega))).trans ((if_neg (Hn.out 1 (by omega))).trans (if_neg (Hn.out 2 (by omega)))))), rfl⟩
  · go_enter Tryd.func13, Tryd.ntmps13
    go_wp2
    go_ret3
    exact ⟨by unfold parseV parseL; rw [if_neg (by simpa using hl)]; rfl, rfl⟩
end Go.Proofs.YtbnplhbepkggpaaDoor.nm
