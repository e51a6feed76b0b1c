/- Plain laws on the names: what a name's text reads back as, and how names are ordered. -/
import Derived.Test.YtbnplhbepkggpaaDoorNm5
namespace Go.Proofs.YtbnplhbepkggpaaDoor.nm
open Go Go.RowKit

theorem u8_digit (d : Nat) (h : d < 10) : (UInt8.ofNat (48 + d)).toNat = 48 + d := by
  rw [UInt8.toNat_ofNat']; omega

theorem digs_decN : ∀ n b, b < 10 ^ n → b ≤ 4611686018427387904 → digs (decN n b) = some (b : Int)
  | 0, b, h, _ => by
    have : b = 0 := by simpa using h
    subst this; rfl
  | n + 1, b, h, hm => by
    rw [decN, digs_snoc _ _ _ (digs_decN n (b / 10) (by rw [Nat.pow_succ] at h; omega) (by omega))]
    unfold dstep
    rw [u8_digit _ (Nat.mod_lt _ (by omega)), if_neg (by omega)]
    simp only [Option.some.injEq]
    omega

theorem decN_digs (l : List UInt8) : ∀ v, digs l = some v → decN l.length v.toNat = l := by
  refine snoc_ind (p := fun l => ∀ v, digs l = some v → decN l.length v.toNat = l) ?_ ?_ l
  · intro v _; rfl
  · intro l c ih v h
    cases hd : digs l with
    | none => rw [digs_append_none l [c] hd] at h; cases h
    | some u =>
      have hu := digs_bd l u hd
      rw [digs_snoc l c u hd] at h
      unfold dstep at h
      split at h
      · cases h
      · rename_i hn
        simp only [Option.some.injEq] at h
        have hc := c.toNat_lt
        have e1 : v.toNat / 10 = u.toNat := by omega
        have e2 : v.toNat % 10 = c.toNat - 48 := by omega
        rw [List.length_append, List.length_singleton, decN, e1, e2, ih u hd, show 48 + (c.toNat - 48) = c.toNat by omega, UInt8.ofNat_toNat]

theorem endL_len4 (k : Int) (h : endB k = true) : (endL k).length = 4 := by
  have : 0 ≤ k ∧ k ≤ 2 := by simpa [endB] using h
  rcases (by omega : k = 0 ∨ k = 1 ∨ k = 2) with rfl | rfl | rfl <;> rfl
theorem nameL_len (b k : Int) (h : endB k = true) : (nameL b k).length = 24 := by
  unfold nameL; rw [List.length_append, decN_len, endL_len4 k h]

theorem parse_name (b k : Int) (h0 : 0 ≤ b) (h1 : b ≤ 4611686018427387904) (hk : endB k = true) : parseL (nameL b k) = some (b, k) := by
  have hlen := nameL_len b k hk
  have ht : (nameL b k).take 20 = decN 20 b.toNat := by
    unfold nameL; rw [List.take_append_of_le_length (by rw [decN_len]; omega), List.take_of_length_le (by rw [decN_len]; omega)]
  have hd : (nameL b k).drop 20 = endL k := by
    unfold nameL; rw [List.drop_append_of_le_length (by rw [decN_len]; omega), List.drop_of_length_le (by rw [decN_len]; omega)]; rfl
  have hb : digs (decN 20 b.toNat) = some b := by
    have : (4611686018427387904 : Nat) < 10 ^ 20 := by decide
    rw [digs_decN 20 b.toNat (by omega) (by omega), Int.toNat_of_nonneg h0]
  unfold parseL
  rw [if_pos hlen, ht, hb, hd]
  have : 0 ≤ k ∧ k ≤ 2 := by simpa [endB] using hk
  rcases (by omega : k = 0 ∨ k = 1 ∨ k = 2) with rfl | rfl | rfl
  · rfl
  · rfl
  · rfl

theorem name_parse (l : List UInt8) (b k : Int) (h : parseL l = some (b, k)) : 0 ≤ b ∧ b ≤ 4611686018427387904 ∧ endB k = true ∧ nameL b k = l := by
  unfold parseL at h
  split at h
  · rename_i hl
    cases hd : digs (l.take 20) with
    | none => rw [hd] at h; cases h
    | some v =>
      rw [hd] at h
      have hv := digs_bd _ _ hd
      have ht := decN_digs _ _ hd
      rw [List.length_take, Nat.min_eq_left (by omega)] at ht
      have key : ∀ k' : Int, l.drop 20 = endL k' → nameL v k' = l := by
        intro k' hk; unfold nameL; rw [ht, ← hk, List.take_append_drop]
      simp only [] at h
      split at h
      · rename_i e; cases h; exact ⟨hv.1, hv.2, by decide, key 0 e⟩
      · split at h
        · rename_i e; cases h; exact ⟨hv.1, hv.2, by decide, key 1 e⟩
        · split at h
          · rename_i e; cases h; exact ⟨hv.1, hv.2, by decide, key 2 e⟩
          · cases h
  · cases h

theorem less_irrefl : ∀ x : List UInt8, Op.bytesLess x x = false
  | [] => rfl
  | a :: x => by
    rw [Op.bytesLess, less_irrefl x]
    have : ¬ a < a := by rw [UInt8.lt_iff_toNat_lt]; omega
    simp [this]
theorem less_snoc : ∀ (x y : List UInt8) (c d : UInt8) (r : List UInt8), x.length = y.length → Op.bytesLess (x ++ c :: r) (y ++ d :: r) = (Op.bytesLess x y || (x == y && (decide (c < d))))
  | [], [], c, d, r, _ => by
    show (decide (c < d) || (c == d && Op.bytesLess r r)) = _
    rw [less_irrefl]
    simp [Op.bytesLess]
  | a :: x, b :: y, c, d, r, h => by
    show (decide (a < b) || (a == b && Op.bytesLess (x ++ c :: r) (y ++ d :: r))) = ((decide (a < b) || (a == b && Op.bytesLess x y)) || (a :: x == b :: y && decide (c < d)))
    rw [less_snoc x y c d r (by simpa using h)]
    by_cases hab : a = b
    · subst hab
      have : (a :: x == a :: y) = (x == y) := by simp
      rw [this]
      simp
    · have h1 : (a :: x == b :: y) = false := by simp [hab]
      have h2 : (a == b) = false := by simpa using hab
      rw [h1, h2]
      simp
theorem decN_inj : ∀ n a b, a < 10 ^ n → b < 10 ^ n → decN n a = decN n b → a = b
  | 0, a, b, ha, hb, _ => by simp at ha hb; omega
  | n + 1, a, b, ha, hb, h => by
    rw [decN, decN] at h
    rw [Nat.pow_succ] at ha hb
    have h1 := List.append_inj h (by rw [decN_len, decN_len])
    have h2 := decN_inj n (a / 10) (b / 10) (by omega) (by omega) h1.1
    have h3 : (UInt8.ofNat (48 + a % 10)).toNat = (UInt8.ofNat (48 + b % 10)).toNat := by
      have := h1.2; simp only [List.cons.injEq, and_true] at this; rw [this]
    rw [u8_digit _ (Nat.mod_lt _ (by omega)), u8_digit _ (Nat.mod_lt _ (by omega))] at h3
    omega
theorem decN_less : ∀ n a b r, a < 10 ^ n → b < 10 ^ n → Op.bytesLess (decN n a ++ r) (decN n b ++ r) = decide (a < b)
  | 0, a, b, r, ha, hb => by
    simp at ha hb; subst ha; subst hb
    simp [decN, less_irrefl]
  | n + 1, a, b, r, ha, hb => by
    rw [Nat.pow_succ] at ha hb
    have h1 := decN_less n (a / 10) (b / 10) [] (by omega) (by omega)
    rw [List.append_nil, List.append_nil] at h1
    rw [decN, decN, List.append_assoc, List.append_assoc, List.singleton_append, List.singleton_append, less_snoc _ _ _ _ _ (by rw [decN_len, decN_len]), h1]
    have e3 : (UInt8.ofNat (48 + a % 10) < UInt8.ofNat (48 + b % 10)) ↔ a % 10 < b % 10 := by
      rw [UInt8.lt_iff_toNat_lt, u8_digit _ (Nat.mod_lt _ (by omega)), u8_digit _ (Nat.mod_lt _ (by omega))]; omega
    have e4 : (decN n (a / 10) == decN n (b / 10)) = decide (a / 10 = b / 10) := by
      by_cases e : a / 10 = b / 10
      · rw [e]; simp
      · have : decN n (a / 10) ≠ decN n (b / 10) := fun h => e (decN_inj n _ _ (by omega) (by omega) h)
        simp [e, this]
    rw [e4, Bool.eq_iff_iff]
    simp only [Bool.or_eq_true, Bool.and_eq_true, decide_eq_true_eq, e3]
    omega
theorem nameL_less (a b k : Int) (ha : 0 ≤ a) (ha' : a ≤ 4611686018427387904) (hb : 0 ≤ b) (hb' : b ≤ 4611686018427387904) : Op.bytesLess (nameL a k) (nameL b k) = decide (a < b) := by
  have : (4611686018427387904 : Nat) < 10 ^ 20 := by decide
  unfold nameL
  rw [decN_less 20 _ _ _ (by omega) (by omega), decide_eq_decide]
  omega
end Go.Proofs.YtbnplhbepkggpaaDoor.nm
