/- The contracts of names.Name and of the reference's Name. -/
import Derived.Test.YtbnplhbepkggpaaDoorNm3
import Derived.Test.YtbnplhbepkggpaaDoorShelf
import Derived.WalkSmall
namespace Go.Proofs.YtbnplhbepkggpaaDoor.nm
open Go Go.RowKit

/-- The last n decimal digits of b. -/
def decN : Nat → Nat → List UInt8
  | 0, _ => []
  | n + 1, b => decN n (b / 10) ++ [UInt8.ofNat (48 + b % 10)]
theorem decN_len : ∀ n b, (decN n b).length = n
  | 0, _ => rfl
  | n + 1, b => by simp [decN, decN_len n]
theorem decN_zero : ∀ n, decN n 0 = List.replicate n 48
  | 0 => rfl
  | n + 1 => by rw [decN, show 0 / 10 = 0 from rfl, decN_zero n, List.replicate_succ']; rfl
theorem decN_pad : ∀ n b, 1 ≤ n → b < 10 ^ n → List.replicate (n - Lib.nDigits b) 48 ++ Lib.decDigits b = decN n b
  | 0, b, h, _ => by omega
  | n + 1, b, _, hb => by
    by_cases h : b < 10
    · rw [Lib.nDigits_small h, Lib.decDigits_one h, decN, Nat.div_eq_of_lt h, decN_zero, Nat.mod_eq_of_lt h]; rfl
    · have hn : 1 ≤ n := by
        rcases n with _ | n
        · simp at hb; omega
        · omega
      rw [Lib.nDigits_big h, Lib.decDigits, dif_neg h, decN, ← decN_pad n (b / 10) hn (by rw [Nat.pow_succ] at hb; omega), show n + 1 - (Lib.nDigits (b / 10) + 1) = n - Lib.nDigits (b / 10) by omega, List.append_assoc]
/-- A further digit at the left. -/
theorem decN_left : ∀ n b, decN (n + 1) b = UInt8.ofNat (48 + b / 10 ^ n % 10) :: decN n b
  | 0, b => by simp [decN]
  | n + 1, b => by
    rw [decN, decN_left n (b / 10), decN, Nat.div_div_eq_div_mul, Nat.pow_succ, Nat.mul_comm (10 ^ n)]
    rfl

/-- What Name answers. -/
def nameL (b k : Int) : List UInt8 := decN 20 b.toNat ++ endL k
def nameS (b k : Int) : List UInt8 := if b < 0 ∨ b > 4611686018427387904 then [] else if endB k = true then nameL b k else []
def nameE (b k : Int) : Int := if b < 0 ∨ b > 4611686018427387904 then 1 else if endB k = true then 0 else 6

theorem repeat_nought : ∀ n, Lib.repeatL [48] n = List.replicate n 48
  | 0 => rfl
  | n + 1 => by rw [Lib.repeatL, repeat_nought n, List.replicate_succ]; rfl

theorem below_grow (w : World) (n : Nat) (os : Array Obj) : Below w.heap.size w (Go.Sort.grow (w.drewN n) os) :=
  ⟨rfl, rfl, rfl, by simp [Go.Sort.grow], fun k hk => by simp only [Go.Sort.grow]; rw [Array.getElem?_append, if_pos (by exact hk)]; rfl⟩

theorem nd_le : ∀ n b, 1 ≤ n → b < 10 ^ n → Lib.nDigits b ≤ n
  | 0, b, h, _ => by omega
  | n + 1, b, _, hb => by
    by_cases h : b < 10
    · rw [Lib.nDigits_small h]; omega
    · have hn : 1 ≤ n := by
        rcases n with _ | n
        · simp at hb; omega
        · omega
      have := nd_le n (b / 10) hn (by rw [Nat.pow_succ] at hb; omega)
      rw [Lib.nDigits_big h]; omega

theorem itoa_facts (b : Int) (h0 : 0 ≤ b) (h1 : b ≤ 4611686018427387904) : ∃ L : List UInt8, Lib.itoa b = L ∧ L.length ≤ 20 ∧ List.replicate (20 - L.length) 48 ++ L = decN 20 b.toNat := by
  have hb : b.toNat < 10 ^ 20 := by
    have : (4611686018427387904 : Nat) < 10 ^ 20 := by decide
    omega
  refine ⟨Lib.itoa b, rfl, ?_, ?_⟩
  · unfold Lib.itoa; rw [if_neg (by omega), Lib.decDigits_length]; exact nd_le 20 _ (by omega) hb
  · unfold Lib.itoa; rw [if_neg (by omega), Lib.decDigits_length]; exact decN_pad 20 _ (by omega) hb

set_option maxRecDepth 100000 in
set_option maxHeartbeats 400000 in
theorem Name_any (b k : Int) (w : World) (htab : Lib.TabIs Tryd.prog w "internal/strconv.uint64pow10" .u64 Lib.pow10Tab) :
    Calls Tryd.prog 10 #[.int .i64 b, .int .i64 k] w fun e w' => e = .returned (.tuple #[.string ⟨(nameS b k).toArray⟩, .int .i64 (nameE b k)]) ∧ Below w.heap.size w w' := by
  by_cases h1 : b < 0
  · have e1 : nameS b k = [] := by unfold nameS; rw [if_pos (by omega)]
    have e2 : nameE b k = 1 := by unfold nameE; rw [if_pos (by omega)]
    rw [e1, e2]; clear htab
    go_enter Tryd.func10, Tryd.ntmps10
    go_wp2
    go_ret2
    exact ⟨rfl, Below.refl _ _⟩
  by_cases h2 : b > 4611686018427387904
  · have e1 : nameS b k = [] := by unfold nameS; rw [if_pos (by omega)]
    have e2 : nameE b k = 1 := by unfold nameE; rw [if_pos (by omega)]
    rw [e1, e2]; clear htab
    go_enter Tryd.func10, Tryd.ntmps10
    go_wp2
    go_ret2
    exact ⟨rfl, Below.refl _ _⟩
  cases h3 : endB k with
  | false =>
    have e1 : nameS b k = [] := by unfold nameS; rw [if_neg (by omega), if_neg (by rw [h3]; simp)]
    have e2 : nameE b k = 6 := by unfold nameE; rw [if_neg (by omega), if_neg (by rw [h3]; simp)]
    rw [e1, e2]; clear htab
    go_enter Tryd.func10, Tryd.ntmps10
    go_wp2_with (go_at_call 21; refine (ending_any _ _).mono ?_; rintro e w' ⟨rfl, rfl⟩)
    go_ret2
    exact ⟨rfl, Below.refl _ _⟩
  | true =>
    have e1 : nameS b k = nameL b k := by unfold nameS; rw [if_neg (by omega), if_pos h3]
    have e2 : nameE b k = 0 := by unfold nameE; rw [if_neg (by omega), if_pos h3]
    rw [e1, e2]
    obtain ⟨L, hL, hlen, hpad⟩ := itoa_facts b (by omega) (by omega)
    have HL := Lib.hid hL; have HP := Lib.hid hpad; clear hL hpad
    have hF := Tryd.strconv_FormatInt_10 b (by omega) (by omega) w htab
    rw [HL.out] at hF
    have HF := Lib.hid hF; clear hF htab
    go_enter Tryd.func10, Tryd.ntmps10
    go_wp2_with (go_at_call 21; refine (ending_any _ _).mono ?_; rintro e w' ⟨rfl, rfl⟩)
    refine HF.out.mono ?_
    rintro e w1 ⟨rfl, n1, os1, hw1⟩
    have hb1 : Below w.heap.size w w1 := by rw [hw1]; exact below_grow w n1 os1
    clear hw1
    go_wp2_with fail
    rw [show (20 : Int) - (L.length : Int) = ((20 - L.length : Nat) : Int) from by omega]
    refine (Tryd.strings_Repeat ⟨#[48]⟩ (20 - L.length) _ (by omega) (by have : (⟨#[48]⟩ : ByteArray).size = 1 := rfl; rw [this]; omega)).mono ?_
    obtain ⟨R, hR⟩ : ∃ R, Lib.repeatL [48] (20 - L.length) = R := ⟨_, rfl⟩
    have hRl : R.length ≤ 20 := by rw [← hR, repeat_nought]; simp
    have hEl := endL_len k
    rw [show (⟨#[48]⟩ : ByteArray).data.toList = [48] from rfl, hR]
    have HR := Lib.hid hR; clear hR
    rintro e w2 ⟨rfl, hb2⟩
    go_wp2
    go_ret2
    have hfin : nameL b k = R ++ L ++ endL k := by unfold nameL; rw [← HP.out, ← HR.out, repeat_nought]
    have hv : Value.string ((⟨R.toArray⟩ : ByteArray) ++ ⟨L.toArray⟩ ++ ⟨(endL k).toArray⟩) = .string ⟨(nameL b k).toArray⟩ := by rw [hfin, ← mk_append, ← mk_append]
    exact ⟨ret2_of hv rfl, hb1.trans (hb2.mono hb1.size)⟩

theorem refd (b : Int) (k : Nat) (h0 : 0 ≤ b) : UInt8.ofNat ((48 + (b / 10 ^ k) % 10).toNat) = UInt8.ofNat (48 + b.toNat / 10 ^ k % 10) := by
  obtain ⟨n, rfl⟩ := Int.eq_ofNat_of_zero_le h0
  have : ((n : Int) / 10 ^ k) = ((n / 10 ^ k : Nat) : Int) := by norm_cast
  rw [this, Int.toNat_natCast, show (48 + ((n / 10 ^ k : Nat) : Int) % 10).toNat = 48 + n / 10 ^ k % 10 by omega]

theorem one_byte (W : World) (n : Int) : (convert 57 9 (.slice (some ⟨W.heap.size, 0, none⟩) 1 1)).run Tryd.prog (W.alloc (.cells #[.int .u8 n] 5)) =
    .ok (.string ⟨[UInt8.ofNat n.toNat].toArray⟩) (W.alloc (.cells #[.int .u8 n] 5)) :=
  run_convert_bytes_arg _ 57 5 Tryd.underlying57 Tryd.underlying5 W.heap.size 0 1 1 [n] rfl (fun i hi => by
    obtain rfl : i = 0 := by omega
    simp) 9 Tryd.underlying9

set_option maxRecDepth 100000 in
set_option maxHeartbeats 1000000 in
theorem rName_any (b k : Int) (w : World) :
    Calls Tryd.prog 11 #[.int .i64 b, .int .i64 k] w fun e w' => e = .returned (.tuple #[.string ⟨(nameS b k).toArray⟩, .int .i64 (nameE b k)]) ∧ Below w.heap.size w w' := by
  by_cases h1 : b < 0
  · have e1 : nameS b k = [] := by unfold nameS; rw [if_pos (by omega)]
    have e2 : nameE b k = 1 := by unfold nameE; rw [if_pos (by omega)]
    rw [e1, e2]
    go_enter Tryd.func11, Tryd.ntmps11
    go_wp2
    go_ret2
    exact ⟨rfl, Below.refl _ _⟩
  by_cases h2 : b > 4611686018427387904
  · have e1 : nameS b k = [] := by unfold nameS; rw [if_pos (by omega)]
    have e2 : nameE b k = 1 := by unfold nameE; rw [if_pos (by omega)]
    rw [e1, e2]
    go_enter Tryd.func11, Tryd.ntmps11
    go_wp2
    go_ret2
    exact ⟨rfl, Below.refl _ _⟩
  cases h3 : endB k with
  | false =>
    have e1 : nameS b k = [] := by unfold nameS; rw [if_neg (by omega), if_neg (by rw [h3]; simp)]
    have e2 : nameE b k = 6 := by unfold nameE; rw [if_neg (by omega), if_neg (by rw [h3]; simp)]
    rw [e1, e2]
    go_enter Tryd.func11, Tryd.ntmps11
    go_wp2_with (go_at_call 24; refine (rending_any _ _).mono ?_; rintro e w' ⟨rfl, rfl⟩)
    go_ret2
    exact ⟨rfl, Below.refl _ _⟩
  | true =>
    have e1 : nameS b k = nameL b k := by unfold nameS; rw [if_neg (by omega), if_pos h3]
    have e2 : nameE b k = 0 := by unfold nameE; rw [if_neg (by omega), if_pos h3]
    rw [e1, e2]
    have hcv := one_byte
    have hEl := endL_len k
    go_enter Tryd.func11, Tryd.ntmps11
    go_wp2_with (go_at_call 24; refine (rending_any _ _).mono ?_; rintro e w' ⟨rfl, rfl⟩)
    go_loopw [0, 8, 9] (fun x s i wr => ∃ (n : Nat) (c : Int) (D : List UInt8), n ≤ 20 ∧ i = .int .i64 n ∧ 0 ≤ c ∧ c ≤ 4611686018427387904 ∧ Hid (c = b / 10 ^ n) ∧ D.length ≤ 20 ∧ Hid (D = decN n b.toNat) ∧ x = .int .i64 c ∧ s = .string ⟨D.toArray⟩ ∧ Below w.heap.size w wr) (fun _ _ i _ => 20 - (intOf i).toNat)
    case atStart => exact ⟨0, b, [], by omega, rfl, by omega, by omega, Lib.hid (by simp), by simp, Lib.hid rfl, rfl, rfl, Below.refl _ _⟩
    case round =>
      obtain ⟨n, c, D, hn, rfl, hc0, hc1, Hc, hDl, HD, rfl, rfl, hb⟩ := hrel
      by_cases hlt : n < 20
      · go_wp2
        go_roundw
        case rel =>
          refine ⟨n + 1, c / 10, UInt8.ofNat (48 + c % 10).toNat :: D, by omega, by go_num, by omega, by omega, Lib.hid ?_, ?_, Lib.hid ?_, rfl, ?_, hb.alloc hb.size _⟩
          · rw [Hc.out, Int.pow_succ, Int.ediv_ediv_of_nonneg (Int.pow_nonneg (by omega))]
          · have := decN_len n b.toNat
            rw [← HD.out] at this
            simp; omega
          · rw [decN_left, Hc.out, ← refd b n (by omega), HD.out]
          · exact congrArg Value.string (mk_append [_] D)
        case measure => simp [intOf]; omega
      · go_wp2
        go_ret2
        have hv : Value.string ((⟨D.toArray⟩ : ByteArray) ++ ⟨(endL k).toArray⟩) = .string ⟨(nameL b k).toArray⟩ := by
          rw [show nameL b k = D ++ endL k from by rw [HD.out, show n = 20 by omega]; rfl, ← mk_append]
        exact ⟨ret2_of hv rfl, hb⟩
end Go.Proofs.YtbnplhbepkggpaaDoor.nm
