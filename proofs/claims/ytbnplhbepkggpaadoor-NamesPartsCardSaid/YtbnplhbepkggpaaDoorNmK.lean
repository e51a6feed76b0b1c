/- The walk of the law NamesGroups. -/
import Derived.Test.YtbnplhbepkggpaaDoorNmJ
import Derived.SizedLaws
namespace Go.Proofs.YtbnplhbepkggpaaDoor.nm
open Go Go.RowKit Go.WideShapes Go.ChangeShapes Go.Maps

def behindB : ByteArray := ⟨#[98, 101, 104, 105, 110, 100]⟩
def sevenB : ByteArray := ⟨#[48, 48, 48, 48, 48, 48, 48, 48, 48, 48, 48, 48, 48, 48, 48, 48, 48, 48, 48, 55, 46, 111, 102, 102]⟩

theorem own_lt {w : World} {base e size : Nat} {v : Value} {n : Nat} {xs : List Value} (h : w.ownsRow base e size v n xs) : ∀ j, v.ownBlock = some j → j < w.heap.size := by
  intro j hj
  rcases h.2 with ⟨rfl, _⟩ | ⟨g, cap, cur, rfl, hb, hh, _⟩
  · simp [Value.ownBlock] at hj
  · simp [Value.ownBlock] at hj
    subst hj
    rcases Nat.lt_or_ge g w.heap.size with h1 | h1
    · exact h1
    · rw [Array.getElem?_eq_none h1] at hh; cases hh
theorem own_cap {w : World} {base e size : Nat} {g len cap : Nat} {n : Nat} {xs : List Value} (h : w.ownsRow base e size (.slice (some ⟨g, 0, none⟩) len cap) n xs) : n ≤ cap ∧ cap ≤ maxLen := by
  rcases h.2 with ⟨h1, _⟩ | ⟨g', cap', cur, h1, hb, hh, h2, h3, _⟩
  · cases h1
  · cases h1; exact ⟨h2, h3⟩
theorem own_len {w : World} {base e size : Nat} {g len cap : Nat} {n : Nat} {xs : List Value} (h : w.ownsRow base e size (.slice (some ⟨g, 0, none⟩) len cap) n xs) : len = n := by
  rcases h.2 with ⟨h1, _⟩ | ⟨g', cap', cur, h1, hb, hh, h2, h3, _⟩
  · cases h1
  · cases h1; rfl
theorem own_slice {w : World} {base e size : Nat} {v : Value} {n : Nat} {xs : List Value} (h : w.ownsRow base e size v n xs) : ∃ a cap, v = .slice a n cap := by
  rcases h.2 with ⟨rfl, rfl⟩ | ⟨g, cap, cur, rfl, _⟩
  · exact ⟨_, _, rfl⟩
  · exact ⟨_, _, rfl⟩
theorem own_cell {w : World} {base e size : Nat} {g len cap : Nat} {n : Nat} {xs : List Value} (h : w.ownsRow base e size (.slice (some ⟨g, 0, none⟩) len cap) n xs) (i : Nat) (hi : i < n * size) : w.cell? ⟨g, i, none⟩ = xs[i]? := by
  obtain rfl := own_len h
  exact h.cellAt i hi
/-- The first of the texts that a row of the call's own holds. -/
theorem strRow_front {T : TypeId} {w : World} {base g len cap n : Nat} {l : List ByteArray} {r : List Value} (h : w.ownsRow base T 1 (.slice (some ⟨g, 0, none⟩) len cap) n (strCells l ++ r)) (hz : ∀ s ∈ l, s.size ≤ maxLen) :
    StrRow w (.slice (some ⟨g, 0, none⟩) l.length cap) l := by
  have hlen := h.1
  rw [List.length_append, show (strCells l).length = l.length by simp [strCells]] at hlen
  obtain ⟨h1, h2⟩ := own_cap h
  refine ⟨_, cap, rfl, by omega, h2, by simp, hz, fun hne => ⟨g, 0, rfl, own_lt h g rfl, fun i hi => ?_⟩⟩
  rw [Nat.zero_add, own_cell h i (by omega), List.getElem?_append_left (by simpa [strCells] using hi)]
  simp [strCells, hi]
/-- The rows that must stay. -/
structure Held (b : Nat) (W : World) (R : List Seg) (X I : List ByteArray) (vw vx vi vm vt : Value) : Prop where
  hw : W.ownsRow b 60 4 vw R.length (segCells R)
  hx : W.ownsRow b 9 1 vx X.length (strCells X)
  hi : W.ownsRow b 9 1 vi I.length (strCells I)
  hm : W.ownsRow b 48 4 vm R.length (segCells R)
  ht : W.ownsRow b 9 1 vt X.length (strCells X)
abbrev Apt (v u : Value) : Prop := ∀ g, v.ownBlock = some g → some g ≠ u.ownBlock
theorem Held.below {b : Nat} {W W' : World} {R : List Seg} {X I : List ByteArray} {vw vx vi vm vt : Value} (h : Held b W R X I vw vx vi vm vt) (hb : Below W.heap.size W W') : Held b W' R X I vw vx vi vm vt :=
  ⟨ownsRow_below h.hw hb, ownsRow_below h.hx hb, ownsRow_below h.hi hb, ownsRow_below h.hm hb, ownsRow_below h.ht hb⟩
theorem Held.keepSeg {b : Nat} {W W' : World} {R : List Seg} {X I : List ByteArray} {vw vx vi vm vt v : Value} {n : Nat} {xs : List Value} (h : Held b W R X I vw vx vi vm vt) (hl : W.ownsRow b 48 4 v n xs) (hg : W.grownBy W' v.ownBlock) (ha : Apt vm v) : Held b W' R X I vw vx vi vm vt :=
  ⟨ownsRow_keep h.hw hg (rows_apart h.hw hl (by decide)), ownsRow_keep h.hx hg (rows_apart h.hx hl (by decide)), ownsRow_keep h.hi hg (rows_apart h.hi hl (by decide)), ownsRow_keep h.hm hg ha, ownsRow_keep h.ht hg (rows_apart h.ht hl (by decide))⟩
theorem Held.keepStr {b : Nat} {W W' : World} {R : List Seg} {X I : List ByteArray} {vw vx vi vm vt v : Value} {n : Nat} {xs : List Value} (h : Held b W R X I vw vx vi vm vt) (hl : W.ownsRow b 9 1 v n xs) (hg : W.grownBy W' v.ownBlock) (hx : Apt vx v) (hi : Apt vi v) (ht : Apt vt v) : Held b W' R X I vw vx vi vm vt :=
  ⟨ownsRow_keep h.hw hg (rows_apart h.hw hl (by decide)), ownsRow_keep h.hx hg hx, ownsRow_keep h.hi hg hi, ownsRow_keep h.hm hg (rows_apart h.hm hl (by decide)), ownsRow_keep h.ht hg ht⟩
theorem Held.alloc {b : Nat} {W : World} {R : List Seg} {X I : List ByteArray} {vw vx vi vm vt : Value} (h : Held b W R X I vw vx vi vm vt) (o : Obj) : Held b (W.alloc o) R X I vw vx vi vm vt :=
  ⟨h.hw.alloc _, h.hx.alloc _, h.hi.alloc _, h.hm.alloc _, h.ht.alloc _⟩
theorem store_seg {b0 b g n len cp : Nat} {w W : World} {R : List Seg} {X I : List ByteArray} {vw vx vi vm vt vs : Value} {xs ys : List Value} {m : Nat} (h : Held b W R X I vw vx vi vm vt)
    (hl : W.ownsRow b 48 4 (.slice (some ⟨g, 0, none⟩) len cp) n xs) (hS : W.ownsRow b 9 1 vs m ys) (ha : Apt vm (.slice (some ⟨g, 0, none⟩) len cp)) (hb : Below b0 w W) (hg : b0 ≤ g) (o : Nat) (u : Value) :
    Held b (W.setCell ⟨g, o, none⟩ u) R X I vw vx vi vm vt ∧ (W.setCell ⟨g, o, none⟩ u).ownsRow b 48 4 (.slice (some ⟨g, 0, none⟩) len cp) n (xs.set o u) ∧
      (W.setCell ⟨g, o, none⟩ u).ownsRow b 9 1 vs m ys ∧ Below b0 w (W.setCell ⟨g, o, none⟩ u) := by
  obtain rfl := own_len hl
  obtain ⟨h1, h2⟩ := hl.stored o u
  exact ⟨h.keepSeg hl h2 ha, h1, ownsRow_keep hS h2 (rows_apart hS hl (by decide)), hb.setCell hg _⟩
theorem store_str {b0 b g n len cp : Nat} {w W : World} {R : List Seg} {X I : List ByteArray} {vw vx vi vm vt vl : Value} {xs ys : List Value} {m : Nat} (h : Held b W R X I vw vx vi vm vt)
    (hl : W.ownsRow b 48 4 vl m ys) (hS : W.ownsRow b 9 1 (.slice (some ⟨g, 0, none⟩) len cp) n xs) (hx : Apt vx (.slice (some ⟨g, 0, none⟩) len cp)) (hi : Apt vi (.slice (some ⟨g, 0, none⟩) len cp)) (ht : Apt vt (.slice (some ⟨g, 0, none⟩) len cp)) (hb : Below b0 w W) (hg : b0 ≤ g) (o : Nat) (u : Value) :
    Held b (W.setCell ⟨g, o, none⟩ u) R X I vw vx vi vm vt ∧ (W.setCell ⟨g, o, none⟩ u).ownsRow b 9 1 (.slice (some ⟨g, 0, none⟩) len cp) n (xs.set o u) ∧
      (W.setCell ⟨g, o, none⟩ u).ownsRow b 48 4 vl m ys ∧ Below b0 w (W.setCell ⟨g, o, none⟩ u) := by
  obtain rfl := own_len hS
  obtain ⟨h1, h2⟩ := hS.stored o u
  exact ⟨h.keepStr hS h2 hx hi ht, h1, ownsRow_keep hl h2 (rows_apart hl hS (by decide)), hb.setCell hg _⟩
theorem apt_new {b e size n H g : Nat} {W : World} {v lv : Value} {xs : List Value} {len cp : Nat} (h : W.ownsRow b e size v n xs) (ha : Apt v lv) (hH : W.heap.size ≤ H) (hat : lv.ownBlock = some g ∨ g = H) : Apt v (.slice (some ⟨g, 0, none⟩) len cp) := by
  intro j hj e
  have e' : j = g := by simpa [Value.ownBlock] using e
  subst e'
  rcases hat with hat | rfl
  · exact ha j hj hat.symm
  · have := own_lt h j hj; omega
theorem strRow_news {w : World} {v : Value} {l : List ByteArray} (h : StrRow w v l) : ∃ a cap, v = .slice a l.length cap ∧ (a = none → l = [] ∧ cap = 0) ∧ ∀ ad, a = some ad → ∀ j u, (strCells l)[j]? = some u → w.cell? (ad.add j) = some u := by
  obtain ⟨a, cap, rfl, hc, _, hn, _, hr⟩ := h
  refine ⟨a, cap, rfl, fun e => ?_, ?_⟩
  · have := hn e
    exact ⟨List.eq_nil_of_length_eq_zero (by omega), this⟩
  · rintro ad rfl j u hu
    have hj : j < l.length := by
      rcases Nat.lt_or_ge j l.length with h1 | h1
      · exact h1
      · rw [List.getElem?_eq_none (by simpa [strCells] using h1)] at hu; cases hu
    obtain ⟨b, off, hb, hlt, hcell⟩ := hr (by rintro rfl; simp at hj)
    cases hb
    rw [add_plain, hcell j hj]
    rw [← hu]; simp [strCells, hj]

set_option maxRecDepth 100000 in
set_option maxHeartbeats 4000000 in
theorem NamesGroups_row (w : World) (v : Value) (ss : List ByteArray) (hv : StrRow w v ss) (hby : ss.length * 16 ≤ 140737488351232) (htab : Tab w) :
    Calls Tryd.prog 8 #[v] w fun e w' => e = .returned (.bool true) ∧ Below w.heap.size w w' := by
  have HV := Lib.hid hv
  have HZ : Hid (∀ s ∈ ss, s.size ≤ maxLen) := Lib.hid (by obtain ⟨_, _, _, _, _, _, h, _⟩ := hv; exact h)
  clear hv
  have HT := Lib.hid htab; clear htab
  obtain ⟨i0, hi0, hz0, hz1, hz2⟩ := info_parts infoStr
  obtain ⟨j0, hj0, hy0, hy1, hy2⟩ := info_parts infoSeg
  go_enter Tryd.func8, Tryd.ntmps8
  go_wp2_with fail
  refine (awake_any _ HT.out).mono ?_
  rintro e w1 ⟨rfl, hb1⟩
  have HV1 := Lib.hid (strRow_below HV.out hb1)
  go_wp2_with fail
  refine (rGroup_any _ _ _ HV1.out (by omega)).mono ?_
  rintro e w2 ⟨vw, vx, rfl, hW2, hX2, hb2⟩
  have hs1 := hb1.size
  have hb02 := hb1.trans (hb2.mono hs1)
  have hs2 := hb02.size
  have HV2 := Lib.hid (strRow_below HV.out hb02)
  obtain ⟨a, cap, hva, hnone, hnews⟩ := strRow_news HV2.out
  have HN := Lib.hid hnews; clear hnews
  cases a
  case' none =>
    obtain ⟨hss, hc0⟩ := hnone rfl
    have e0 : Value.slice none ss.length cap = .slice none 0 0 := by rw [hss, hc0]; rfl
    subst hva
    rw [e0]
    go_upto_region 5 with fail
    rw [← e0]
    have hI3 : (w2.alloc (.cells #[] 9)).ownsRow w2.heap.size 9 1 (.slice (some ⟨w2.heap.size, 0, none⟩) 0 0) ss.length (strCells ss) := by
      rw [hss, show strCells [] = [] from rfl]; exact ⟨rfl, Or.inr ⟨_, _, #[], rfl, Nat.le_refl _, heap_alloc_new w2 _, by simp, by simp, by simp, by simp⟩⟩
    have hb3 : Below w2.heap.size w2 (w2.alloc (.cells #[] 9)) := (Below.refl _ _).alloc (Nat.le_refl _) _
    clear e0 hss hc0 hnone HN
    generalize (Value.slice (some ⟨w2.heap.size, 0, none⟩) 0 0) = vi at hI3 ⊢
    generalize w2.alloc (.cells #[] 9) = w3 at hI3 hb3 ⊢
  case' some ad =>
    clear hnone
    subst hva
    have hns := HN.out ad rfl
    go_upto_region 5 with (at_builtin; refine wpList_append_own_at _ rfl _ _ 29 rfl w2.heap.size 9 i0 (.string ByteArray.empty) 1 16 Tryd.underlying29 hi0 hz0 hz1 hz2 rfl (by decide) (.slice (some ⟨w2.heap.size, 0, none⟩) 0 0) 0 [] rfl ⟨rfl, Or.inr ⟨_, _, #[], rfl, Nat.le_refl _, heap_alloc_new w2 _, by simp, by simp, by simp, by simp⟩⟩ ad ss.length cap (strCells ss) rfl (by simp [strCells]) (fun j u hu => (World.cell?_alloc_some _ _ _ (by rw [hns j u hu]; rfl)).trans (hns j u hu)) (fun u hu => by simp [strCells] at hu; obtain ⟨s, _, rfl⟩ := hu; rfl) (by unfold maxLen; omega) (by omega) (by simp) ?_; intro vi w3 hI3 hgrow _ _)
    have hb3 : Below w2.heap.size w2 w3 := ((Below.refl _ _).alloc (Nat.le_refl _) _).grown hgrow (by simp) (fun j hj => by cases hj; exact Nat.le_refl _)
    simp only [Nat.zero_add, List.nil_append] at hI3
    clear hns hgrow HN
  all_goals
    have hs3 := hb3.size
    have hb03 := hb02.trans (hb3.mono hs2)
    have hW3 := ownsRow_below hW2 hb3
    have hX3 := ownsRow_below hX2 hb3
    have HV3 := Lib.hid (strRow_below HV2.out hb3)
    go_upto_region 6 with (at_builtin; refine wpList_append_lies _ rfl _ _ 29 rfl w2.heap.size 9 i0 (.string ByteArray.empty) 1 16 Tryd.underlying29 hi0 hz0 hz1 hz2 rfl (by decide) vi ss.length (strCells ss) rfl (hI3.alloc _) ⟨w3.heap.size, 0, none⟩ 2 2 [.string ⟨#[98, 101, 104, 105, 110, 100]⟩, .string ⟨#[48, 48, 48, 48, 48, 48, 48, 48, 48, 48, 48, 48, 48, 48, 48, 48, 48, 48, 48, 55, 46, 111, 102, 102]⟩] rfl rfl (World.news_of_block (cs := #[.string ⟨#[98, 101, 104, 105, 110, 100]⟩, .string ⟨#[48, 48, 48, 48, 48, 48, 48, 48, 48, 48, 48, 48, 48, 48, 48, 48, 48, 48, 48, 55, 46, 111, 102, 102]⟩]) (t := 9) (fr := (0, 0)) (heap_alloc_new w3 _)) (by simp [Value.oneCell']) (by omega) (by unfold maxLen; omega) (by omega) (by simp; omega) (w3.heap.size + 1) (by simp) ?_; intro gi cpi w4 hI4 hgrow4 _ _)
    have hb24 : Below w2.heap.size w2 w4 := (hb3.alloc hs3 _).grown hgrow4 (by simp; omega) (own_ge hI3)
    have hs4 := hb24.size
    have hb04 := hb02.trans (hb24.mono hs2)
    have hW4 := ownsRow_below hW2 hb24
    have hX4 := ownsRow_below hX2 hb24
    obtain ⟨hcp1, hcp2⟩ := own_cap hI4
    have HI4 := Lib.hid (strRow_front hI4 HZ.out)
    have hI4' : w4.ownsRow w2.heap.size 9 1 (.slice (some ⟨gi, 0, none⟩) (ss.length + 2) cpi) (ss ++ [behindB, sevenB]).length (strCells (ss ++ [behindB, sevenB])) := by
      rw [show strCells (ss ++ [behindB, sevenB]) = strCells ss ++ [.string behindB, .string sevenB] by simp [strCells], List.length_append]
      exact hI4
    clear hgrow4 hI3 hW3 hX3 HV3 hI4
    go_wp2_with fail
    refine (Group_any _ _ _ HI4.out (by omega)).mono ?_
    rintro e w5 ⟨vl, vs, B, rfl, hp, hpw, hl5, hS5, hb5⟩
    obtain ⟨rfl, hXe⟩ := group_same ss B hp hpw
    rw [hXe] at hS5
    clear hp hpw
    have hs5 := hb5.size
    have HI5 := Lib.hid (strRow_below HI4.out hb5)
    go_wp2_with fail
    refine (Group_any _ _ _ HI5.out (by omega)).mono ?_
    rintro e w6 ⟨vm, vt, B, rfl, hp, hpw, hm6, ht6, hb6⟩
    obtain ⟨rfl, hXe⟩ := group_same ss B hp hpw
    rw [hXe] at ht6
    clear hp hpw hXe
    have hs6 := hb6.size
    have hb46 := hb5.trans (hb6.mono hs5)
    have hl6 := ownsRow_below hl5 hb6
    have hS6 := ownsRow_below hS5 hb6
    have hw1 : w.heap.size ≤ w1.heap.size := hs1
    have hH : Held w.heap.size w6 (rgather ss).1 (rgather ss).2 (ss ++ [behindB, sevenB]) vw vx (.slice (some ⟨gi, 0, none⟩) (ss.length + 2) cpi) vm vt :=
      ⟨(ownsRow_below hW4 hb46).mono hs1, (ownsRow_below hX4 hb46).mono hs1, (ownsRow_below hI4' hb46).mono hs2, hm6.mono (by omega), ht6.mono (by omega)⟩
    have apM : Apt vm vl := fun g hg e => by have := own_ge hm6 g hg; have := own_lt hl5 g e.symm; omega
    have apT : Apt vt vs := fun g hg e => by have := own_ge ht6 g hg; have := own_lt hS5 g e.symm; omega
    have apX : Apt vx vs := fun g hg e => by have := own_lt hX4 g hg; have := own_ge hS5 g e.symm; omega
    have apI : Apt (.slice (some ⟨gi, 0, none⟩) (ss.length + 2) cpi) vs := fun g hg e => by have := own_lt hI4' g hg; have := own_ge hS5 g e.symm; omega
    have hl := hl6.mono (show w.heap.size ≤ w4.heap.size by omega)
    have hS := hS6.mono (show w.heap.size ≤ w4.heap.size by omega)
    have hb06 := hb04.trans (hb46.mono (by omega))
    have hrl := rgather_len ss
    have HV6 := Lib.hid (strRow_below HV.out hb06)
    have hXz : ∀ s ∈ (rgather ss).2, s.size ≤ maxLen := sizes_rgather ss HZ.out
    have HXZ := Lib.hid hXz; clear hXz
    clear hl5 hS5 hl6 hS6 hm6 ht6 hW4 hX4 hI4' HI4 hW2 hX2 hb46
    generalize (rgather ss).1 = R at *
    generalize (rgather ss).2 = X at *
    have hlm : ss.length + 2 ≤ 9223372036854775807 := by omega
    -- the answers are told apart
    go_wp2_with fail
    refine (same_eq _ _ _ R (segRow_ownT hl) (segRow_ownT hH.hw)).mono ?_
    rintro e w7 ⟨rfl, hb7⟩
    have hH7 := hH.below hb7
    have hl7 := ownsRow_below hl hb7
    have hS7 := ownsRow_below hS hb7
    go_wp2_with fail
    refine (sameTexts_eq _ _ _ X (strRow_own hS7 HXZ.out) (strRow_own hH7.hx HXZ.out)).mono ?_
    rintro e w8 ⟨rfl, hb8⟩
    have hH8 := hH7.below hb8
    have hl8 := ownsRow_below hl7 hb8
    have hS8 := ownsRow_below hS7 hb8
    have hb68 := hb7.trans (hb8.mono hb7.size)
    have HI8 := Lib.hid (strRow_below HI5.out (hb6.trans (hb68.mono hs6)))
    have HV8 := Lib.hid (strRow_below HV6.out hb68)
    go_wp2_with fail
    refine (sameTexts_eq _ _ _ ss HI8.out HV8.out).mono ?_
    rintro e w9 ⟨rfl, hb9⟩
    have hs68 := hb68.size
    have hb69 := hb68.trans (hb9.mono hb68.size)
    have hH9 := hH8.below hb9
    have hl9 := ownsRow_below hl8 hb9
    have hS9 := ownsRow_below hS8 hb9
    have HI9 := Lib.hid (strRow_below HI8.out hb9)
    have HV9 := Lib.hid (strRow_below HV8.out hb9)
    have hb09 := hb06.trans (hb69.mono hb06.size)
    have hi0 : w9.cell? ⟨gi, ss.length, none⟩ = some (.string behindB) := by
      rw [own_cell hH9.hi _ (by simp)]; simp [strCells]
    have hi1 : w9.cell? ⟨gi, ss.length + 1, none⟩ = some (.string sevenB) := by
      rw [own_cell hH9.hi _ (by simp)]; simp [strCells]
    have hq0 : behindB.toList = [98, 101, 104, 105, 110, 100] := by simp [behindB]
    have hq1 : sevenB.toList = [48, 48, 48, 48, 48, 48, 48, 48, 48, 48, 48, 48, 48, 48, 48, 48, 48, 48, 48, 55, 46, 111, 102, 102] := by simp [sevenB]
    clear hH hl hS hH7 hl7 hS7 hH8 hl8 hS8 hb7 hb8 hb9 hb68 HI8 HV8 hb69 hb06 HV6
    go_upto_region 10 with fail
    clear hq0 hq1 hi0 hi1
    have hkk : R.length ≤ 9223372036854775807 := by omega
    have hkx : X.length ≤ 9223372036854775807 := by omega
    go_wp2_with fail
    obtain ⟨al, cl, rfl⟩ := own_slice hl9
    obtain ⟨ax, cs, rfl⟩ := own_slice hS9
    go_loopg [10] R.length (fun g i wr => ∃ (k : Nat) (xs ys : List Value), k ≤ R.length ∧ g = R.length - k ∧ i = .int .i64 k ∧ Held w.heap.size wr R X (ss ++ [behindB, sevenB]) vw vx (.slice (some ⟨gi, 0, none⟩) (ss.length + 2) cpi) vm vt ∧
      wr.ownsRow w.heap.size 48 4 (.slice al R.length cl) R.length xs ∧ wr.ownsRow w.heap.size 9 1 (.slice ax X.length cs) X.length ys ∧ Below w.heap.size w wr)
    case atStart => exact ⟨0, _, _, by omega, rfl, rfl, hH9, hl9, hS9, hb09⟩
    case round =>
      clear hH9 hl9 hS9 hb09 HI9 HV9
      obtain ⟨k, xs, ys, hk, rfl, rfl, hH, hl, hS, hb⟩ := hrel
      by_cases hlt : k < R.length
      · obtain ⟨g, cp, he, hg0, hg1⟩ := hl.form (by omega)
        cases he
        have hc : ∀ j, j < 4 → ∃ u, wr.cell? ⟨g, k * 4 + j, none⟩ = some u := by
          intro j hj
          rw [hl.cellAt _ (by omega)]
          exact ⟨_, List.getElem?_eq_getElem (by have := hl.1; omega)⟩
        obtain ⟨u0, hu0⟩ := hc 0 (by omega)
        obtain ⟨u1, hu1⟩ := hc 1 (by omega)
        obtain ⟨u2, hu2⟩ := hc 2 (by omega)
        obtain ⟨u3, hu3⟩ := hc 3 (by omega)
        have hf0 := hl.frozenAt (k * 4)
        have hf1 := hl.frozenAt (k * 4 + 1)
        have hf2 := hl.frozenAt (k * 4 + 2)
        have hf3 := hl.frozenAt (k * 4 + 3)
        clear hc
        rw [Nat.add_zero] at hu0
        go_wp2_with fail
        go_roundg (R.length - (k + 1))
        case measure => omega
        case rel =>
          obtain ⟨a1, a2, a3, a4⟩ := store_seg hH hl hS apM hb hg0 (k * 4) (.int .i64 (-7))
          obtain ⟨b1, b2, b3, b4⟩ := store_seg a1 a2 a3 apM a4 hg0 (k * 4 + 1) (.bool false)
          obtain ⟨c1, c2, c3, c4⟩ := store_seg b1 b2 b3 apM b4 hg0 (k * 4 + 2) (.bool false)
          obtain ⟨d1, d2, d3, d4⟩ := store_seg c1 c2 c3 apM c4 hg0 (k * 4 + 3) (.bool false)
          exact ⟨k + 1, _, _, by omega, rfl, by go_num, d1, d2, d3, d4⟩
      · go_wp2_with fail
        go_loopg [11] X.length (fun g i wr => ∃ (k : Nat) (xs ys : List Value), k ≤ X.length ∧ g = X.length - k ∧ i = .int .i64 k ∧ Held w.heap.size wr R X (ss ++ [behindB, sevenB]) vw vx (.slice (some ⟨gi, 0, none⟩) (ss.length + 2) cpi) vm vt ∧
          wr.ownsRow w.heap.size 48 4 (.slice al R.length cl) R.length xs ∧ wr.ownsRow w.heap.size 9 1 (.slice ax X.length cs) X.length ys ∧ Below w.heap.size w wr)
        case atStart => exact ⟨0, _, _, by omega, rfl, rfl, hH, hl, hS, hb⟩
        case round =>
          clear hH hl hS hb hlt hk
          clear xs ys
          obtain ⟨k2, xs, ys, hk2, rfl, rfl, hH, hl, hS, hb⟩ := hrel
          by_cases hlt2 : k2 < X.length
          · obtain ⟨g, cp, he, hg0, hg1⟩ := hS.form (by omega)
            cases he
            have hc : ∃ u, wr.cell? ⟨g, k2, none⟩ = some u := by
              rw [hS.cellAt _ (by omega)]
              exact ⟨_, List.getElem?_eq_getElem (by have := hS.1; omega)⟩
            obtain ⟨u0, hu0⟩ := hc
            have hf0 := hS.frozenAt k2
            go_wp2_with fail
            go_roundg (X.length - (k2 + 1))
            case measure => omega
            case rel =>
              obtain ⟨a1, a2, a3, a4⟩ := store_str hH hl hS apX apI apT hb hg0 k2 (.string ⟨#[119, 114, 105, 116, 116, 101, 110, 32, 111, 118, 101, 114]⟩)
              exact ⟨k2 + 1, _, _, by omega, rfl, by go_num, a1, a3, a2, a4⟩
          · go_wp2_with fail
            go_loopg [6, 7, 12] 9 (fun g l s i wr => ∃ (k : Nat) (xs ys : List Value) (lv sv : Value), k ≤ 9 ∧ g = 9 - k ∧ i = .int .i64 k ∧ lv = l ∧ sv = s ∧ Held w.heap.size wr R X (ss ++ [behindB, sevenB]) vw vx (.slice (some ⟨gi, 0, none⟩) (ss.length + 2) cpi) vm vt ∧
              wr.ownsRow w.heap.size 48 4 lv (R.length + k) xs ∧ wr.ownsRow w.heap.size 9 1 sv (X.length + k) ys ∧ Apt vm lv ∧ Apt vt sv ∧ Apt vx sv ∧ Apt (.slice (some ⟨gi, 0, none⟩) (ss.length + 2) cpi) sv ∧ Below w.heap.size w wr)
            case atStart => exact ⟨0, _, _, _, _, by omega, rfl, rfl, rfl, rfl, hH, hl, hS, apM, apT, apX, apI, hb⟩
            case round =>
              clear hH hl hS hb hlt2 hk2 apM apT apX apI
              clear xs ys
              obtain ⟨k3, xs, ys, lv, sv, hk3, rfl, rfl, rfl, rfl, hH, hl, hS, apM, apT, apX, apI, hb⟩ := hrel
              have hsz := hb.size
              by_cases hlt3 : k3 < 9
              · go_upto_region 22 with (at_builtin; refine wpList_append_lies _ rfl _ _ 37 rfl w.heap.size 48 j0 _ 4 16 Tryd.underlying37 hj0 hy0 hy1 hy2 rfl (by decide) lv (R.length + k3) xs rfl (hl.alloc _) ⟨wr.heap.size, 0, none⟩ 1 1 [.int .i64 0, .bool false, .bool false, .bool false] rfl rfl (World.news_of_block (cs := #[.int .i64 0, .bool false, .bool false, .bool false]) (t := 48) (fr := (0, 0)) (heap_alloc_new wr _)) (by simp [Value.oneCell']) (by omega) (by unfold maxLen; omega) (by omega) (by simp; omega) (wr.heap.size + 1) (by simp) ?_; intro g cp wa hla hgrow hat hltg)
                have hHa := (hH.alloc (.cells #[.int .i64 0, .bool false, .bool false, .bool false] 48)).keepSeg (hl.alloc _) hgrow apM
                have hSa := ownsRow_keep (hS.alloc (.cells #[.int .i64 0, .bool false, .bool false, .bool false] 48)) hgrow (rows_apart (hS.alloc (.cells #[.int .i64 0, .bool false, .bool false, .bool false] 48)) (hl.alloc (.cells #[.int .i64 0, .bool false, .bool false, .bool false] 48)) (by decide))
                have hba := (hb.alloc hsz (.cells #[.int .i64 0, .bool false, .bool false, .bool false] 48)).grown hgrow (by simp; omega) (own_ge hl)
                have apMa : Apt vm (.slice (some ⟨g, 0, none⟩) (R.length + k3 + 1) cp) := apt_new hH.hm apM (Nat.le_succ _) hat
                have hsa := hba.size
                clear hgrow hat
                go_wp2_with (at_builtin; refine wpList_append_lies _ rfl _ _ 29 rfl w.heap.size 9 i0 (.string ByteArray.empty) 1 16 Tryd.underlying29 hi0 hz0 hz1 hz2 rfl (by decide) sv (X.length + k3) ys rfl (hSa.alloc _) ⟨wa.heap.size, 0, none⟩ 1 1 [.string ⟨#[103, 114, 111, 119, 110]⟩] rfl rfl (cell_one_new _ _ _) (by simp [Value.oneCell']) (by omega) (by unfold maxLen; omega) (by omega) (by simp; omega) (wa.heap.size + 1) (by simp) ?_; intro g2 cp2 wb hSb hgrow hat hltg2)
                go_roundg (9 - (k3 + 1))
                case measure => omega
                case rel =>
                  have hHb := (hHa.alloc (.cells #[.string ⟨#[103, 114, 111, 119, 110]⟩] 9)).keepStr (hSa.alloc _) hgrow apX apI apT
                  have hlb := ownsRow_keep (hla.alloc (.cells #[.string ⟨#[103, 114, 111, 119, 110]⟩] 9)) hgrow (rows_apart (hla.alloc (.cells #[.string ⟨#[103, 114, 111, 119, 110]⟩] 9)) (hSa.alloc (.cells #[.string ⟨#[103, 114, 111, 119, 110]⟩] 9)) (by decide))
                  exact ⟨k3 + 1, _, _, _, _, by omega, rfl, by go_num, rfl, rfl, hHb, hlb, hSb, apMa, apt_new hHa.ht apT (Nat.le_succ _) hat, apt_new hHa.hx apX (Nat.le_succ _) hat, apt_new hHa.hi apI (Nat.le_succ _) hat, (hba.alloc hsa (.cells #[.string ⟨#[103, 114, 111, 119, 110]⟩] 9)).grown hgrow (by simp; omega) (own_ge hSa)⟩
              · have HVr := Lib.hid (strRow_below HV.out hb)
                go_wp2_with fail
                refine (same_eq _ _ _ R (segRow_ownT hH.hm) (segRow_ownT hH.hw)).mono ?_
                rintro e wc ⟨rfl, hbc⟩
                have hHc := hH.below hbc
                go_wp2_with fail
                refine (sameTexts_eq _ _ _ X (strRow_own hHc.ht HXZ.out) (strRow_own hHc.hx HXZ.out)).mono ?_
                rintro e wd ⟨rfl, hbd⟩
                have hHd := hHc.below hbd
                have hbcd := hbc.trans (hbd.mono hbc.size)
                have HVd := Lib.hid (strRow_below HVr.out hbcd)
                have hId : wd.ownsRow w.heap.size 9 1 (.slice (some ⟨gi, 0, none⟩) (ss.length + 2) cpi) (ss.length + 2) (strCells ss ++ [.string behindB, .string sevenB]) := by
                  have := hHd.hi
                  rw [show strCells (ss ++ [behindB, sevenB]) = strCells ss ++ [.string behindB, .string sevenB] by simp [strCells], List.length_append] at this
                  exact this
                have HId := Lib.hid (strRow_front hId HZ.out)
                clear hId hHd hHc hH
                go_wp2_with fail
                refine (sameTexts_eq _ _ _ ss HId.out HVd.out).mono ?_
                rintro e we ⟨rfl, hbe⟩
                go_wp2_with fail
                go_ret
                exact ⟨rfl, hb.trans ((hbcd.trans (hbe.mono hbcd.size)).mono hb.size)⟩

theorem bytesStr : Tryd.prog.bytesOf 9 = 16 := by kernel_rfl
set_option maxRecDepth 100000 in
theorem NamesGroups_walk {H : Type} {enc : TypeId × Value → H} {d : DataW H} {p : List MemPlace} {base : Nat} (w : World) (v : Value)
    (o : Value.okWide Tryd.prog w .any base 29 v) (k : DataW.Trod enc Tryd.prog w 0 (fun _ => true) true 29 v d p) (_lt : ∀ x ∈ p, x.block < w.heap.size)
    (hsz : (DataW.weightsEach Tryd.prog ([29] ++ []) ([d] ++ [])).all (· ≤ reachBytes) = true) (htab : Tab w) :
    Calls Tryd.prog 8 #[v] w fun e w' => e = .returned (.bool true) ∧ Below w.heap.size w w' := by
  obtain ⟨ss, hv, hd⟩ := strRow_of o k
  refine NamesGroups_row w v ss hv ?_ htab
  rcases hd with ⟨_, rfl⟩ | ⟨rest, rfl⟩
  · simp
  · have := sized_slice hsz (j := 0) rfl rfl Tryd.underlying29
    rw [bytesStr, List.length_map] at this
    have hr : reachBytes = 140737488351232 := by decide
    omega
end Go.Proofs.YtbnplhbepkggpaaDoor.nm
