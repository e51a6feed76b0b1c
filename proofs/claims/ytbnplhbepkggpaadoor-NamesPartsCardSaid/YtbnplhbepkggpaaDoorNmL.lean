/- Plain: each name is in one segment or is stray. -/
import Derived.Test.YtbnplhbepkggpaaDoorNmJ
namespace Go.Proofs.YtbnplhbepkggpaaDoor.nm
open Go Go.RowKit

/-- Is this text the name of a base and a kind? -/
def hit (b k : Int) (t : ByteArray) : Bool := decide (t.data.toList = nameL b k)
def cnt (b k : Int) (l : List ByteArray) : Nat := l.countP (hit b k)
def cnt3 (b : Int) (l : List ByteArray) : Nat := cnt b 0 l + cnt b 1 l + cnt b 2 l
def told (R : List Seg) (l : List ByteArray) : Nat := (R.map fun s => cnt3 s.base l).sum
def Seg.has (s : Seg) (k : Nat) : Bool := if k = 0 then s.h0 else if k = 1 then s.h1 else s.h2
def isStray (t : ByteArray) : Bool := (parseL t.data.toList).isNone

theorem three {k : Nat} (h : k < 3) : k = 0 ∨ k = 1 ∨ k = 2 := by omega
theorem endB_of {k : Nat} (h : k < 3) : endB (k : Int) = true := by
  rcases three h with rfl | rfl | rfl <;> rfl
theorem hit_parse {b : Int} {k : Nat} {t : ByteArray} (hk : k < 3) (h0 : 0 ≤ b) (h1 : b ≤ 4611686018427387904) : hit b k t = true ↔ parseL t.data.toList = some (b, (k : Int)) := by
  unfold hit
  rw [decide_eq_true_iff]
  refine ⟨fun h => by rw [h]; exact parse_name _ _ h0 h1 (endB_of hk), fun h => ?_⟩
  exact (name_parse _ _ _ h).2.2.2.symm
theorem cnt_snoc (b k : Int) (l : List ByteArray) (t : ByteArray) : cnt b k (l ++ [t]) = cnt b k l + if hit b k t = true then 1 else 0 := by
  unfold cnt; rw [List.countP_append, List.countP_singleton]
theorem mark_has (s : Seg) (k j : Nat) (hk : k < 3) (hj : j < 3) : (s.mark (k : Int)).has j = (s.has j || decide (j = k)) := by
  rcases three hk with rfl | rfl | rfl <;> rcases three hj with rfl | rfl | rfl <;> simp [Seg.mark, Seg.has]

/-- What holds of the gathered segments. -/
structure Told (R : List Seg) (l : List ByteArray) : Prop where
  all : ∀ t ∈ l, ∀ b k, parseL t.data.toList = some (b, k) → ∃ s ∈ R, s.base = b
  bd : ∀ s ∈ R, 0 ≤ s.base ∧ s.base ≤ 4611686018427387904
  has : ∀ s ∈ R, ∀ k : Nat, k < 3 → s.has k = decide (0 < cnt s.base k l)
  some : ∀ s ∈ R, ∃ k : Nat, k < 3 ∧ s.has k = true

theorem cnt_zero {R : List Seg} {l : List ByteArray} (h : Told R l) {b : Int} {k : Nat} (hk : k < 3) (h0 : 0 ≤ b) (h1 : b ≤ 4611686018427387904) (hb : ¬ ∃ s ∈ R, s.base = b) : cnt b k l = 0 := by
  unfold cnt
  rw [List.countP_eq_zero]
  intro t ht hh
  exact hb (h.all t ht _ _ ((hit_parse hk h0 h1).1 hh))

theorem insR_keeps : ∀ (b : Int) (l : List Seg) (s : Seg), s ∈ l → s ∈ insR b l
  | b, [], s, h => by simp at h
  | b, x :: r, s, h => by
    unfold insR
    split
    · exact List.mem_cons_of_mem _ h
    · split
      · exact h
      · rcases List.mem_cons.1 h with rfl | h
        · exact List.mem_cons_self
        · exact List.mem_cons_of_mem _ (insR_keeps b r s h)
theorem insR_base : ∀ (b : Int) (l : List Seg), ∃ s ∈ insR b l, s.base = b
  | b, [] => ⟨newSeg b, by simp [insR], rfl⟩
  | b, x :: r => by
    unfold insR
    split
    · exact ⟨newSeg b, by simp, rfl⟩
    · split
      · rename_i h; exact ⟨x, by simp, h⟩
      · obtain ⟨s, hs, h⟩ := insR_base b r
        exact ⟨s, List.mem_cons_of_mem _ hs, h⟩

theorem told_step (R : List Seg) (X l : List ByteArray) (t : ByteArray) (hr : Rising R) (h : Told R l) : Told (rstep (R, X) t).1 (l ++ [t]) := by
  unfold rstep
  rcases hq : parseL t.data.toList with _ | ⟨b, k⟩
  · dsimp only
    have hno : ∀ s ∈ R, ∀ k : Nat, k < 3 → hit s.base k t = false := by
      intro s hs k hk
      obtain ⟨b0, b1⟩ := h.bd s hs
      rcases hh : hit s.base k t with _ | _
      · rfl
      · rw [hit_parse hk b0 b1, hq] at hh; cases hh
    refine ⟨fun u hu b k hb => ?_, h.bd, fun s hs k hk => ?_, h.some⟩
    · rcases List.mem_append.1 hu with hu | hu
      · exact h.all u hu b k hb
      · rw [List.mem_singleton.1 hu, hq] at hb; cases hb
    · rw [h.has s hs k hk, cnt_snoc, hno s hs k hk]; simp
  · obtain ⟨b0, b1, hk, hn⟩ := name_parse _ _ _ hq
    have hkk : 0 ≤ k ∧ k ≤ 2 := by simpa [endB] using hk
    obtain ⟨k, rfl⟩ := Int.eq_ofNat_of_zero_le hkk.1
    have hk3 : k < 3 := by omega
    dsimp only
    have hit_iff : ∀ (c : Int) (j : Nat), j < 3 → 0 ≤ c → c ≤ 4611686018427387904 → (hit c j t = true ↔ c = b ∧ j = k) := by
      intro c j hj c0 c1
      rw [hit_parse hj c0 c1, hq]
      simp only [Option.some.injEq, Prod.mk.injEq]
      omega
    have key : ∀ s ∈ insR b R, (0 ≤ s.base ∧ s.base ≤ 4611686018427387904) ∧ ∀ j : Nat, j < 3 → s.has j = decide (0 < cnt s.base j l) := by
      intro s hs
      by_cases hbs : ∃ s ∈ R, s.base = b
      · rw [insR_has b R hr hbs] at hs
        exact ⟨h.bd s hs, h.has s hs⟩
      · rcases insR_mem b R s hs with rfl | hs
        · refine ⟨⟨b0, b1⟩, fun j hj => ?_⟩
          rw [show (newSeg b).base = b from rfl, cnt_zero h hj b0 b1 hbs]
          rcases three hj with rfl | rfl | rfl <;> rfl
        · exact ⟨h.bd s hs, h.has s hs⟩
    refine ⟨fun u hu c j hc => ?_, fun s hs => ?_, fun s hs j hj => ?_, fun s hs => ?_⟩
    · have : ∃ s ∈ insR b R, s.base = c := by
        rcases List.mem_append.1 hu with hu | hu
        · obtain ⟨s, hs, e⟩ := h.all u hu c j hc
          exact ⟨s, insR_keeps _ _ _ hs, e⟩
        · rw [List.mem_singleton.1 hu, hq] at hc
          cases hc
          exact insR_base b R
      obtain ⟨s, hs, e⟩ := this
      exact ⟨markAt b k s, List.mem_map_of_mem hs, by rw [markAt_base, e]⟩
    · obtain ⟨s, hs', rfl⟩ := List.mem_map.1 hs
      rw [markAt_base]; exact (key s hs').1
    · obtain ⟨s, hs', rfl⟩ := List.mem_map.1 hs
      obtain ⟨⟨c0, c1⟩, hh⟩ := key s hs'
      rw [markAt_base, cnt_snoc]
      by_cases hb : s.base = b
      · unfold markAt
        rw [if_pos hb, mark_has _ _ _ hk3 hj, hh j hj]
        by_cases hjk : j = k
        · have := (hit_iff s.base j hj c0 c1).2 ⟨hb, hjk⟩
          rw [this]; simp [hjk]
        · have : ¬ hit s.base j t = true := fun h' => hjk ((hit_iff s.base j hj c0 c1).1 h').2
          rw [if_neg this]; simp [hjk]
      · unfold markAt
        have : ¬ hit s.base j t = true := fun h' => hb ((hit_iff s.base j hj c0 c1).1 h').1
        rw [if_neg hb, hh j hj, if_neg this]; simp
    · obtain ⟨s, hs', rfl⟩ := List.mem_map.1 hs
      by_cases hb : s.base = b
      · refine ⟨k, hk3, ?_⟩
        unfold markAt
        rw [if_pos hb, mark_has _ _ _ hk3 hk3]; simp
      · unfold markAt
        rw [if_neg hb]
        rcases insR_mem b R s hs' with rfl | hs'
        · exact absurd rfl hb
        · exact h.some s hs'

theorem told_all (l : List ByteArray) : Told (rgather l).1 l := by
  refine snoc_ind (p := fun l => Told (rgather l).1 l) ⟨by simp, by simp [rgather], by simp [rgather], by simp [rgather]⟩ ?_ l
  intro l a ih
  have : rgather (l ++ [a]) = rstep (rgather l) a := by unfold rgather; rw [List.foldl_append]; rfl
  rw [this]
  exact told_step _ (rgather l).2 l a (gathers l).2.1 ih

theorem strays_filter (l : List ByteArray) : (gather l).2 = l.filter isStray := by
  refine snoc_ind (p := fun l => (gather l).2 = l.filter isStray) rfl ?_ l
  intro l a ih
  have e2 : gather (l ++ [a]) = gstep (gather l) a := by unfold gather; rw [List.foldl_append]; rfl
  rw [e2, List.filter_append]
  unfold gstep
  rcases hq : parseL a.data.toList with _ | ⟨b, k⟩
  · simp [ih, isStray, hq]
  · simp [ih, isStray, hq]
theorem stray_of (l : List ByteArray) (t : ByteArray) (h : t ∈ (rgather l).2) : parseL t.data.toList = none := by
  have := (gathers l).2.2.1.subset h
  rw [strays_filter] at this
  have := (List.mem_filter.1 this).2
  unfold isStray at this
  exact Option.isNone_iff_eq_none.1 this
theorem strays_len (l : List ByteArray) : (rgather l).2.length = l.countP isStray := by
  rw [(gathers l).2.2.1.length_eq, strays_filter, List.countP_eq_length_filter]

theorem told_cons (R : List Seg) (t : ByteArray) (l : List ByteArray) : told R (t :: l) = told R l + (R.map fun s => cnt3 s.base [t]).sum := by
  unfold told
  induction R with
  | nil => rfl
  | cons s R ih =>
    have h1 : ∀ k : Int, cnt s.base k (t :: l) = cnt s.base k l + cnt s.base k [t] := by
      intro k; unfold cnt; rw [List.countP_cons, List.countP_singleton]
    simp only [List.map_cons, List.sum_cons, ih]
    unfold cnt3
    rw [h1, h1, h1]; omega
theorem one_miss (R : List Seg) (t : ByteArray) (h : ∀ s ∈ R, ∀ k : Nat, k < 3 → hit s.base k t = false) : (R.map fun s => cnt3 s.base [t]).sum = 0 := by
  induction R with
  | nil => rfl
  | cons s R ih =>
    simp only [List.map_cons, List.sum_cons]
    rw [ih (fun s hs => h s (List.mem_cons_of_mem _ hs))]
    have h0 : hit s.base 0 t = false := h s List.mem_cons_self 0 (by omega)
    have h1 : hit s.base 1 t = false := h s List.mem_cons_self 1 (by omega)
    have h2 : hit s.base 2 t = false := h s List.mem_cons_self 2 (by omega)
    simp [cnt3, cnt, h0, h1, h2]
theorem one_hit : ∀ (R : List Seg) (t : ByteArray) (b : Int) (k : Nat), k < 3 → Rising R → (∃ s ∈ R, s.base = b) → (∀ s ∈ R, ∀ j : Nat, j < 3 → (hit s.base j t = true ↔ s.base = b ∧ j = k)) → (R.map fun s => cnt3 s.base [t]).sum = 1
  | [], t, b, k, hk, hr, hb, hh => by simp at hb
  | s :: R, t, b, k, hk, hr, hb, hh => by
    obtain ⟨r1, r2⟩ := List.pairwise_cons.1 hr
    simp only [List.map_cons, List.sum_cons]
    by_cases hs : s.base = b
    · rw [one_miss R t ?_]
      · have h0 : hit s.base 0 t = true ↔ s.base = b ∧ 0 = k := hh s List.mem_cons_self 0 (by omega)
        have h1 : hit s.base 1 t = true ↔ s.base = b ∧ 1 = k := hh s List.mem_cons_self 1 (by omega)
        have h2 : hit s.base 2 t = true ↔ s.base = b ∧ 2 = k := hh s List.mem_cons_self 2 (by omega)
        simp only [hs, true_and] at h0 h1 h2
        rcases three hk with rfl | rfl | rfl <;> simp_all [cnt3, cnt]
      · intro x hx j hj
        rcases hq : hit x.base j t with _ | _
        · rfl
        · have := ((hh x (List.mem_cons_of_mem _ hx) j hj).1 hq).1
          have := r1 x hx
          omega
    · have hb' : ∃ x ∈ R, x.base = b := by
        obtain ⟨x, hx, e⟩ := hb
        rcases List.mem_cons.1 hx with rfl | hx
        · exact absurd e hs
        · exact ⟨x, hx, e⟩
      rw [one_hit R t b k hk r2 hb' (fun x hx => hh x (List.mem_cons_of_mem _ hx))]
      have hm : ∀ j : Nat, j < 3 → hit s.base j t = false := by
        intro j hj
        rcases hq : hit s.base j t with _ | _
        · rfl
        · exact absurd ((hh s List.mem_cons_self j hj).1 hq).1 hs
      have h0 : hit s.base 0 t = false := hm 0 (by omega)
      have h1 : hit s.base 1 t = false := hm 1 (by omega)
      have h2 : hit s.base 2 t = false := hm 2 (by omega)
      simp [cnt3, cnt, h0, h1, h2]

theorem told_nil (R : List Seg) : told R [] = 0 := by
  unfold told
  induction R with
  | nil => rfl
  | cons s R ih =>
    simp only [List.map_cons, List.sum_cons, ih]
    simp [cnt3, cnt]
theorem told_sum (R : List Seg) (hr : Rising R) (hbd : ∀ s ∈ R, 0 ≤ s.base ∧ s.base ≤ 4611686018427387904) : ∀ l : List ByteArray, (∀ t ∈ l, ∀ b k, parseL t.data.toList = some (b, k) → ∃ s ∈ R, s.base = b) → told R l + l.countP isStray = l.length
  | [], _ => by simp [told_nil]
  | t :: l, h => by
    have ih := told_sum R hr hbd l (fun u hu => h u (List.mem_cons_of_mem _ hu))
    rw [told_cons, List.countP_cons, List.length_cons]
    rcases hq : parseL t.data.toList with _ | ⟨b, k⟩
    · have : isStray t = true := by simp [isStray, hq]
      rw [this, one_miss R t ?_]
      · simp; omega
      · intro s hs k hk
        obtain ⟨b0, b1⟩ := hbd s hs
        rcases hh : hit s.base k t with _ | _
        · rfl
        · rw [hit_parse hk b0 b1, hq] at hh; cases hh
    · have : isStray t = false := by simp [isStray, hq]
      obtain ⟨b0, b1, hk, hn⟩ := name_parse _ _ _ hq
      have hkk : 0 ≤ k ∧ k ≤ 2 := by simpa [endB] using hk
      obtain ⟨k, rfl⟩ := Int.eq_ofNat_of_zero_le hkk.1
      rw [this, one_hit R t b k (by omega) hr (h t List.mem_cons_self b k hq) ?_]
      · simp; omega
      · intro s hs j hj
        obtain ⟨c0, c1⟩ := hbd s hs
        rw [hit_parse hj c0 c1, hq]
        simp only [Option.some.injEq, Prod.mk.injEq]
        omega
theorem told_whole (l : List ByteArray) : told (rgather l).1 l + (rgather l).2.length = l.length := by
  rw [strays_len]
  exact told_sum _ (gathers l).2.1 (told_all l).bd l (told_all l).all
end Go.Proofs.YtbnplhbepkggpaaDoor.nm
