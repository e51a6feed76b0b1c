/- The document's Group: its lists laid in order; what it answers is what Group answers. -/
import Derived.Test.YtbnplhbepkggpaaDoorNmE
import Derived.Sort.Walk0
import Derived.Deep.Onto
namespace Go.Proofs.YtbnplhbepkggpaaDoor.nm
open Go Go.RowKit Go.WideShapes Go.ChangeShapes Go.Maps

def newSeg (b : Int) : Seg := ⟨b, false, false, false⟩
/-- A base laid into segments, at its place, if it is not among them. -/
def insR (b : Int) : List Seg → List Seg
  | [] => [newSeg b]
  | s :: r => if b < s.base then newSeg b :: s :: r else if s.base = b then s :: r else s :: insR b r
def markAt (b k : Int) (s : Seg) : Seg := if s.base = b then s.mark k else s
theorem markAt_base (b k : Int) (s : Seg) : (markAt b k s).base = s.base := by unfold markAt; split <;> simp [Seg.mark_base]
def withR (b k : Int) (l : List Seg) : List Seg := (insR b l).map (markAt b k)
/-- A text laid into texts, at its place. -/
def insT (t : ByteArray) : List ByteArray → List ByteArray
  | [] => [t]
  | s :: r => if t.data.toList < s.data.toList then t :: s :: r else s :: insT t r
def rstep (x : List Seg × List ByteArray) (name : ByteArray) : List Seg × List ByteArray := match parseL name.data.toList with
  | none => (x.1, insT name x.2)
  | some (b, k) => (withR b k x.1, x.2)
def rgather (l : List ByteArray) : List Seg × List ByteArray := l.foldl rstep ([], [])
theorem rgather_snoc (l : List ByteArray) (k : Nat) (h : k < l.length) : rgather (l.take (k + 1)) = rstep (rgather (l.take k)) l[k] := by
  unfold rgather; rw [List.take_succ_eq_append_getElem h, List.foldl_append]; rfl

theorem insR_len : ∀ (b : Int) (l : List Seg), 1 ≤ (insR b l).length ∧ (insR b l).length ≤ l.length + 1
  | b, [] => by simp [insR]
  | b, s :: r => by
    have := insR_len b r
    unfold insR
    split
    · simp
    · split <;> simp; omega
theorem withR_len (b k : Int) (l : List Seg) : (withR b k l).length = (insR b l).length := by simp [withR]
theorem insT_len : ∀ (t : ByteArray) (l : List ByteArray), (insT t l).length = l.length + 1
  | t, [] => by simp [insT]
  | t, s :: r => by
    have := insT_len t r
    unfold insT
    split <;> simp; omega
theorem rstep_len (x : List Seg × List ByteArray) (s : ByteArray) : (rstep x s).1.length + (rstep x s).2.length ≤ x.1.length + x.2.length + 1 := by
  unfold rstep
  split
  · simp [insT_len]; omega
  · rename_i b k _
    have := (insR_len b x.1).2
    simp only [withR_len]; omega
theorem rgather_len (l : List ByteArray) : (rgather l).1.length + (rgather l).2.length ≤ l.length := by
  refine snoc_ind (p := fun l => (rgather l).1.length + (rgather l).2.length ≤ l.length) (by simp [rgather]) ?_ l
  intro l a ih
  have : rgather (l ++ [a]) = rstep (rgather l) a := by unfold rgather; rw [List.foldl_append]; rfl
  have h2 := rstep_len (rgather l) a
  rw [this, List.length_append, List.length_singleton]; omega

abbrev Rising (l : List Seg) : Prop := l.Pairwise fun x y => x.base < y.base
theorem insR_mem : ∀ (b : Int) (l : List Seg) (s : Seg), s ∈ insR b l → s = newSeg b ∨ s ∈ l
  | b, [], s, h => by simp [insR] at h; exact .inl h
  | b, x :: r, s, h => by
    unfold insR at h
    split at h
    · simpa using h
    · split at h
      · exact .inr h
      · rcases List.mem_cons.1 h with rfl | h
        · simp
        · rcases insR_mem b r s h with h | h
          · exact .inl h
          · exact .inr (List.mem_cons_of_mem _ h)
theorem insR_rising : ∀ (b : Int) (l : List Seg), Rising l → Rising (insR b l)
  | b, [], _ => by simp [insR]
  | b, s :: r, h => by
    obtain ⟨h1, h2⟩ := List.pairwise_cons.1 h
    unfold insR
    split
    · rename_i hb
      refine List.pairwise_cons.2 ⟨fun y hy => ?_, h⟩
      rcases List.mem_cons.1 hy with rfl | hy
      · exact hb
      · exact Int.lt_trans hb (h1 y hy)
    · rename_i hb
      split
      · exact h
      · rename_i hne
        refine List.pairwise_cons.2 ⟨fun y hy => ?_, insR_rising b r h2⟩
        rcases insR_mem b r y hy with rfl | hy
        · simp [newSeg]; omega
        · exact h1 y hy
theorem insR_has : ∀ (b : Int) (l : List Seg), Rising l → (∃ s ∈ l, s.base = b) → insR b l = l
  | b, [], _, h => by simp at h
  | b, s :: r, h, hm => by
    obtain ⟨h1, h2⟩ := List.pairwise_cons.1 h
    obtain ⟨x, hx, hb⟩ := hm
    unfold insR
    rcases List.mem_cons.1 hx with rfl | hx
    · rw [if_neg (by omega), if_pos hb]
    · have := h1 x hx
      rw [if_neg (by omega), if_neg (by omega), insR_has b r h2 ⟨x, hx, hb⟩]
theorem insR_new : ∀ (b : Int) (l : List Seg), (¬ ∃ s ∈ l, s.base = b) → (insR b l).Perm (newSeg b :: l)
  | b, [], _ => by simp [insR]
  | b, s :: r, h => by
    unfold insR
    split
    · exact List.Perm.refl _
    · rw [if_neg (fun e => h ⟨s, List.mem_cons_self, e⟩)]
      exact (List.Perm.cons s (insR_new b r (fun ⟨x, hx, e⟩ => h ⟨x, List.mem_cons_of_mem _ hx, e⟩))).trans (List.Perm.swap _ _ _)
theorem withR_rising (b k : Int) (l : List Seg) (h : Rising l) : Rising (withR b k l) := by
  unfold withR
  exact List.Pairwise.map _ (fun x y (hxy : x.base < y.base) => by simpa [markAt_base] using hxy) (insR_rising b l h)

theorem pos_zero : ∀ (A : List Seg) (b : Int), pos A b = 0 ↔ ¬ ∃ s ∈ A, s.base = b
  | [], b => by simp [pos]
  | s :: r, b => by
    have ih := pos_zero r b
    unfold pos
    by_cases h : s.base = b
    · simp [h]
    · rw [if_neg h]
      by_cases hp : pos r b = 0
      · rw [if_pos hp]
        refine ⟨fun _ ⟨x, hx, e⟩ => ?_, fun _ => rfl⟩
        rcases List.mem_cons.1 hx with rfl | hx
        · exact h e
        · exact ih.1 hp ⟨x, hx, e⟩
      · rw [if_neg hp]
        refine ⟨fun h' => by omega, fun h' => absurd (ih.2 fun ⟨x, hx, e⟩ => h' ⟨x, List.mem_cons_of_mem _ hx, e⟩) hp⟩
abbrev Apart (l : List Seg) : Prop := l.Pairwise fun x y => x.base ≠ y.base
theorem mark_map : ∀ (A : List Seg) (b k : Int), Apart A → pos A b ≠ 0 → A.modify (pos A b - 1) (·.mark k) = A.map (markAt b k)
  | [], b, k, _, h => by simp [pos] at h
  | s :: r, b, k, hA, h => by
    obtain ⟨h1, h2⟩ := List.pairwise_cons.1 hA
    unfold pos at h ⊢
    by_cases hs : s.base = b
    · rw [if_pos hs]
      have : r.map (markAt b k) = r := by
        conv => rhs; rw [← List.map_id r]
        apply List.map_congr_left
        intro x hx
        unfold markAt
        rw [if_neg (fun e => h1 x hx (hs.trans e.symm))]; rfl
      simp [markAt, hs, this]
    · rw [if_neg hs] at h ⊢
      by_cases hp : pos r b = 0
      · simp [hp] at h
      · rw [if_neg hp]
        obtain ⟨j, hj⟩ : ∃ j, pos r b = j + 1 := ⟨pos r b - 1, by omega⟩
        have ih := mark_map r b k h2 hp
        rw [hj] at ih ⊢
        simp only [Nat.add_sub_cancel] at ih ⊢
        rw [List.modify_succ_cons, ih]
        simp [markAt, hs]

theorem insT_perm : ∀ (t : ByteArray) (l : List ByteArray), (insT t l).Perm (t :: l)
  | t, [] => by simp [insT]
  | t, s :: r => by
    unfold insT
    split
    · exact List.Perm.refl _
    · exact (List.Perm.cons s (insT_perm t r)).trans (List.Perm.swap _ _ _)
abbrev InOrder (l : List ByteArray) : Prop := l.Pairwise fun x y => x.data.toList ≤ y.data.toList
theorem insT_order : ∀ (t : ByteArray) (l : List ByteArray), InOrder l → InOrder (insT t l)
  | t, [], _ => by simp [insT]
  | t, s :: r, h => by
    obtain ⟨h1, h2⟩ := List.pairwise_cons.1 h
    unfold insT
    split
    · rename_i hb
      refine List.pairwise_cons.2 ⟨fun y hy => ?_, h⟩
      rcases List.mem_cons.1 hy with rfl | hy
      · exact List.le_of_lt hb
      · exact List.le_trans (List.le_of_lt hb) (h1 y hy)
    · rename_i hb
      refine List.pairwise_cons.2 ⟨fun y hy => ?_, insT_order t r h2⟩
      rcases List.mem_cons.1 ((insT_perm t r).subset hy) with rfl | hy
      · exact List.not_lt.1 hb
      · exact h1 y hy

/-- The two gather the same, each in its own order. -/
theorem gathers (l : List ByteArray) : (rgather l).1.Perm (gather l).1 ∧ Rising (rgather l).1 ∧ (rgather l).2.Perm (gather l).2 ∧ InOrder (rgather l).2 := by
  refine snoc_ind (p := fun l => (rgather l).1.Perm (gather l).1 ∧ Rising (rgather l).1 ∧ (rgather l).2.Perm (gather l).2 ∧ InOrder (rgather l).2) (by simp [rgather, gather]) ?_ l
  intro l a ⟨p1, r1, p2, o2⟩
  have e1 : rgather (l ++ [a]) = rstep (rgather l) a := by unfold rgather; rw [List.foldl_append]; rfl
  have e2 : gather (l ++ [a]) = gstep (gather l) a := by unfold gather; rw [List.foldl_append]; rfl
  rw [e1, e2]
  unfold rstep gstep
  rcases hq : parseL a.data.toList with _ | ⟨b, k⟩
  · refine ⟨p1, r1, ?_, insT_order _ _ o2⟩
    exact ((insT_perm _ _).trans (p2.cons a)).trans (List.perm_append_singleton a _).symm
  · refine ⟨?_, withR_rising _ _ _ r1, p2, o2⟩
    have hap : Apart (gather l).1 := by
      refine (List.Perm.pairwise_iff (fun {x y} (h : x.base ≠ y.base) => h.symm) p1).1 ?_
      exact r1.imp (fun h => by omega)
    have hmem : (∃ s ∈ (rgather l).1, s.base = b) ↔ ∃ s ∈ (gather l).1, s.base = b := ⟨fun ⟨s, h, e⟩ => ⟨s, p1.subset h, e⟩, fun ⟨s, h, e⟩ => ⟨s, p1.symm.subset h, e⟩⟩
    unfold withR
    dsimp only
    by_cases hp : pos (gather l).1 b = 0
    · have hno := (pos_zero _ _).1 hp
      rw [if_pos hp]
      have hap2 : Apart ((gather l).1 ++ [newSeg b]) := by
        refine List.pairwise_append.2 ⟨hap, by simp, fun x hx y hy => ?_⟩
        rw [List.mem_singleton.1 hy]
        exact fun e => hno ⟨x, hx, e⟩
      have hp2 : pos ((gather l).1 ++ [newSeg b]) b ≠ 0 := by rw [pos_snoc]; simp [hp, newSeg]
      have := mark_map _ b k hap2 hp2
      rw [show (⟨b, false, false, false⟩ : Seg) = newSeg b from rfl, this]
      refine List.Perm.map _ ?_
      refine (insR_new b _ (fun h => hno (hmem.1 h))).trans ?_
      exact (p1.cons _).trans (List.perm_append_singleton _ _).symm
    · rw [if_neg hp, mark_map _ b k hap hp]
      have hyes : ∃ s ∈ (gather l).1, s.base = b := Classical.not_not.1 fun h => hp ((pos_zero _ _).2 h)
      rw [insR_has b _ r1 (hmem.2 hyes)]
      exact p1.map _

theorem strOfL_data (s : ByteArray) : strOfL s.data.toList = s := by unfold strOfL; simp
theorem strOfL_toList (x : List UInt8) : (strOfL x).data.toList = x := by unfold strOfL; simp

/-- What the document's Group answers is what Group answers. -/
theorem group_same (l : List ByteArray) (B : List Seg) (h : B.Perm (gather l).1) (hs : B.Pairwise (fun x y => ¬ y.base < x.base)) : B = (rgather l).1 ∧ sortTexts (gather l).2 = (rgather l).2 := by
  obtain ⟨p1, r1, p2, o2⟩ := gathers l
  refine ⟨?_, ?_⟩
  · refine List.Perm.eq_of_pairwise (le := fun x y => ¬ y.base < x.base) ?_ hs (r1.imp fun h => by omega) (h.trans p1.symm)
    intro a b ha hb h1 h2
    have ha' : a ∈ (rgather l).1 := (h.trans p1.symm).subset ha
    obtain ⟨i, hi, rfl⟩ := List.mem_iff_getElem.1 ha'
    obtain ⟨j, hj, rfl⟩ := List.mem_iff_getElem.1 hb
    have hr := List.pairwise_iff_getElem.1 r1
    rcases Nat.lt_trichotomy i j with hij | rfl | hij
    · exact absurd (hr i j hi hj hij) (by omega)
    · rfl
    · exact absurd (hr j i hj hi hij) (by omega)
  · have e : (rgather l).2 = ((rgather l).2.map (·.data.toList)).map strOfL := by
      rw [List.map_map]
      conv => lhs; rw [← List.map_id (rgather l).2]
      apply List.map_congr_left
      intro x _
      exact (strOfL_data x).symm
    rw [e]
    unfold sortTexts
    congr 1
    refine List.Perm.eq_of_pairwise (le := fun x y : List UInt8 => x ≤ y) (fun a b _ _ h1 h2 => List.le_antisymm h1 h2) ?_ (List.Pairwise.map _ (fun _ _ h => h) o2) ?_
    · have := List.pairwise_mergeSort (le := fun x y : List UInt8 => decide (x ≤ y)) (fun a b c h1 h2 => by simp only [decide_eq_true_eq] at *; exact List.le_trans h1 h2) (fun a b => by simp only [Bool.or_eq_true, decide_eq_true_eq]; exact List.le_total a b) ((gather l).2.map (·.data.toList))
      exact this.imp (fun h => by simpa using h)
    · exact (List.mergeSort_perm _ _).trans (p2.symm.map _)

theorem sizes_gather (l : List ByteArray) (h : ∀ s ∈ l, s.size ≤ maxLen) : ∀ s ∈ (gather l).2, s.size ≤ maxLen := by
  revert h
  refine snoc_ind (p := fun l => (∀ s ∈ l, s.size ≤ maxLen) → ∀ s ∈ (gather l).2, s.size ≤ maxLen) (by simp [gather]) ?_ l
  intro l a ih h s hs
  have e2 : gather (l ++ [a]) = gstep (gather l) a := by unfold gather; rw [List.foldl_append]; rfl
  rw [e2] at hs
  unfold gstep at hs
  split at hs
  · rcases List.mem_append.1 hs with hs | hs
    · exact ih (fun x hx => h x (List.mem_append_left _ hx)) s hs
    · rw [List.mem_singleton.1 hs]; exact h a (by simp)
  · exact ih (fun x hx => h x (List.mem_append_left _ hx)) s hs

/-- A row of the call's own that holds these segments reads as they do. -/
theorem segRow_ownT {T : TypeId} {w : World} {base : Nat} {v : Value} {l : List Seg} (h : w.ownsRow base T 4 v l.length (segCells l)) : SegRow w v l := by
  obtain ⟨_, h⟩ := h
  rcases h with ⟨rfl, h0⟩ | ⟨g, cap, cur, rfl, hg, hh, hn, hcap, hsz, htk⟩
  · have : l = [] := List.eq_nil_of_length_eq_zero h0
    subst this
    exact ⟨none, 0, rfl, Nat.le_refl _, by simp, by simp⟩
  · refine ⟨_, cap, rfl, hn, hcap, fun hne => ⟨g, 0, rfl, ?_, fun i hi => ?_⟩⟩
    · rcases Nat.lt_or_ge g w.heap.size with h1 | h1
      · exact h1
      · rw [Array.getElem?_eq_none h1] at hh; cases hh
    · have key : ∀ j, j < 4 → w.cell? ⟨g, 0 + i * 4 + j, none⟩ = (Seg.cells l[i])[j]? := by
        intro j hj
        have e1 : w.cell? ⟨g, 0 + i * 4 + j, none⟩ = cur[0 + i * 4 + j]? := by simp [World.cell?, hh]
        have e2 : cur[0 + i * 4 + j]? = (segCells l)[i * 4 + j]? := by
          rw [← htk, List.getElem?_take, if_pos (by omega), Nat.zero_add, Array.getElem?_toList]
        rw [e1, e2]
        exact segCells_get l i hi j hj
      have k0 := key 0 (by omega); have k1 := key 1 (by omega); have k2 := key 2 (by omega); have k3 := key 3 (by omega)
      simp only [Nat.add_zero] at k0
      exact ⟨k0, k1, k2, k3⟩
/-- A row of the call's own that holds these texts reads as they do. -/
theorem strRow_own {T : TypeId} {w : World} {base : Nat} {v : Value} {l : List ByteArray} (h : w.ownsRow base T 1 v l.length (strCells l)) (hz : ∀ s ∈ l, s.size ≤ maxLen) : StrRow w v l := by
  obtain ⟨_, h⟩ := h
  rcases h with ⟨rfl, h0⟩ | ⟨g, cap, cur, rfl, hg, hh, hn, hcap, hsz, htk⟩
  · have : l = [] := List.eq_nil_of_length_eq_zero h0
    subst this
    exact ⟨none, 0, rfl, Nat.le_refl _, by simp, fun _ => rfl, by simp, by simp⟩
  · refine ⟨_, cap, rfl, hn, hcap, by simp, hz, fun hne => ⟨g, 0, rfl, ?_, fun i hi => ?_⟩⟩
    · rcases Nat.lt_or_ge g w.heap.size with h1 | h1
      · exact h1
      · rw [Array.getElem?_eq_none h1] at hh; cases hh
    · have e1 : w.cell? ⟨g, 0 + i, none⟩ = cur[0 + i]? := by simp [World.cell?, hh]
      have e2 : cur[0 + i]? = (strCells l)[i]? := by
        rw [← htk, List.getElem?_take, if_pos (by omega), Nat.zero_add, Array.getElem?_toList]
      rw [e1, e2]
      simp [strCells, hi]
end Go.Proofs.YtbnplhbepkggpaaDoor.nm
