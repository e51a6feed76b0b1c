/- What Group gathers, name by name; its loop. -/
import Derived.Test.YtbnplhbepkggpaaDoorNmC
import Derived.Maps.OwnOps
import Derived.Maps.Views
import Derived.Maps.AppendAt
namespace Go.Proofs.YtbnplhbepkggpaaDoor.nm
open Go Go.RowKit Go.WideShapes Go.ChangeShapes Go.Maps

/-- A segment with one more file there. -/
def Seg.mark (s : Seg) (k : Int) : Seg := if k = 0 then { s with h0 := true } else if k = 1 then { s with h1 := true } else { s with h2 := true }
theorem Seg.mark_base (s : Seg) (k : Int) : (s.mark k).base = s.base := by unfold Seg.mark; split <;> (try rfl); split <;> rfl

/-- The number of the first segment with a base, and one; 0: there is none. -/
def pos (A : List Seg) (b : Int) : Nat := match A with
  | [] => 0
  | s :: r => if s.base = b then 1 else if pos r b = 0 then 0 else pos r b + 1
theorem pos_le : ∀ (A : List Seg) (b : Int), pos A b ≤ A.length
  | [], b => by simp [pos]
  | s :: r, b => by
    have := pos_le r b
    unfold pos
    split
    · simp
    · split <;> simp; omega
theorem pos_snoc : ∀ (A : List Seg) (s : Seg) (b : Int), pos (A ++ [s]) b = if pos A b ≠ 0 then pos A b else if s.base = b then A.length + 1 else 0
  | [], s, b => by simp [pos]
  | x :: r, s, b => by
    rw [List.cons_append, pos, pos_snoc r s b, pos]
    by_cases h1 : x.base = b
    · simp [h1]
    · by_cases h2 : pos r b = 0
      · by_cases h3 : s.base = b <;> simp [h1, h2, h3]
      · simp [h1, h2]
theorem pos_mark : ∀ (A : List Seg) (i : Nat) (k b : Int), pos (A.modify i (·.mark k)) b = pos A b
  | [], i, k, b => by simp
  | x :: r, 0, k, b => by simp [pos, Seg.mark_base]
  | x :: r, i + 1, k, b => by simp [pos, pos_mark r i k b]

/-- What a name does to the segments and the stray names that were gathered. -/
def gstep (x : List Seg × List ByteArray) (name : ByteArray) : List Seg × List ByteArray := match parseL name.data.toList with
  | none => (x.1, x.2 ++ [name])
  | some (b, k) =>
    let A := if pos x.1 b = 0 then x.1 ++ [⟨b, false, false, false⟩] else x.1
    (A.modify (pos A b - 1) (·.mark k), x.2)
def gather (l : List ByteArray) : List Seg × List ByteArray := l.foldl gstep ([], [])
theorem gather_snoc (l : List ByteArray) (k : Nat) (h : k < l.length) : gather (l.take (k + 1)) = gstep (gather (l.take k)) l[k] := by
  unfold gather; rw [List.take_succ_eq_append_getElem h, List.foldl_append]; rfl
theorem gstep_len (x : List Seg × List ByteArray) (s : ByteArray) : (gstep x s).1.length + (gstep x s).2.length ≤ x.1.length + x.2.length + 1 := by
  unfold gstep
  split
  · simp; omega
  · simp only [List.length_modify]
    split <;> simp <;> omega
theorem gather_len (l : List ByteArray) : (gather l).1.length + (gather l).2.length ≤ l.length := by
  refine snoc_ind (p := fun l => (gather l).1.length + (gather l).2.length ≤ l.length) (by simp [gather]) ?_ l
  intro l a ih
  have : gather (l ++ [a]) = gstep (gather l) a := by unfold gather; rw [List.foldl_append]; rfl
  have h2 := gstep_len (gather l) a
  rw [this, List.length_append, List.length_singleton]; omega

/-- The map of Group tells the segments' numbers. -/
def MapOk (D : DataW Unit) (A : List Seg) : Prop := IsMap D ∧ ∀ b : Int, D.atKey (.int .i64 b) (.lit (.int .i64 0)) = .lit (.int .i64 (pos A b))
theorem mapOk_put {D : DataW Unit} {A : List Seg} (h : MapOk D A) (s : Seg) (h0 : pos A s.base = 0) : MapOk (D.put (.int .i64 s.base) (.lit (.int .i64 ((A.length + 1 : Nat) : Int)))) (A ++ [s]) := by
  refine ⟨h.1.put _ _, fun b => ?_⟩
  rw [pos_snoc]
  by_cases e : b = s.base
  · subst e
    rw [atKey_put_same h.1 (by trivial), if_neg (by simp [h0]), if_pos rfl]
  · rw [atKey_put_other (by intro h'; exact e (by injection h')), h.2 b]
    split
    · rfl
    · rename_i hz
      have hz' : pos A b = 0 := by simpa using hz
      simp [hz', Ne.symm e]

def strCells (S : List ByteArray) : List Value := S.map Value.string
theorem infoStr : (Tryd.prog.info? 9).map (fun i => (i.zero, i.size, i.bytes)) = some (some (.string ByteArray.empty), 1, 16) := by kernel_rfl

theorem grown_of_below {w w' : World} (h : Below w.heap.size w w') (row : Option Nat) : w.grownBy w' row := ⟨h.os, h.tape, h.output, h.size, fun k hk _ => h.block k hk⟩
theorem ownsRow_keep {w w' : World} {base : Nat} {e : TypeId} {size : Nat} {v : Value} {n : Nat} {xs : List Value} {row : Option Nat} (h : w.ownsRow base e size v n xs) (hg : w.grownBy w' row) (hne : ∀ g, v.ownBlock = some g → some g ≠ row) :
    w'.ownsRow base e size v n xs := by
  obtain ⟨h1, h2⟩ := h
  refine ⟨h1, ?_⟩
  rcases h2 with h2 | ⟨g, cap, cur, rfl, hb, hh, r⟩
  · exact Or.inl h2
  · refine Or.inr ⟨g, cap, cur, rfl, hb, ?_, r⟩
    rw [hg.block g ?_ (hne g rfl), hh]
    rcases Nat.lt_or_ge g w.heap.size with h1 | h1
    · exact h1
    · rw [Array.getElem?_eq_none h1] at hh; cases hh
theorem ownsRow_below {w w' : World} {base : Nat} {e : TypeId} {size : Nat} {v : Value} {n : Nat} {xs : List Value} (h : w.ownsRow base e size v n xs) (hb : Below w.heap.size w w') : w'.ownsRow base e size v n xs :=
  ownsRow_keep h (grown_of_below hb none) (fun _ _ => by simp)
/-- Rows of two element types lie apart. -/
theorem rows_apart {w : World} {base e e' size size' : Nat} {v v' : Value} {n n' : Nat} {xs xs' : List Value} (h : w.ownsRow base e size v n xs) (h' : w.ownsRow base e' size' v' n' xs') (hne : e ≠ e') : ∀ g, v.ownBlock = some g → some g ≠ v'.ownBlock := by
  intro g hg hg'
  rcases h.2 with ⟨rfl, _⟩ | ⟨g1, cap, cur, rfl, _, hh, _⟩
  · simp [Value.ownBlock] at hg
  · rcases h'.2 with ⟨rfl, _⟩ | ⟨g2, cap', cur', rfl, _, hh', _⟩
    · simp [Value.ownBlock] at hg'
    · simp [Value.ownBlock] at hg hg'
      subst hg; subst hg'
      rw [hh] at hh'
      simp at hh'
      exact hne hh'.2
theorem map_apart {w : World} {base e size : Nat} {v : Value} {n : Nat} {xs : List Value} {P : Program} {k : TypeId} {R : Value → Option (DataW Unit × List MemPlace)} {b m : Nat} {D : DataW Unit} (h : w.ownsRow base e size v n xs) (h' : w.ownsMap P k R b m D) : some b ≠ v.ownBlock := by
  intro hg
  rcases h.2 with ⟨rfl, _⟩ | ⟨g1, cap, cur, rfl, _, hh, _⟩
  · simp [Value.ownBlock] at hg
  · simp [Value.ownBlock] at hg
    subst hg
    obtain ⟨es, clock, hb, _⟩ := h'
    rw [hh] at hb
    simp at hb
theorem own_ge {w : World} {base e size : Nat} {v : Value} {n : Nat} {xs : List Value} (h : w.ownsRow base e size v n xs) : ∀ j, v.ownBlock = some j → base ≤ j := by
  intro j hj
  rcases h.2 with ⟨rfl, _⟩ | ⟨g1, cap, cur, rfl, hb, hh, _⟩
  · simp [Value.ownBlock] at hj
  · simp [Value.ownBlock] at hj; omega
theorem segCells_snoc (A : List Seg) (s : Seg) : segCells (A ++ [s]) = segCells A ++ s.cells := by simp [segCells]
theorem strRow_below {w w' : World} {v : Value} {l : List ByteArray} (h : StrRow w v l) (hb : Below w.heap.size w w') : StrRow w' v l := by
  obtain ⟨a, cap, rfl, hc, hm, hn, hs, hr⟩ := h
  refine ⟨a, cap, rfl, hc, hm, hn, hs, fun hne => ?_⟩
  obtain ⟨b, off, rfl, hlt, hcell⟩ := hr hne
  exact ⟨b, off, rfl, Nat.lt_of_lt_of_le hlt hb.size, fun i hi => by rw [hb.cell (p := ⟨b, _, none⟩) hlt]; exact hcell i hi⟩
end Go.Proofs.YtbnplhbepkggpaaDoor.nm
