/- A slice of the reference's segments that came in; the walk of the law NamesNexts. -/
import Derived.Test.YtbnplhbepkggpaaDoorNmB
import Derived.Deep.Slices
import Derived.OpenShut
import Derived.SizedLaws
namespace Go.Proofs.YtbnplhbepkggpaaDoor.nm
open Go Go.RowKit Go.WideShapes Go.ChangeShapes Go.Deep

theorem cellsRS : Tryd.prog.cellsOf 60 = 4 := by kernel_rfl
theorem cellsArr : Tryd.prog.cellsOf 46 = 3 := by kernel_rfl
theorem cellsI64 : Tryd.prog.cellsOf 2 = 1 := by kernel_rfl
theorem cellsBool : Tryd.prog.cellsOf 4 = 1 := by kernel_rfl
theorem bytesRS : Tryd.prog.bytesOf 60 = 16 := by kernel_rfl

set_option maxRecDepth 100000 in
/-- Four cells that read as a segment. -/
theorem seg_of {H : Type} {enc : TypeId × Value → H} {W : World} {base : Nat} {sp : Nat → Bool} {held : Bool} {fuel : Nat} {cs : List Value} {x : DataW H × List MemPlace}
    (h : DataW.trod enc Tryd.prog W base sp held fuel 60 cs = some x) : ∃ s : Seg, cs = s.cells := by
  obtain ⟨xs, n, _, rfl, hl, hlen, hf⟩ := DataW.trod_struct Tryd.underlying60 h
  rw [cellsRS] at hl
  match cs, hl with
  | [v0, v1, v2, v3], _ =>
    match xs, hlen with
    | [y0, y1], _ =>
      have e0 : DataW.trod enc Tryd.prog W base sp held n 2 (([v0, v1, v2, v3].drop 0).take (Tryd.prog.cellsOf 2)) = some y0 := hf 0 _ rfl
      have e1 : DataW.trod enc Tryd.prog W base sp held n 46 (([v0, v1, v2, v3].drop 1).take (Tryd.prog.cellsOf 46)) = some y1 := hf 1 _ rfl
      rw [cellsI64] at e0
      rw [cellsArr] at e1
      obtain ⟨b, hb, _⟩ := DataW.trod_int Tryd.underlying2 e0
      obtain ⟨zs, m, _, _, hl3, hn3, hel⟩ := DataW.trod_array Tryd.underlying46 e1
      match zs, hn3 with
      | [z0, z1, z2], _ =>
        have f0 := hel 0 (by omega)
        have f1 := hel 1 (by omega)
        have f2 := hel 2 (by omega)
        rw [cellsBool] at f0 f1 f2
        obtain ⟨p0, h0, _⟩ := DataW.trod_bool Tryd.underlying4 (x := z0) f0
        obtain ⟨p1, h1, _⟩ := DataW.trod_bool Tryd.underlying4 (x := z1) f1
        obtain ⟨p2, h2, _⟩ := DataW.trod_bool Tryd.underlying4 (x := z2) f2
        have hb' : v0 = .int .i64 b := by simpa using hb
        have h0' : v1 = .bool p0 := by simpa using h0
        have h1' : v2 = .bool p1 := by simpa using h1
        have h2' : v3 = .bool p2 := by simpa using h2
        exact ⟨⟨b, p0, p1, p2⟩, by rw [hb', h0', h1', h2']; rfl⟩

theorem choose_list {α : Type} [Inhabited α] {p : Nat → α → Prop} (n : Nat) (h : ∀ i, i < n → ∃ a, p i a) : ∃ l : List α, l.length = n ∧ ∀ i (hi : i < l.length), p i l[i] := by
  induction n with
  | zero => exact ⟨[], rfl, fun i hi => by simp at hi⟩
  | succ n ih =>
    obtain ⟨l, hl, hp⟩ := ih (fun i hi => h i (by omega))
    obtain ⟨a, ha⟩ := h n (by omega)
    refine ⟨l ++ [a], by simp [hl], fun i hi => ?_⟩
    by_cases e : i < l.length
    · rw [List.getElem_append_left e]; exact hp i e
    · have : i = n := by simp at hi; omega
      subst this
      rw [List.getElem_append_right (by omega)]
      simpa [hl] using ha

set_option maxRecDepth 100000 in
theorem segRow_of {H : Type} {enc : TypeId × Value → H} {W : World} {v : Value} {d : DataW H} {p : List MemPlace} {base : Nat}
    (o : Value.okWide Tryd.prog W .any base 36 v) (h : DataW.Trod enc Tryd.prog W 0 (fun _ => true) true 36 v d p) :
    ∃ l : List Seg, SegRow W v l ∧ (l ≠ [] → ∃ elems rest, d = .slice elems rest ∧ elems.length = l.length) := by
  obtain ⟨a, len, cap, rfl⟩ := okWide_slice Tryd.underlying36 o
  obtain ⟨fuel, hf⟩ := h
  rcases open_slice Tryd.underlying36 hf with ⟨hcs, hx⟩ | ⟨a', len', cap', m, n, D, Pl, hcs, _, hl, hm, hmm, hx, hel⟩
  · simp [Value.cells] at hcs
    obtain ⟨rfl, rfl, rfl⟩ := hcs
    exact ⟨[], ⟨none, 0, rfl, Nat.le_refl _, by simp, by simp⟩, by simp⟩
  · simp [Value.cells] at hcs
    obtain ⟨rfl, rfl, rfl⟩ := hcs
    simp only [if_true] at hmm
    subst hmm
    rw [cellsRS] at hel
    have hel' : ∀ i, i < len → ∃ s : Seg, W.cells? 0 (a'.add (i * 4)) 4 = some s.cells := by
      intro i hi
      obtain ⟨cs', h1, h2⟩ := hel i (by omega)
      obtain ⟨s, rfl⟩ := seg_of h2
      exact ⟨s, h1⟩
    obtain ⟨l, hlen, hp⟩ := choose_list len hel'
    simp only [Prod.mk.injEq] at hx
    refine ⟨l, ⟨some a', m, by rw [hlen], by omega, hm, fun hne => ?_⟩, fun _ => ⟨_, _, hx.1, by simp [hlen]⟩⟩
    have key : ∀ i (hi : i < l.length) j (hj : j < 4), W.cell? ((a'.add (i * 4)).add j) = (l[i].cells)[j]? := by
      intro i hi j hj
      obtain ⟨_, hl4, hc⟩ := World.cells?_some (hp i hi)
      exact hc j hj
    have h0 : 0 < l.length := by
      rcases l with _ | ⟨x, r⟩
      · simp at hne
      · simp
    have c0 := key 0 h0 0 (by omega)
    have c0' : W.cell? a' = some (.int .i64 l[0].base) := by simpa [Addr.add, Seg.cells] using c0
    have hsp := cell_plain c0'
    have hblt := cell_lt c0'
    obtain ⟨b, off, spot⟩ := a'
    obtain rfl : spot = none := hsp
    refine ⟨b, off, rfl, hblt, fun i hi => ?_⟩
    have k0 := key i hi 0 (by omega); have k1 := key i hi 1 (by omega); have k2 := key i hi 2 (by omega); have k3 := key i hi 3 (by omega)
    rw [add_plain, add_plain] at k0 k1 k2 k3
    exact ⟨k0, k1, k2, k3⟩

set_option maxRecDepth 100000 in
set_option maxHeartbeats 1000000 in
theorem NamesNexts_row (w : World) (base : Int) (v : Value) (l : List Seg) (hv : SegRow w v l) (hby : l.length * 16 ≤ 140737488355328) (htab : Tab w) :
    Calls Tryd.prog 6 #[.int .i64 base, v] w fun e w' => e = .returned (.bool true) ∧ Below w.heap.size w w' := by
  have HV := Lib.hid hv; clear hv
  have HT := Lib.hid htab; clear htab
  have HY := Lib.hid hby; clear hby
  go_enter Tryd.func6, Tryd.ntmps6
  go_wp2_with fail
  refine (awake_any _ HT.out).mono ?_
  rintro e w1 ⟨rfl, hb1⟩
  have HV1 := Lib.hid (segRow_below HV.out hb1)
  go_wp2_with fail
  refine (segments_any _ _ _ HV1.out HY.out).mono ?_
  rintro e w2 ⟨v2, rfl, hown, hb2⟩
  have hb12 := hb1.trans (hb2.mono hb1.size)
  have HS2 := Lib.hid (segRow_own hown); clear hown
  have HV2 := Lib.hid (segRow_below HV.out hb12)
  go_wp2_with fail
  refine (Next_any _ _ _ _ HS2.out).mono ?_
  rintro e w3 ⟨rfl, hb3⟩
  have hb13 := hb12.trans (hb3.mono hb12.size)
  have HV3 := Lib.hid (segRow_below HV.out hb13)
  have HS3 := Lib.hid (segRow_below HS2.out hb3)
  go_wp2_with fail
  refine (rNext_any _ _ _ _ HV3.out).mono ?_
  rintro e w4 ⟨rfl, hb4⟩
  have hb14 := hb13.trans (hb4.mono hb13.size)
  have HV4 := Lib.hid (segRow_below HV.out hb14)
  have HS4 := Lib.hid (segRow_below HS3.out hb4)
  go_wp2_with fail
  refine (same_eq _ _ _ _ HS4.out HV4.out).mono ?_
  rintro e w5 ⟨rfl, hb5⟩
  go_wp2
  go_ret
  exact ⟨rfl, hb14.trans (hb5.mono hb14.size)⟩

set_option maxRecDepth 100000 in
theorem NamesNexts_walk {H : Type} {enc : TypeId × Value → H} {d d0 : DataW H} {p : List MemPlace} {b : Nat} (w : World) (base : Int) (v : Value) (_w0 : (Lit.int .i64 base).wf = true)
    (o : Value.okWide Tryd.prog w .any b 36 v) (k : DataW.Trod enc Tryd.prog w 0 (fun _ => true) true 36 v d p) (_lt : ∀ x ∈ p, x.block < w.heap.size)
    (hsz : (DataW.weightsEach Tryd.prog ([2, 36] ++ []) ([d0, d] ++ [])).all (· ≤ reachBytes) = true) (htab : Tab w) :
    Calls Tryd.prog 6 #[.int .i64 base, v] w fun e w' => e = .returned (.bool true) ∧ Below w.heap.size w w' := by
  obtain ⟨l, hv, hd⟩ := segRow_of o k
  refine NamesNexts_row w base v l hv ?_ htab
  by_cases hne : l = []
  · subst hne; simp
  · obtain ⟨elems, rest, rfl, hlen⟩ := hd hne
    have := sized_slice hsz (j := 1) rfl rfl Tryd.underlying36
    rw [bytesRS] at this
    have hr := reachBytes_lt
    omega
end Go.Proofs.YtbnplhbepkggpaaDoor.nm
