/- script.Sparse. -/
import Derived.Test.YtbabdabdohljcaaGroup
import Derived.Maps.RangeWalk
import Derived.Deep.DeepCutAuto
import Derived.Deep.CutBlock
namespace Go.Proofs.Ytbabdabdohljcaa
open Go.RowKit
open Go.ChangeMaps (setBlock heap_setBlock_same heap_setBlock_other)
section
variable {ops : Array Oper} {rest : List Oper} {o : Oper} {a : Act} {Q : Exit → Act → World → Prop}
theorem wpList_slot (w : World) (hgd : o.guard = none) (s x : Operand) (ho : o.op = .mapEntry 44 s x) (B m : Nat) (gs : List G) (i t : Int) (hs : a.eval s = .map (some m)) (hx : a.eval x = keyV i t) (h : Tabs w B m gs)
    (hK : ∀ (w' : World) (g : G), (slot gs i t)[slotAt gs i t]? = some g → g.a = i → g.b = t → Tabs w' B m (slot gs i t) → w.grownBy w' (some m) → w'.heap.size = w.heap.size → wpList Try.prog ops Q rest (a.put o.dst (.tuple #[g.v, .int .i64 (slotAt gs i t)])) w') :
    wpList Try.prog ops Q (o :: rest) a w := by
  refine wpList_plain hgd fun K' hK' => ?_
  obtain ⟨w', g, h1, h2, h3, h4, h5, h6, hrun⟩ := h.slot_ i t
  unfold Oper.wp
  simp [execOp, ho, hs, hx, hrun, Result.andThen]
  exact hK' _ _ (hK w' g h1 h2 h3 h4 h5 h6)
theorem wpList_stored (w : World) (hgd : o.guard = none) (s x y : Operand) (ho : o.op = .entryStore 44 s x y) {w0 : World} {B m : Nat} {gs : List G} (h : Tabs w0 B m gs) {i : Nat} {g : G} (hi : gs[i]? = some g) {v : Value} {l : List Int}
    (hs : a.eval s = .map (some m)) (hx : a.eval x = .int .i64 i) (hy : a.eval y = v) (hg : w0.grownBy w g.v.ownBlock) (hown : Own i64c 3 1 w (m + 1) v l) (hat : v.ownBlock = g.v.ownBlock ∨ v.ownBlock = some w0.heap.size)
    (hK : ∀ w', Tabs w' B m (gs.set i ⟨g.a, g.b, v, l⟩) → w.grownBy w' (some m) → wpList Try.prog ops Q rest (a.put o.dst undef) w') :
    wpList Try.prog ops Q (o :: rest) a w := by
  refine wpList_plain hgd fun K' hK' => ?_
  obtain ⟨h1, hrun, h2⟩ := h.stored hi hg hown hat
  unfold Oper.wp
  simp [execOp, ho, hs, hx, hy, hrun, Result.andThen]
  exact hK' _ _ (hK _ h1 h2)
end
theorem take_succ_at {α : Type} {l : List α} {k : Nat} {x : α} (hx : l[k]? = some x) : l.take (k + 1) = l.take k ++ [x] := by
  rw [List.take_add_one, hx]; rfl
/-- The groups are those of the events es. -/
structure Rep (gs : List G) (es : List Ev) : Prop where
  has : ∀ x ∈ es, ∃ g ∈ gs, g.a = x.item ∧ g.b = x.try_
  is : ∀ g ∈ gs, g.l = (es.filter fun x => decide (x.item = g.a) && decide (x.try_ = g.b)).map Ev.win
theorem Rep.slot_ {gs : List G} {es : List Ev} (h : Rep gs es) (a b : Int) : Rep (slot gs a b) es := by
  unfold slot
  rcases hf : gs.findIdx? (hasK a b) with _ | i
  · refine ⟨fun x hx => ?_, fun g hg => ?_⟩
    · obtain ⟨g, hg, e⟩ := h.has x hx
      exact ⟨g, by simp [hg], e⟩
    · simp at hg
      rcases hg with hg | rfl
      · exact h.is g hg
      · have : (es.filter fun x => decide (x.item = a) && decide (x.try_ = b)) = [] := by
          rw [List.filter_eq_nil_iff]
          intro x hx he
          obtain ⟨g, hg, e1, e2⟩ := h.has x hx
          obtain ⟨i, hi⟩ := List.mem_iff_getElem?.1 hg
          refine nokey hf hi ?_
          simp at he
          exact ⟨by rw [e1, he.1], by rw [e2, he.2]⟩
        simp [this]
  · exact h
theorem Rep.set_ {gs : List G} {es : List Ev} (h : Rep gs es) (keys : ∀ (i j : Nat) (g h : G), i ≠ j → gs[i]? = some g → gs[j]? = some h → ¬ (g.a = h.a ∧ g.b = h.b)) {i : Nat} {g : G} {x : Ev} (hi : gs[i]? = some g) (ha : g.a = x.item) (hb : g.b = x.try_) (v : Value) :
    Rep (gs.set i ⟨g.a, g.b, v, g.l ++ [x.win]⟩) (es ++ [x]) := by
  have hlt := (List.getElem?_eq_some_iff.1 hi).1
  refine ⟨fun y hy => ?_, fun k hk => ?_⟩
  · simp at hy
    have key : ∀ k : G, k ∈ gs → ∃ k' ∈ gs.set i ⟨g.a, g.b, v, g.l ++ [x.win]⟩, k'.a = k.a ∧ k'.b = k.b := by
      intro k hk
      obtain ⟨j, hj⟩ := List.mem_iff_getElem?.1 hk
      by_cases hji : j = i
      · subst hji
        rw [hi] at hj
        injection hj with hj
        subst hj
        exact ⟨_, List.mem_iff_getElem?.2 ⟨j, List.getElem?_set_self hlt⟩, rfl, rfl⟩
      · exact ⟨k, List.mem_iff_getElem?.2 ⟨j, by rw [List.getElem?_set_ne (fun e => hji e.symm)]; exact hj⟩, rfl, rfl⟩
    rcases hy with hy | rfl
    · obtain ⟨k, hk, e1, e2⟩ := h.has y hy
      obtain ⟨k', hk', e3, e4⟩ := key k hk
      exact ⟨k', hk', e3.trans e1, e4.trans e2⟩
    · obtain ⟨k', hk', e3, e4⟩ := key g (List.mem_iff_getElem?.2 ⟨i, hi⟩)
      exact ⟨k', hk', e3.trans ha, e4.trans hb⟩
  · obtain ⟨j, hj⟩ := List.mem_iff_getElem?.1 hk
    rw [List.filter_append, List.map_append]
    by_cases hji : j = i
    · subst hji
      rw [List.getElem?_set_self hlt] at hj
      injection hj with hj
      subst hj
      simp only []
      rw [← h.is g (List.mem_iff_getElem?.2 ⟨j, hi⟩)]
      simp [ha, hb]
    · rw [List.getElem?_set_ne (fun e => hji e.symm)] at hj
      rw [← h.is k (List.mem_iff_getElem?.2 ⟨j, hj⟩)]
      have hne := keys i j g k (fun e => hji e.symm) hi hj
      have : (decide (x.item = k.a) && decide (x.try_ = k.b)) = false := by
        rw [← ha, ← hb]
        simpa using hne
      simp [this]
theorem Rep.len {gs : List G} {es : List Ev} (h : Rep gs es) {i : Nat} {g : G} (hi : gs[i]? = some g) : g.l.length ≤ es.length := by
  rw [h.is g (List.mem_iff_getElem?.2 ⟨i, hi⟩), List.length_map]
  exact List.length_filter_le _ _
/-- Any two at least two apart. -/
def Spaced (l : List Int) : Prop := l.Pairwise fun a b => 2 ≤ b - a ∨ 2 ≤ a - b
theorem Spaced.perm {l r : List Int} (h : l.Perm r) : Spaced l ↔ Spaced r := h.pairwise_iff (fun h => h.symm)
def sp (l : List Int) : Bool := decide (l.Pairwise fun a b => 1 < b - a)
theorem sp_sorted {l : List Int} (h : l.Pairwise fun a b => a ≤ b) : sp l = true ↔ Spaced l := by
  unfold sp Spaced
  rw [decide_eq_true_iff]
  constructor
  · exact fun h2 => h2.imp (fun h => .inl (by omega))
  · intro h2
    exact (h.and h2).imp (fun ⟨h3, h4⟩ => by omega)
theorem sp_succ {l : List Int} {j : Nat} {x y : Int} (h : l.Pairwise fun a b => a ≤ b) (hx : l[j]? = some x) (hy : l[j + 1]? = some y) : sp (l.take (j + 2)) = (sp (l.take (j + 1)) && decide (1 < y - x)) := by
  have e : l.take (j + 2) = l.take (j + 1) ++ [y] := take_succ_at hy
  have hle : ∀ z ∈ l.take (j + 1), z ≤ x := by
    intro z hz
    obtain ⟨t, ht, e2⟩ := List.getElem_of_mem hz
    simp at ht
    rcases Nat.lt_or_ge t j with hlt | hge
    · have := List.pairwise_iff_getElem.1 h t j (by omega) (List.getElem?_eq_some_iff.1 hx).1 hlt
      rw [(List.getElem?_eq_some_iff.1 hx).2] at this
      rw [← e2]
      simpa using this
    · have : t = j := by omega
      subst this
      rw [← e2]
      simp [(List.getElem?_eq_some_iff.1 hx).2]
  have hxm : x ∈ l.take (j + 1) := by rw [take_succ_at hx]; simp
  unfold sp
  rw [Bool.eq_iff_iff]
  simp only [Bool.and_eq_true, decide_eq_true_iff]
  rw [e, List.pairwise_append]
  constructor
  · exact fun ⟨h1, _, h3⟩ => ⟨h1, h3 x hxm y (by simp)⟩
  · refine fun ⟨h1, h2⟩ => ⟨h1, List.pairwise_singleton _ _, fun a ha b hb => ?_⟩
    simp at hb
    have := hle a ha
    omega
theorem far_iff {gs : List G} {l : List Ev} (h : Rep gs l) : FarIn l ↔ ∀ (i : Nat) (g : G), gs[i]? = some g → Spaced g.l := by
  have near_far : ∀ x y : Ev, x.item = y.item → x.try_ = y.try_ → (y.near x = false ↔ (2 ≤ y.win - x.win ∨ 2 ≤ x.win - y.win)) := by
    intro x y e1 e2
    simp only [Ev.near, e1, e2, beq_self_eq_true, Bool.true_and, decide_eq_false_iff_not]
    have h1 : max y.win x.win = if y.win ≤ x.win then x.win else y.win := by rw [Int.max_def]
    have h2 : min y.win x.win = if y.win ≤ x.win then y.win else x.win := by rw [Int.min_def]
    rw [h1, h2]
    split <;> omega
  constructor
  · intro hf i g hi
    have hm : g ∈ gs := List.mem_iff_getElem?.2 ⟨i, hi⟩
    rw [h.is g hm]
    unfold Spaced
    rw [List.pairwise_map]
    have hs : (l.filter fun x => decide (x.item = g.a) && decide (x.try_ = g.b)).Pairwise fun a b => b.near a = false := List.Pairwise.sublist List.filter_sublist hf
    refine hs.imp_of_mem ?_
    intro x y hx hy hn
    simp at hx hy
    exact (near_far x y (by rw [hx.2.1, hy.2.1]) (by rw [hx.2.2, hy.2.2])).1 hn
  · intro hs
    unfold FarIn
    rw [List.pairwise_iff_forall_sublist]
    intro x y hxy
    by_cases e : y.item = x.item ∧ y.try_ = x.try_
    · obtain ⟨g, hg, e1, e2⟩ := h.has x (hxy.subset (by simp))
      obtain ⟨i, hi⟩ := List.mem_iff_getElem?.1 hg
      have h1 := hs i g hi
      rw [h.is g hg] at h1
      unfold Spaced at h1
      rw [List.pairwise_map] at h1
      have h2 := hxy.filter (fun x => decide (x.item = g.a) && decide (x.try_ = g.b))
      have h3 : [x, y].filter (fun x => decide (x.item = g.a) && decide (x.try_ = g.b)) = [x, y] := by simp [e1, e2, e.1, e.2]
      rw [h3] at h2
      have h4 := List.pairwise_iff_forall_sublist.1 h1 h2
      exact (near_far x y e.1.symm e.2.symm).2 h4
    · unfold Ev.near
      rcases Classical.em (y.item = x.item) with e1 | e1
      · have e2 : ¬ y.try_ = x.try_ := fun e2 => e ⟨e1, e2⟩
        simp [e2]
      · simp [e1]
theorem nodup_lt : ∀ (n : Nat) (s : List Nat), s.Nodup → (∀ x ∈ s, x < n) → s.length ≤ n := by
  intro n s h1 h2
  have := List.Nodup.length_le_of_subset h1 (l₂ := List.range n) (fun x hx => by simp; exact h2 x hx)
  simpa using this
theorem Tabs.turned {w w' : World} {B m : Nat} {gs : List G} (h : Tabs w B m gs) {i : Nat} {g : G} (hi : gs[i]? = some g) {l : List Int} (hg : w.grownBy w' g.v.ownBlock) (ho : Own i64c 3 1 w' (m + 1) g.v l) : Tabs w' B m (gs.set i ⟨g.a, g.b, g.v, l⟩) := by
  have hilt := (List.getElem?_eq_some_iff.1 hi).1
  have hgm : g.v.ownBlock ≠ some m := fun e => by have := (h.own i g hi).ge m e; omega
  have ht : Tab w' m gs := (hg.block m h.lt (fun e => hgm e.symm)).trans h.tab
  have other : ∀ (j : Nat) (k : G), (gs.set i ⟨g.a, g.b, g.v, l⟩)[j]? = some k → ∃ k0, gs[j]? = some k0 ∧ k.a = k0.a ∧ k.b = k0.b ∧ k.v = k0.v ∧ (j ≠ i → k = k0) ∧ (j = i → k = ⟨g.a, g.b, g.v, l⟩) := by
    intro j k hj
    by_cases hji : j = i
    · subst hji
      rw [List.getElem?_set_self hilt] at hj
      injection hj with hj
      subst hj
      exact ⟨g, hi, rfl, rfl, rfl, fun h => absurd rfl h, fun _ => rfl⟩
    · rw [List.getElem?_set_ne (fun e => hji e.symm)] at hj
      exact ⟨k, hj, rfl, rfl, rfl, fun _ => rfl, fun e => absurd e hji⟩
  refine ⟨?_, h.ge, ?_, ?_, ?_⟩
  · unfold Tab at ht ⊢
    rw [ht, List.length_set, ← ents_set gs hi g.v l, ents_modify_same]
    intro e he
    simp [ents_at, hi] at he
    rw [← he]
  · intro j k hj
    obtain ⟨k0, h0, _, _, _, h1, h2⟩ := other j k hj
    by_cases hji : j = i
    · rw [h2 hji]
      exact ho
    · rw [h1 hji]
      exact (h.own j k0 h0).grown hg (h.apart j i k0 g hji h0 hi)
  · intro j1 j2 k1 k2 hne hj1 hj2
    obtain ⟨k0, h0, _, _, e0, _⟩ := other j1 k1 hj1
    obtain ⟨k3, h3, _, _, e3, _⟩ := other j2 k2 hj2
    rw [e0, e3]
    exact h.apart j1 j2 k0 k3 hne h0 h3
  · intro j1 j2 k1 k2 hne hj1 hj2
    obtain ⟨k0, h0, e1, e2, _⟩ := other j1 k1 hj1
    obtain ⟨k3, h3, e4, e5, _⟩ := other j2 k2 hj2
    rw [e1, e2, e4, e5]
    exact h.keys j1 j2 k0 k3 hne h0 h3
/-- slices.Sort on a row of the call's own. -/
theorem sort_own {w : World} {B : Nat} {A : Option Addr} {c : Nat} {l : List Int} (h : Own i64c 3 1 w B (.slice A l.length c) l) (hl : l.length < 4611686018427387904) :
    Calls Try.prog 21 #[.slice A l.length c] w fun e w' => e = .returned (.tuple #[]) ∧ w.grownBy w' (Value.slice A l.length c).ownBlock ∧ Own i64c 3 1 w' B (.slice A l.length c) (l.mergeSort fun x y => decide (x ≤ y)) := by
  have hsl : (l.mergeSort fun x y => decide (x ≤ y)).length = l.length := List.length_mergeSort _
  rcases h.2 with ⟨hv, h0⟩ | ⟨g, cap, cur, hv, hB, hb, hc, hcap, hs, ht⟩
  · have e : l = [] := List.eq_nil_of_length_eq_zero h0
    subst e
    refine (Try.slices_Sort_int_none A c w).mono ?_
    rintro e w' ⟨rfl, rfl⟩
    exact ⟨rfl, World.grownBy.refl _ _, by simpa using h⟩
  · injection hv with h1 h2 h3
    subst h1; subst h3
    have e1 : l.flatMap i64c = l.map (Value.int .i64) := flat_map1 _ l
    rw [e1, Nat.mul_one] at ht
    refine (Try.slices_Sort_int g 0 c l w (holds_of_blockI hb ht) (Array.getElem?_eq_some_iff.1 hb).1 hl).mono ?_
    rintro e w' ⟨rfl, n, os, rfl⟩
    refine ⟨rfl, grownBy_sortedI _, ?_⟩
    have := ownsRow_sortedI (w := w) (n := n) (os := os) (base := B) (ts := l.mergeSort fun x y => decide (x ≤ y)) hsl hB hb hc hcap hs
    unfold Own
    rw [hsl]
    have e2 : (l.mergeSort fun x y => decide (x ≤ y)).flatMap i64c = (l.mergeSort fun x y => decide (x ≤ y)).map (Value.int .i64) := flat_map1 _ _
    rw [e2]
    exact this
theorem sort_sorted (l : List Int) : (l.mergeSort fun x y => decide (x ≤ y)).Pairwise fun a b => a ≤ b := by
  have := List.pairwise_mergeSort (le := fun x y : Int => decide (x ≤ y)) (fun a b c h1 h2 => by simp at *; omega) (fun a b => by simp; omega) l
  exact this.imp (fun h => by simpa using h)
theorem sub_word {a b : Int} (ha : -9223372036854775808 ≤ a ∧ a < 9223372036854775808) (hb : -9223372036854775808 ≤ b ∧ b < 9223372036854775808) (h : b ≤ a) : decide (IntKind.u64.wrap (IntKind.u64.wrap a - IntKind.u64.wrap b) > 1) = decide (1 < a - b) := by
  rw [near_word ha hb h]
structure Like (gs gs' : List G) (r : Nat) : Prop where
  len : gs'.length = gs.length
  off : ∀ (i : Nat) (g' : G), gs'[i]? = some g' → g'.v.ownBlock ≠ some r
  perm : ∀ (i : Nat) (g' : G), gs'[i]? = some g' → ∃ g, gs[i]? = some g ∧ g'.l.Perm g.l
theorem Like.set_ {gs gs' : List G} {r : Nat} (h : Like gs gs' r) {i : Nat} {g : G} (hi : gs'[i]? = some g) {l : List Int} (hp : l.Perm g.l) : Like gs (gs'.set i ⟨g.a, g.b, g.v, l⟩) r := by
  have hilt := (List.getElem?_eq_some_iff.1 hi).1
  refine ⟨by rw [List.length_set]; exact h.len, ?_, ?_⟩
  · intro j k hj
    by_cases hji : j = i
    · subst hji
      rw [List.getElem?_set_self hilt] at hj
      injection hj with hj
      subst hj
      exact h.off j g hi
    · rw [List.getElem?_set_ne (fun e => hji e.symm)] at hj
      exact h.off j k hj
  · intro j k hj
    by_cases hji : j = i
    · subst hji
      rw [List.getElem?_set_self hilt] at hj
      injection hj with hj
      subst hj
      obtain ⟨g0, h0, h1⟩ := h.perm j g hi
      exact ⟨g0, h0, hp.trans h1⟩
    · rw [List.getElem?_set_ne (fun e => hji e.symm)] at hj
      exact h.perm j k hj
theorem sp_one (l : List Int) : sp (l.take 1) = true := by
  rcases l with _ | ⟨x, l⟩ <;> simp [sp]
theorem iter_size {w : World} {r m n : Nat} {seen : List Nat} (h : Iter w r m n seen) : (w.iterSeen r).size = seen.length := by
  unfold Iter at h
  unfold World.iterSeen
  rw [h]
  simp
/-- The step to another entry. -/
theorem stepped {w : World} {B m r n0 : Nat} {gs : List G} {seen : List Nat} {i : Nat} (h : Tabs w B m gs) (hI : Iter w r m gs.length seen) (hr : m < r) (hoff : ∀ (i : Nat) (g' : G), gs[i]? = some g' → g'.v.ownBlock ≠ some r) :
    Tabs (setBlock (w.drewN n0) r (.mapIter (some m) gs.length (seen ++ [i]).toArray gs.length)) B m gs ∧ Iter (setBlock (w.drewN n0) r (.mapIter (some m) gs.length (seen ++ [i]).toArray gs.length)) r m gs.length (seen ++ [i]) ∧
    w.grownBy (setBlock (w.drewN n0) r (.mapIter (some m) gs.length (seen ++ [i]).toArray gs.length)) (some r) := by
  have hlt : r < w.heap.size := (Array.getElem?_eq_some_iff.1 hI).1
  have hg : w.grownBy (setBlock (w.drewN n0) r (.mapIter (some m) gs.length (seen ++ [i]).toArray gs.length)) (some r) := by
    refine ⟨rfl, rfl, rfl, by simp [setBlock, World.drewN], fun k _ hk => ?_⟩
    simp only [setBlock, World.drewN]
    rw [Array.getElem?_setIfInBounds_ne (fun e => hk (by rw [e]))]
  refine ⟨h.kept hg (by simp; omega) (fun i g hi => .inr (hoff i g hi)), ?_, hg⟩
  unfold Iter setBlock
  simp only [World.drewN]
  rw [Array.getElem?_setIfInBounds_self_of_lt hlt]
set_option maxHeartbeats 8000000 in
theorem sparse_any (A : Option Addr) (n ca : Nat) (l : List Ev) (w : World) (hl : Rd Ev.cells 6 w w.heap.size A n l) (hfit : ∀ x ∈ l, x.fit) :
    Calls Try.prog 8 #[.slice A n ca] w fun e w' => e = .returned (.tuple #[.bool (sparse l), .int .i64 (chk n)]) ∧ Below w.heap.size w w' := by
  have HFit := hide hfit
  clear hfit
  by_cases hn : 1024 < n
  · have hq : sparse l = false := by unfold sparse; rw [if_pos (by rw [hl.1]; exact hn)]
    have hk : chk n = 1 := by unfold chk; rw [if_pos hn]
    rw [hq, hk]
    have HK := hide hk
    clear hq hk
    go_enter Try.func8, Try.ntmps8
    go_wp2_with (go_at_call 16; refine (check_any _ _ _ _).mono ?_; rintro e w' ⟨rfl, rfl⟩; rw [HK.out])
    go_ret2
    exact ⟨rfl, Below.refl _ _⟩
  · have hq : sparse l = decide (FarIn l) := by unfold sparse; rw [if_neg (by rw [hl.1]; exact hn)]
    have hk : chk n = 0 := by unfold chk; rw [if_neg hn]
    rw [hq, hk]
    have HK := hide hk
    clear hq hk
    have hmk : ∀ w : World, (Instr.makeMap 44 none).run Try.prog w = .ok (.map (some w.heap.size)) (w.alloc (.map #[] 0)) := by intro w; simp [Instr.makeMap]
    go_enter Try.func8, Try.ntmps8
    go_wp2_with (go_at_call 16; refine (check_any _ _ _ _).mono ?_; rintro e w' ⟨rfl, rfl⟩; rw [HK.out])
    have hs0 := Tabs.make w (Nat.le_refl _)
    have hb0 : Below w.heap.size w (w.alloc (.map #[] 0)) := (Below.refl _ _).alloc (Nat.le_refl _) _
    obtain ⟨wm, hwm⟩ : ∃ wm, wm = w.alloc (.map #[] 0) := ⟨_, rfl⟩
    rw [← hwm] at hs0 hb0 ⊢
    clear hwm
    go_loopw [21] (fun i wr => ∃ (k : Nat) (gs : List G), k ≤ n ∧ i = .int .i64 k ∧ Tabs wr w.heap.size w.heap.size gs ∧ Rep gs (l.take k) ∧ Below w.heap.size w wr) (fun i _ => n - (intOf i).toNat)
    case atStart => exact ⟨0, [], Nat.zero_le _, rfl, hs0, ⟨by simp, by simp⟩, hb0⟩
    case round =>
      clear hs0 hb0
      obtain ⟨k, gs, hk, rfl, hT, hR, hb⟩ := hrel
      have HR := hide hR
      clear hR
      by_cases hlt : k < n
      · obtain ⟨a, oa, x, rfl, hga, hx, hca⟩ := (hl.below hb).at_ hlt
        obtain ⟨a0, a1, a2, a3, a4, a5⟩ := Ev.at6 hca
        have Hx := hide hx
        have hsl : (l.take k).length ≤ 1024 := by simp; omega
        clear hca hx
        have hT3 := fun (o1 o2 o3 : Obj) => ((hT.alloc o1).alloc o2).alloc o3
        have H9 := hide (HR.out.slot_ x.item x.try_)
        go_upto_region 9 with fail
        have hsz := hb.size
        go_upto_region 10 with (first
          | (refine wpList_slot _ rfl _ _ rfl w.heap.size w.heap.size gs x.item x.try_ rfl rfl (hT3 _ _ _) ?_; intro w1 g hg hga2 hgb2 hT1 hg1 hs1; have hX1 := Blk.grown (Blk.new _ _ _) hg1 (by simp; omega); simp at hX1)
          | (at_builtin; refine wpList_app ekI _ rfl _ _ rfl (w.heap.size + 1) g.v g.l rfl (hT1.own _ _ hg) w1.heap.size _ _ _ [x.win] rfl (Rd.one hX1.lt (fun j u hu => by rw [hX1.cell]; simpa [i64c] using hu)) (by have := (H9.out.len hg); omega) (by have := hT1.lt; omega) ?_; intro v2 w2 hv2 hg2 hat2)
          | (refine wpList_stored _ rfl _ _ _ rfl hT1 hg rfl rfl rfl hg2 hv2 hat2 ?_; intro w3 hT4 hg3))
        have hR2 := H9.out.set_ hT1.keys hg hga2 hgb2 v2
        rw [← take_succ_at Hx.out] at hR2
        have HR2 := hide hR2
        have hb3 : Below w.heap.size w w3 := by
          have h3 := ((hb.alloc hb.size (.cells #[.int .i64 x.item, .int .i64 x.try_, .int .i64 x.win, .int .i64 x.tick, .int .i64 x.addr, .int .u64 x.mask] 38)).alloc (by simp; omega) (.cells #[.int .i64 x.item, .int .i64 x.try_] 46)).alloc (by simp; omega) (.cells #[.int .i64 x.win] 3)
          have h4 := h3.grown hg1 (by simp; omega) (fun j hj => by cases hj; exact Nat.le_refl _)
          have h5 := h4.grown hg2 h4.size (fun j hj => by have := (hT1.own _ _ hg).ge j hj; omega)
          exact h5.grown hg3 h5.size (fun j hj => by cases hj; exact Nat.le_refl _)
        clear hR2 hg1 hg2 hg3 hv2 hat2 hX1 hT hT3
        go_wp2_with fail
        go_roundw
        case rel => exact ⟨k + 1, _, by omega, by go_num, hT4, HR2.out, hb3⟩
        case measure => simp [intOf]; omega
      · have hkn : k = n := by omega
        subst hkn
        have ha := HR.out
        rw [List.take_of_length_le (by rw [hl.1]; omega)] at ha
        have HA := hide ha
        clear ha HR
        have hrg := run_range_map (P := Try.prog) wr 44 46 47 w.heap.size _ _ (by kernel_rfl) hT.tab
        have hTx := hT.alloc (.mapIter (some w.heap.size) gs.length #[] gs.length)
        have hIx : Iter (wr.alloc (.mapIter (some w.heap.size) gs.length #[] gs.length)) wr.heap.size w.heap.size gs.length [] := heap_alloc_new wr _
        have hbx := hb.alloc hb.size (.mapIter (some w.heap.size) gs.length #[] gs.length)
        have hoff : Like gs gs wr.heap.size := ⟨rfl, fun i g hi e => by have := (hT.own i g hi).lt _ e; omega, fun i g hi => ⟨g, hi, List.Perm.refl _⟩⟩
        have hsz := hb.size
        have hmr := hT.lt
        obtain ⟨rb, hrb⟩ : ∃ rb, rb = wr.heap.size := ⟨_, rfl⟩
        obtain ⟨wx, hwx⟩ : ∃ wx, wx = wr.alloc (.mapIter (some w.heap.size) gs.length #[] gs.length) := ⟨_, rfl⟩
        rw [← hrb, ← hwx] at hrg
        rw [← hwx, ← hrb] at hIx
        rw [← hwx] at hTx hbx
        rw [← hrb] at hoff hsz hmr
        clear hwx hrb hT hb
        go_wp2_with fail
        go_loopw [9] (fun ok wi => ∃ (b : Bool) (gs' : List G) (seen : List Nat), ok = .bool b ∧ Tabs wi w.heap.size w.heap.size gs' ∧ Iter wi rb w.heap.size gs'.length seen ∧ seen.Nodup ∧ (∀ i ∈ seen, i < gs'.length) ∧ Like gs gs' rb ∧ (b = true ↔ ∀ i ∈ seen, ∀ g, gs[i]? = some g → Spaced g.l) ∧ Below w.heap.size w wi) (fun _ wi => gs.length - (wi.iterSeen rb).size)
        case atStart => exact ⟨true, gs, [], rfl, hTx, hIx, List.nodup_nil, by simp, hoff, by simp, hbx⟩
        case round =>
          clear hTx hIx hbx hoff
          obtain ⟨b, gs', seen, rfl, hT, hI, hnd, hsl, hL, hok, hb⟩ := hrel
          have HOk := hide hok
          have HL := hide hL
          have HSl := hide hsl
          have HNd := hide hnd
          clear hok hsl hnd hL
          rcases run_next_any hT.tab hI 0 with ⟨hall, hnx⟩ | ⟨i, g, nd, hg, hns, hnx⟩
          · have hres : b = decide (FarIn l) := by
              rw [Bool.eq_iff_iff, decide_eq_true_iff, far_iff HA.out, HOk.out]
              exact ⟨fun h i g hi => h i (hall i (by rw [HL.out.len]; exact (List.getElem?_eq_some_iff.1 hi).1)) g hi, fun h i _ g hi => h i g hi⟩
            have HRes := hide hres
            clear hres hall
            go_wp2_with fail
            go_ret2
            exact ⟨ret2_bool HRes.out rfl, hb⟩
          · obtain ⟨hT1, hI1, hg1⟩ := stepped (n0 := nd) (i := i) hT hI hmr HL.out.off
            obtain ⟨w1, hw1⟩ : ∃ w1, w1 = setBlock (wr.drewN nd) rb (.mapIter (some w.heap.size) gs'.length (seen ++ [i]).toArray gs'.length) := ⟨_, rfl⟩
            rw [← hw1] at hT1 hI1 hg1 hnx
            have hen := run_entry_any hT1.tab hI1 hg
            have hb1 := hb.grown hg1 hb.size (fun j hj => by cases hj; omega)
            have hv := hT1.own i g hg
            have hlg : g.l.length < 4611686018427387904 := by
              obtain ⟨g0, h0, hp⟩ := HL.out.perm i g hg
              have := HA.out.len h0
              have := hp.length_eq
              have := hl.1
              omega
            obtain ⟨ga, gb, gv, gl⟩ := g
            obtain ⟨A1, c1, e1, hc1⟩ := hv.val
            simp only at e1 hlg hv
            subst e1
            simp only at hnx hen
            have HMs := hide (iter_size hI)
            clear hw1 hT hI hb
            go_upto_region 16 with (go_at_call 21; refine (sort_own hv hlg).mono ?_; rintro e w2 ⟨rfl, hg2, hv2⟩)
            have hrs := sort_sorted gl
            have hrp : (gl.mergeSort fun x y => decide (x ≤ y)).Perm gl := List.mergeSort_perm _ _
            obtain ⟨r, hr⟩ : ∃ r, r = gl.mergeSort fun x y => decide (x ≤ y) := ⟨_, rfl⟩
            rw [← hr] at hrs hrp hv2
            clear hr
            have hrl := hrp.length_eq
            have hrf : ∀ x ∈ r, -9223372036854775808 ≤ x ∧ x < 9223372036854775808 := by
              intro x hx
              obtain ⟨g0, h0, hp⟩ := HL.out.perm i _ hg
              have h1 := hp.subset (hrp.subset hx)
              rw [HA.out.is g0 (List.mem_iff_getElem?.2 ⟨i, h0⟩)] at h1
              obtain ⟨e0, he0, rfl⟩ := List.mem_map.1 h1
              exact HFit.out e0 (List.mem_filter.1 he0).1
            have hT2 := hT1.turned hg hg2 hv2
            have hb2 := hb1.grown hg2 hb1.size (fun j hj => by have := hv.ge j hj; omega)
            have hI2 : Iter w2 rb w.heap.size gs'.length (seen ++ [i]) := (hg2.block rb (Array.getElem?_eq_some_iff.1 hI1).1 (fun e => HL.out.off i _ hg e.symm)).trans hI1
            have HS := hide hrs
            have HP := hide hrp
            have HF := hide hrf
            have HO : Hid ((b && sp r) = true ↔ ∀ j ∈ seen ++ [i], ∀ g, gs[j]? = some g → Spaced g.l) := by
              refine hide ?_
              obtain ⟨g0, h0, hp⟩ := HL.out.perm i _ hg
              have h1 : sp r = true ↔ Spaced g0.l := (sp_sorted hrs).trans (Spaced.perm (hrp.trans hp))
              rw [Bool.and_eq_true, h1, HOk.out]
              constructor
              · rintro ⟨h2, h3⟩ j hj g1 hg1
                rcases List.mem_append.1 hj with hj | hj
                · exact h2 j hj g1 hg1
                · simp at hj
                  subst hj
                  rw [h0] at hg1
                  injection hg1 with hg1
                  rw [← hg1]
                  exact h3
              · exact fun h2 => ⟨fun j hj => h2 j (List.mem_append_left _ hj), h2 i (by simp) g0 h0⟩
            have HN : Hid ((seen ++ [i]).Nodup) := hide (by rw [List.nodup_append]; exact ⟨HNd.out, by simp, by intro a ha c hc e; simp at hc; subst hc; subst e; exact hns ha⟩)
            have hib := (List.getElem?_eq_some_iff.1 hg).1
            have HM : Hid (∀ j ∈ seen ++ [i], j < gs'.length) := hide (by intro j hj; rcases List.mem_append.1 hj with hj | hj; exact HSl.out j hj; simp at hj; omega)
            have HK2 := hide (HL.out.set_ hg (l := r) hrp)
            clear hrs hrp hrf hv hT1 hI1 hg1 hb1 hg2 hns hnx hen
            go_wp2_with fail
            go_loopw [9, 12] (fun ok i wi => ∃ q j : Nat, q = j + 1 ∧ j ≤ r.length ∧ i = .int .i64 q ∧ ok = .bool (b && sp (r.take (j + 1))) ∧ ∃ nd, wi = w2.drewN nd) (fun _ i _ => r.length + 1 - (intOf i).toNat)
            case atStart => exact ⟨1, 0, rfl, Nat.zero_le _, rfl, by rw [sp_one, Bool.and_true], 0, rfl⟩
            case round =>
              obtain ⟨q, j, hqj, hj, rfl, rfl, nd2, rfl⟩ := hrel
              have hw : IntKind.i64.wrap ((q : Int) - 1) = (j : Int) := by rw [show (q : Int) - 1 = j by omega]; exact IntWalk.i64_in _ (by omega)
              by_cases hjl : q < r.length
              · obtain ⟨x, hx⟩ : ∃ x, r[j]? = some x := ⟨r[j]'(by omega), List.getElem?_eq_getElem _⟩
                obtain ⟨y, hy⟩ : ∃ y, r[q]? = some y := ⟨r[q]'(by omega), List.getElem?_eq_getElem _⟩
                obtain ⟨g1, rfl, hg1, hg2⟩ := hv2.at_ (by omega)
                have hv3 : Own (fun x => [Value.int .i64 x]) 3 1 w2 (w.heap.size + 1) (.slice (some ⟨g1, 0, none⟩) gl.length c1) r := hv2
                have x0 := hv3.cell1 hx
                have y0 := hv3.cell1 hy
                have hy' : r[j + 1]? = some y := by rw [← hqj]; exact hy
                have hsp := sp_succ HS.out hx hy'
                have hle : x ≤ y := by
                  have := List.pairwise_iff_getElem.1 HS.out j q (by omega) hjl (by omega)
                  rw [(List.getElem?_eq_some_iff.1 hx).2, (List.getElem?_eq_some_iff.1 hy).2] at this
                  exact this
                have hsw := sub_word (HF.out y (List.mem_of_getElem? hy)) (HF.out x (List.mem_of_getElem? hx)) hle
                have HSP := hide hsp
                have HSW := hide hsw
                clear hsp hsw hle hx hy hy' hv3
                have h1 : (q : Int) < (gl.length : Int) := by omega
                have h2 : (j : Int) < (gl.length : Int) := by omega
                have h3 : q < gl.length := by omega
                have h4 : j < gl.length := by omega
                have HQ := hide hqj
                clear hqj
                rcases hB : (b && sp (r.take (j + 1))) with _ | _
                all_goals
                  have HB := hide hB
                  clear hB
                  go_wp2_with fail
                  go_quiet (fail)
                  go_wp2_with fail
                  go_roundw
                  case rel => exact ⟨q + 1, j + 1, by rw [HQ.out], by have := HQ.out; omega, by go_num, by rw [HSP.out, ← Bool.and_assoc, HB.out]; simp [HSW.out], _, rfl⟩
                  case measure => simp [intOf]; omega
              · have htk : r.take (j + 1) = r := List.take_of_length_le (by omega)
                rw [htk]
                have h3 : ¬ (q : Int) < (gl.length : Int) := by omega
                go_wp2_with fail
                go_roundw
                case rel => exact ⟨_, _, seen ++ [i], rfl, hT2.drewN _, by rw [List.length_set]; exact hI2, HN.out, by rw [List.length_set]; exact HM.out, HK2.out, HO.out, below_drewN hb2 _⟩
                case measure =>
                  have h1 : ((w2.drewN nd2).iterSeen rb).size = (seen ++ [i]).length := iter_size (w := w2.drewN nd2) hI2
                  have h2 := HMs.out
                  have h3 := nodup_lt gs'.length _ HN.out HM.out
                  have h4 := HL.out.len
                  rw [List.length_append] at h1 h3
                  simp at h1 h3
                  omega
end Go.Proofs.Ytbabdabdohljcaa
