/- Groups of numbers by key: a map made by the call, rows of the call's own as its elements; spec words. -/
import Derived.Test.YtbabdabdohljcaaTab
import Derived.Test.YtbabdabdohljcaaStrike
import Derived.Test.YtbabdabdohljcaaShelf
import Derived.Sort.OwnSortedInts
namespace Go.Proofs.Ytbabdabdohljcaa
open Go.RowKit
open Go.ChangeMaps (setBlock heap_setBlock_same heap_setBlock_other)
def i64c (x : Int) : List Value := [.int .i64 x]
theorem ekI : EK Try.prog 47 3 1 8 i64c := EK.mk' (z := .int .i64 0) (by kernel_rfl) (by kernel_rfl) rfl (by decide) (by decide) (fun _ => rfl) (fun x u h => by simp [i64c] at h; subst h; rfl)
/-- The map m's rows. -/
structure Tabs (w : World) (B m : Nat) (gs : List G) : Prop where
  tab : Tab w m gs
  ge : B ≤ m
  own : ∀ (i : Nat) (g : G), gs[i]? = some g → Own i64c 3 1 w (m + 1) g.v g.l
  apart : ∀ (i j : Nat) (g h : G), i ≠ j → gs[i]? = some g → gs[j]? = some h → g.v.ownBlock = none ∨ g.v.ownBlock ≠ h.v.ownBlock
  keys : ∀ (i j : Nat) (g h : G), i ≠ j → gs[i]? = some g → gs[j]? = some h → ¬ (g.a = h.a ∧ g.b = h.b)
section
variable {w w' : World} {B m : Nat} {gs : List G}
theorem Tabs.lt (h : Tabs w B m gs) : m < w.heap.size := (Array.getElem?_eq_some_iff.1 h.tab).1
/-- What turned is no row of the map and not the map. -/
theorem Tabs.kept (h : Tabs w B m gs) {row : Option Nat} (hg : w.grownBy w' row) (hm : row ≠ some m) (hr : ∀ (i : Nat) (g : G), gs[i]? = some g → g.v.ownBlock = none ∨ g.v.ownBlock ≠ row) : Tabs w' B m gs :=
  ⟨(hg.block m h.lt (fun e => hm e.symm)).trans h.tab, h.ge, fun i g hi => (h.own i g hi).grown hg (hr i g hi), h.apart, h.keys⟩
theorem Tabs.below (h : Tabs w B m gs) (hb : Below w.heap.size w w') : Tabs w' B m gs :=
  h.kept (row := none) ⟨hb.os, hb.tape, hb.output, hb.size, fun k hk _ => hb.block k hk⟩ (by simp) (fun i g _ => by cases g.v.ownBlock <;> simp)
theorem Tabs.alloc (h : Tabs w B m gs) (o : Obj) : Tabs (w.alloc o) B m gs := h.below ((Below.refl _ _).alloc (Nat.le_refl _) o)
theorem Tabs.drewN (h : Tabs w B m gs) (n : Nat) : Tabs (w.drewN n) B m gs := h.below (below_refl_drewN _ _ n)
theorem Tabs.make (w : World) (hB : B ≤ w.heap.size) : Tabs (w.alloc (.map #[] 0)) B w.heap.size [] :=
  ⟨heap_alloc_new w _, hB, by simp, by simp, by simp⟩
theorem grown_setBlock {es : Array MapEntry} {c : Nat} {o' : Obj} (h : w.heap[m]? = some (.map es c)) : w.grownBy (setBlock w m o') (some m) :=
  ⟨rfl, rfl, rfl, by simp [setBlock], fun i _ hi => heap_setBlock_other h _ (fun e => hi (by rw [e]))⟩
/-- With a place for the key. -/
def slot (gs : List G) (a b : Int) : List G := match gs.findIdx? (hasK a b) with | some _ => gs | none => gs ++ [⟨a, b, .slice none 0 0, []⟩]
def slotAt (gs : List G) (a b : Int) : Nat := (gs.findIdx? (hasK a b)).getD gs.length
theorem nokey {a b : Int} (h : gs.findIdx? (hasK a b) = none) {i : Nat} {g : G} (hi : gs[i]? = some g) : ¬ (a = g.a ∧ b = g.b) := by
  rw [List.findIdx?_eq_none_iff] at h
  have := h g (List.mem_of_getElem? hi)
  simpa [hasK] using this
theorem slot_at {a b : Int} : ∃ g, (slot gs a b)[slotAt gs a b]? = some g ∧ g.a = a ∧ g.b = b := by
  unfold slot slotAt
  rcases h : gs.findIdx? (hasK a b) with _ | i
  · exact ⟨⟨a, b, .slice none 0 0, []⟩, by simp, rfl, rfl⟩
  · obtain ⟨h1, h2, _⟩ := List.findIdx?_eq_some_iff_getElem.1 h
    refine ⟨gs[i], by simp, ?_⟩
    have : a = gs[i].a ∧ b = gs[i].b := by simpa [hasK] using h2
    exact ⟨this.1.symm, this.2.symm⟩
theorem Tabs.slot_ (h : Tabs w B m gs) (a b : Int) : ∃ (w' : World) (g : G), (slot gs a b)[slotAt gs a b]? = some g ∧ g.a = a ∧ g.b = b ∧ Tabs w' B m (slot gs a b) ∧ w.grownBy w' (some m) ∧ w'.heap.size = w.heap.size ∧
    (Instr.mapEntry 44 (.map (some m)) (keyV a b)).run Try.prog w = .ok (.tuple #[g.v, .int .i64 (slotAt gs a b)]) w' := by
  obtain ⟨g, hg, ha, hb⟩ := slot_at (gs := gs) (a := a) (b := b)
  rcases hf : gs.findIdx? (hasK a b) with _ | i
  · have e1 : slot gs a b = gs ++ [⟨a, b, .slice none 0 0, []⟩] := by unfold slot; rw [hf]
    have e2 : slotAt gs a b = gs.length := by unfold slotAt; rw [hf]; rfl
    rw [e1, e2] at hg
    simp at hg
    subst hg
    refine ⟨_, ⟨a, b, .slice none 0 0, []⟩, by rw [e1, e2]; simp, rfl, rfl, ?_, grown_setBlock h.tab, by simp [setBlock], by rw [e2]; exact run_entry_new h.tab hf⟩
    rw [e1]
    have hg2 := grown_setBlock (o' := .map (ents 0 (gs ++ [(⟨a, b, .slice none 0 0, []⟩ : G)])).toArray (gs ++ [(⟨a, b, .slice none 0 0, []⟩ : G)]).length) h.tab
    have old : ∀ (i : Nat) (g : G), (gs ++ [(⟨a, b, .slice none 0 0, []⟩ : G)])[i]? = some g → gs[i]? = some g ∧ i < gs.length ∨ i = gs.length ∧ g = ⟨a, b, .slice none 0 0, []⟩ := by
      intro i g hi
      rcases Nat.lt_or_ge i gs.length with hlt | hge
      · rw [List.getElem?_append_left hlt] at hi
        exact .inl ⟨hi, hlt⟩
      · rw [List.getElem?_append_right hge] at hi
        have : i - gs.length = 0 := by
          have := (List.getElem?_eq_some_iff.1 hi).1
          simp at this
          omega
        rw [this] at hi
        simp at hi
        exact .inr ⟨by omega, hi.symm⟩
    refine ⟨heap_setBlock_same h.tab _, h.ge, ?_, ?_, ?_⟩
    · intro i g hi
      rcases old i g hi with ⟨h1, _⟩ | ⟨_, rfl⟩
      · refine (h.own i g h1).grown hg2 ?_
        rcases hv : g.v.ownBlock with _ | k
        · exact .inl rfl
        · have := (h.own i g h1).ge k hv
          exact .inr (by simp; omega)
      · exact Own.nil _ _
    · intro i j g k hne hi hj
      rcases old i g hi with ⟨h1, _⟩ | ⟨h1, rfl⟩ <;> rcases old j k hj with ⟨h2, _⟩ | ⟨h2, rfl⟩
      · exact h.apart i j g k hne h1 h2
      · rcases g.v.ownBlock with _ | q <;> simp [Value.ownBlock]
      · simp [Value.ownBlock]
      · exact absurd (h1.trans h2.symm) hne
    · intro i j g k hne hi hj
      rcases old i g hi with ⟨h1, _⟩ | ⟨h1, rfl⟩ <;> rcases old j k hj with ⟨h2, _⟩ | ⟨h2, rfl⟩
      · exact h.keys i j g k hne h1 h2
      · exact fun e => nokey hf h1 ⟨e.1.symm, e.2.symm⟩
      · exact nokey hf h2
      · exact absurd (h1.trans h2.symm) hne
  · have e1 : slot gs a b = gs := by unfold slot; rw [hf]
    have e2 : slotAt gs a b = i := by unfold slotAt; rw [hf]; rfl
    rw [e1, e2] at hg ⊢
    exact ⟨w, g, hg, ha, hb, h, World.grownBy.refl w _, rfl, run_entry_there h.tab hf hg⟩
/-- Behind an append onto the row at place i, and its store. -/
theorem Tabs.stored (h : Tabs w B m gs) {i : Nat} {g : G} (hi : gs[i]? = some g) {v : Value} {l : List Int} (hg : w.grownBy w' g.v.ownBlock) (ho : Own i64c 3 1 w' (m + 1) v l) (hat : v.ownBlock = g.v.ownBlock ∨ v.ownBlock = some w.heap.size) :
    Tabs (setBlock w' m (.map (ents 0 (gs.set i ⟨g.a, g.b, v, l⟩)).toArray gs.length)) B m (gs.set i ⟨g.a, g.b, v, l⟩) ∧
    (Instr.entryStore 44 (.map (some m)) (.int .i64 i) v).run Try.prog w' = .ok () (setBlock w' m (.map (ents 0 (gs.set i ⟨g.a, g.b, v, l⟩)).toArray gs.length)) ∧ w'.grownBy (setBlock w' m (.map (ents 0 (gs.set i ⟨g.a, g.b, v, l⟩)).toArray gs.length)) (some m) := by
  have hgm : g.v.ownBlock ≠ some m := fun e => by have := (h.own i g hi).ge m e; omega
  have ht : Tab w' m gs := (hg.block m h.lt (fun e => hgm e.symm)).trans h.tab
  have hilt := (List.getElem?_eq_some_iff.1 hi).1
  have hg2 := grown_setBlock (o' := .map (ents 0 (gs.set i ⟨g.a, g.b, v, l⟩)).toArray gs.length) ht
  refine ⟨⟨?_, h.ge, ?_, ?_, ?_⟩, run_entry_store ht hi v l, hg2⟩
  · have := heap_setBlock_same ht (.map (ents 0 (gs.set i ⟨g.a, g.b, v, l⟩)).toArray gs.length)
    unfold Tab
    rw [List.length_set]
    exact this
  all_goals
    have offm : ∀ {u : Value} {z : List Int}, Own i64c 3 1 w' (m + 1) u z → u.ownBlock = none ∨ u.ownBlock ≠ some m := by
      intro u z hu
      rcases hv : u.ownBlock with _ | k
      · exact .inl rfl
      · have := hu.ge k hv
        exact .inr (by simp; omega)
    have other : ∀ (j : Nat) (k : G), j ≠ i → (gs.set i ⟨g.a, g.b, v, l⟩)[j]? = some k → gs[j]? = some k := by
      intro j k hne hj
      rwa [List.getElem?_set_ne (fun e => hne e.symm)] at hj
    have self : ∀ k : G, (gs.set i ⟨g.a, g.b, v, l⟩)[i]? = some k → k = ⟨g.a, g.b, v, l⟩ := by
      intro k hk
      rw [List.getElem?_set_self hilt] at hk
      injection hk with hk
      exact hk.symm
  · intro j k hj
    by_cases hji : j = i
    · subst hji
      rw [self k hj]
      exact ho.grown hg2 (offm ho)
    · have h1 := other j k hji hj
      have h2 := (h.own j k h1).grown hg (h.apart j i k g hji h1 hi)
      exact h2.grown hg2 (offm h2)
  · have apart2 : ∀ (j : Nat) (k : G), j ≠ i → gs[j]? = some k → (k.v.ownBlock = none ∨ k.v.ownBlock ≠ v.ownBlock) ∧ (v.ownBlock = none ∨ v.ownBlock ≠ k.v.ownBlock) := by
      intro j k hji hj
      rcases hat with e | e
      · rw [e]
        exact ⟨h.apart j i k g hji hj hi, h.apart i j g k (fun e => hji e.symm) hi hj⟩
      · rw [e]
        rcases hv : k.v.ownBlock with _ | q
        · simp
        · have := (h.own j k hj).lt q hv
          constructor <;> right <;> simp <;> omega
    intro j1 j2 k1 k2 hne hj1 hj2
    by_cases e1 : j1 = i
    · subst e1
      rw [self k1 hj1]
      exact (apart2 j2 k2 (fun e => hne e.symm) (other j2 k2 (fun e => hne e.symm) hj2)).2
    · by_cases e2 : j2 = i
      · subst e2
        rw [self k2 hj2]
        exact (apart2 j1 k1 e1 (other j1 k1 e1 hj1)).1
      · exact h.apart j1 j2 k1 k2 hne (other _ _ e1 hj1) (other _ _ e2 hj2)
  · intro j1 j2 k1 k2 hne hj1 hj2
    by_cases e1 : j1 = i
    · subst e1
      rw [self k1 hj1]
      exact h.keys j1 j2 g k2 hne hi (other j2 k2 (fun e => hne e.symm) hj2)
    · by_cases e2 : j2 = i
      · subst e2
        rw [self k2 hj2]
        exact h.keys j1 j2 k1 g hne (other j1 k1 e1 hj1) hi
      · exact h.keys j1 j2 k1 k2 hne (other _ _ e1 hj1) (other _ _ e2 hj2)
end
end Go.Proofs.Ytbabdabdohljcaa
