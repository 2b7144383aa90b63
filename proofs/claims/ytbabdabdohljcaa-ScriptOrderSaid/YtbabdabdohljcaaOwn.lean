/- Words on slices that a call owns: what they hold, element by element; append, make, stores; nothing of the program. -/
import Derived.Test.YtbabdabdohljcaaMem
import Derived.Maps.AppendAt
import Derived.Deep.AppendLies
import Derived.Deep.OwnRows
namespace Go.Proofs.Ytbabdabdohljcaa
open Go.RowKit
/-- A slice of the call's own (its block is from B on): it holds just the elements l. -/
def Own {α : Type} (cells : α → List Value) (e sz : Nat) (w : World) (B : Nat) (v : Value) (l : List α) : Prop := w.ownsRow B e sz v l.length (l.flatMap cells)
/-- What is known of an element type e, its slice type t. -/
structure EK (P : Program) (t e sz bytes : Nat) {α : Type} (cells : α → List Value) : Prop where
  ht : P.underlying t = some (.slice e)
  hi : ∃ (i : TypeInfo) (z : Value), P.info? e = some i ∧ i.zero = some z ∧ i.size = sz ∧ i.bytes = bytes ∧ z.cells.size = sz
  hsz : 0 < sz
  hb : 0 < bytes
  len : ∀ x, (cells x).length = sz
  one : ∀ x u, u ∈ cells x → u.oneCell' = true
theorem EK.mk' {P : Program} {t e sz bytes : Nat} {α : Type} {cells : α → List Value} {z : Value} (ht : P.underlying t = some (.slice e)) (hi : (P.info? e).map (fun i => (i.zero, i.size, i.bytes)) = some (some z, sz, bytes))
    (hz : z.cells.size = sz) (hsz : 0 < sz) (hb : 0 < bytes) (len : ∀ x, (cells x).length = sz) (one : ∀ x u, u ∈ cells x → u.oneCell' = true) : EK P t e sz bytes cells := by
  obtain ⟨i, h1, h2, h3, h4⟩ := info_parts hi
  exact ⟨ht, ⟨i, z, h1, h2, h3, h4, hz⟩, hsz, hb, len, one⟩
section
variable {α : Type} {cells : α → List Value} {e sz : Nat} {w w' : World} {B B' n : Nat} {A : Option Addr} {v v' : Value} {l r : List α}
theorem flat_length (len : ∀ x, (cells x).length = sz) (l : List α) : (l.flatMap cells).length = l.length * sz := by
  induction l with
  | nil => simp
  | cons x l ih => rw [List.flatMap_cons, List.length_append, ih, len, List.length_cons, Nat.add_mul]; omega
theorem flat_at (len : ∀ x, (cells x).length = sz) : ∀ {l : List α} {i : Nat} {x : α} {j : Nat} {u : Value}, l[i]? = some x → (cells x)[j]? = some u → (l.flatMap cells)[i * sz + j]? = some u
  | [], i, x, j, u, h, _ => by simp at h
  | y :: l, 0, x, j, u, h, k => by
    simp at h
    subst h
    rw [List.flatMap_cons, List.getElem?_append_left (by have := (List.getElem?_eq_some_iff.1 k).1; omega)]
    simpa using k
  | y :: l, i + 1, x, j, u, h, k => by
    rw [List.flatMap_cons, List.getElem?_append_right (by rw [len, Nat.add_mul]; omega), len]
    rw [show (i + 1) * sz + j - sz = i * sz + j by rw [Nat.add_mul]; omega]
    exact flat_at len (by simpa using h) k
theorem Own.nil (w : World) (B : Nat) : Own cells e sz w B (.slice none 0 0) ([] : List α) := ⟨by simp, .inl ⟨rfl, rfl⟩⟩
theorem Own.val (h : Own cells e sz w B v l) : ∃ A c, v = .slice A l.length c ∧ l.length ≤ c := by
  rcases h.2 with ⟨rfl, h0⟩ | ⟨g, cap, cur, rfl, _, _, hc, _⟩
  · exact ⟨none, 0, by rw [h0], by omega⟩
  · exact ⟨_, cap, rfl, hc⟩
theorem Own.rd {c : Nat} (len : ∀ x, (cells x).length = sz) (h : Own cells e sz w B (.slice A n c) l) : n = l.length ∧ Rd cells sz w w.heap.size A l.length l := by
  rcases h.2 with ⟨hv, h0⟩ | ⟨g, cap, cur, hv, _, hb, hc, _⟩
  · injection hv with h1 h2 h3
    subst h1; subst h2; subst h3
    refine ⟨h0.symm, rfl, fun hp => absurd hp (by omega)⟩
  · injection hv with h1 h2 h3
    subst h1; subst h2; subst h3
    refine ⟨rfl, rfl, fun hp => ⟨g, 0, rfl, (Array.getElem?_eq_some_iff.1 hb).1, fun i x hi j u hu => ?_⟩⟩
    have := World.ownsRow.cells h (g := g) rfl (i * sz + j) u (flat_at len hi hu)
    rw [show (⟨g, 0, none⟩ : Addr).add (i * sz + j) = ⟨g, i * sz + j, none⟩ by simp [go_sem]] at this
    rw [Nat.zero_add]
    exact this
/-- What is owned, as a slice that reads. -/
theorem Own.reads (len : ∀ x, (cells x).length = sz) (h : Own cells e sz w B v l) : ∃ A c, v = .slice A l.length c ∧ Rd cells sz w w.heap.size A l.length l := by
  obtain ⟨A, c, rfl, _⟩ := h.val
  exact ⟨A, c, rfl, (h.rd len).2⟩
theorem Own.form (h : Own cells e sz w B v l) (hn : 0 < l.length) : ∃ g cap, v = .slice (some ⟨g, 0, none⟩) l.length cap ∧ B ≤ g ∧ g < w.heap.size := World.ownsRow.form h hn
theorem Own.at_ {A : Option Addr} {c : Nat} (h : Own cells e sz w B (.slice A n c) l) (hn : 0 < n) : ∃ g, A = some ⟨g, 0, none⟩ ∧ B ≤ g ∧ g < w.heap.size := by
  rcases h.2 with ⟨hv, h0⟩ | ⟨g, cap, cur, hv, hg, hb, _⟩
  · injection hv with _ h2 _
    omega
  · injection hv with h1 _ _
    exact ⟨g, h1, hg, (Array.getElem?_eq_some_iff.1 hb).1⟩
theorem Own.cases_ {A : Option Addr} {c : Nat} (h : Own cells e sz w B (.slice A n c) l) : (A = none ∧ n = 0 ∧ c = 0 ∧ l = []) ∨ ∃ g, A = some ⟨g, 0, none⟩ := by
  rcases h.2 with ⟨hv, h0⟩ | ⟨g, cap, cur, hv, hg, hb, _⟩
  · injection hv with h1 h2 h3
    exact .inl ⟨h1, h2, h3, List.eq_nil_of_length_eq_zero h0⟩
  · injection hv with h1 _ _
    exact .inr ⟨g, h1⟩
theorem Own.ge (h : Own cells e sz w B v l) : ∀ k, v.ownBlock = some k → B ≤ k := fun k hk => (World.ownsRow.lt h k hk).1
theorem Own.lt (h : Own cells e sz w B v l) : ∀ k, v.ownBlock = some k → k < w.heap.size := fun k hk => (World.ownsRow.lt h k hk).2
theorem Own.below (h : Own cells e sz w B v l) (hb : Below w.heap.size w w') : Own cells e sz w' B v l :=
  h.kept (row := none) ⟨hb.os, hb.tape, hb.output, hb.size, fun k hk _ => hb.block k hk⟩ (by cases v.ownBlock <;> simp)
theorem Own.grown (h : Own cells e sz w B v l) {row : Option Nat} (hg : w.grownBy w' row) (hne : v.ownBlock = none ∨ v.ownBlock ≠ row) : Own cells e sz w' B v l := World.ownsRow.kept h hg hne
theorem Own.alloc (h : Own cells e sz w B v l) (o : Obj) : Own cells e sz (w.alloc o) B v l := World.ownsRow.alloc h o
theorem Own.drewN (h : Own cells e sz w B v l) (n : Nat) : Own cells e sz (w.drewN n) B v l := h
theorem Own.base (h : Own cells e sz w B v l) (hB : B' ≤ B) : Own cells e sz w B' v l := by
  refine ⟨h.1, ?_⟩
  rcases h.2 with h2 | ⟨g, cap, cur, hv, hg, r⟩
  · exact .inl h2
  · exact .inr ⟨g, cap, cur, hv, by omega, r⟩
theorem flat_map1 {β : Type} (c : α → β) : ∀ l : List α, (l.flatMap fun x => [c x]) = l.map c
  | [] => rfl
  | x :: l => by rw [List.flatMap_cons, flat_map1 c l]; rfl
theorem Own.set1 {c : α → Value} {g cap : Nat} (h : Own (fun x => [c x]) e 1 w B (.slice (some ⟨g, 0, none⟩) n cap) l) (i : Nat) (x : α) :
    Own (fun x => [c x]) e 1 (w.setCell ⟨g, i, none⟩ (c x)) B (.slice (some ⟨g, 0, none⟩) n cap) (l.set i x) := by
  have hn : n = l.length := (Own.rd (cells := fun x => [c x]) (fun _ => rfl) h).1
  subst hn
  have h' : w.ownsRow B e 1 (.slice (some ⟨g, 0, none⟩) l.length cap) l.length (l.flatMap fun x => [c x]) := h
  have := (h'.stored i (c x)).1
  unfold Own
  rw [List.length_set]
  have e1 : ((l.set i x).flatMap fun x => [c x]) = (l.flatMap fun x => [c x]).set i (c x) := by
    rw [flat_map1, flat_map1, List.map_set]
  rw [e1]
  exact this
theorem Own.cell {g cap : Nat} (len : ∀ x, (cells x).length = sz) (h : Own cells e sz w B (.slice (some ⟨g, 0, none⟩) n cap) l) {i j : Nat} {x : α} {u : Value} (hi : l[i]? = some x) (hj : (cells x)[j]? = some u) : w.cell? ⟨g, i * sz + j, none⟩ = some u := by
  have := World.ownsRow.cells h (g := g) rfl (i * sz + j) u (flat_at len hi hj)
  rwa [show (⟨g, 0, none⟩ : Addr).add (i * sz + j) = ⟨g, i * sz + j, none⟩ by simp [go_sem]] at this
theorem Own.cell1 {c : α → Value} {g cap : Nat} (h : Own (fun x => [c x]) e 1 w B (.slice (some ⟨g, 0, none⟩) n cap) l) {i : Nat} {x : α} (hi : l[i]? = some x) : w.cell? ⟨g, i, none⟩ = some (c x) := by
  have := Own.cell (cells := fun x => [c x]) (j := 0) (fun _ => rfl) h hi rfl
  simpa using this
theorem Own.free {g cap : Nat} (h : Own cells e sz w B (.slice (some ⟨g, 0, none⟩) n cap) l) (j : Nat) : w.frozen? ⟨g, j, none⟩ = false := by
  rcases h.2 with ⟨hv, _⟩ | ⟨g', cap', cur, hv, _, hb, _⟩
  · injection hv with h1; cases h1
  · injection hv with h1 _ _
    injection h1 with h1
    injection h1 with h1 _ _
    subst h1
    exact Blk.frozen hb j
theorem only_drewN {a w : World} {row : Option Nat} (h : a.grownBy w row) (n : Nat) : a.grownBy (w.drewN n) row := ⟨h.os, h.tape, h.output, h.size, h.block⟩
theorem only_of_below {a w : World} (h : Below a.heap.size a w) (row : Option Nat) : a.grownBy w row := ⟨h.os, h.tape, h.output, h.size, fun i hi _ => h.block i hi⟩
/-- Cells written one behind the other. -/
def puts (g : Nat) : Nat → List Value → World → World
  | _, [], w => w
  | o, c :: cs, w => puts g (o + 1) cs (w.setCell ⟨g, o, none⟩ c)
theorem puts_heap (g : Nat) : ∀ (cs : List Value) (o : Nat) (w : World) (k : Nat), k ≠ g → (puts g o cs w).heap[k]? = w.heap[k]?
  | [], _, _, _, _ => rfl
  | c :: cs, o, w, k, h => (puts_heap g cs (o + 1) _ k h).trans (Below.heap_setCell w ⟨g, o, none⟩ c k h)
theorem puts_size (g : Nat) : ∀ (cs : List Value) (o : Nat) (w : World), (puts g o cs w).heap.size = w.heap.size
  | [], _, _ => rfl
  | c :: cs, o, w => (puts_size g cs (o + 1) _).trans (by simp [World.setCell])
theorem puts_os (g : Nat) : ∀ (cs : List Value) (o : Nat) (w : World), (puts g o cs w).os = w.os ∧ (puts g o cs w).tape = w.tape ∧ (puts g o cs w).output = w.output
  | [], _, _ => ⟨rfl, rfl, rfl⟩
  | c :: cs, o, w => puts_os g cs (o + 1) (w.setCell ⟨g, o, none⟩ c)
theorem puts_grown (g o : Nat) (cs : List Value) (w : World) : w.grownBy (puts g o cs w) (some g) :=
  ⟨(puts_os g cs o w).1, (puts_os g cs o w).2.1, (puts_os g cs o w).2.2, Nat.le_of_eq (puts_size g cs o w).symm, fun k _ hk => puts_heap g cs o w k (fun e => hk (by rw [e]))⟩
theorem puts_block (g : Nat) (t : TypeId) : ∀ (cs : List Value) (o : Nat) (w : World) (cur : Array Value), Blk w g t cur → o + cs.length ≤ cur.size →
    Blk (puts g o cs w) g t (cur.toList.take o ++ cs ++ cur.toList.drop (o + cs.length)).toArray
  | [], o, w, cur, h, _ => by simpa [puts] using h
  | c :: cs, o, w, cur, h, hs => by
    have h2 := puts_block g t cs (o + 1) (w.setCell ⟨g, o, none⟩ c) (cur.setIfInBounds o c) (h.set_ o c) (by simpa [Nat.add_assoc, Nat.add_comm 1] using hs)
    simp only [puts]
    have e : ((cur.setIfInBounds o c).toList.take (o + 1) ++ cs ++ (cur.setIfInBounds o c).toList.drop (o + 1 + cs.length)) = cur.toList.take o ++ c :: cs ++ cur.toList.drop (o + (c :: cs).length) := by
      rw [Array.toList_setIfInBounds]
      have ho : o < cur.toList.length := by simp at hs ⊢; omega
      rw [List.take_add_one, List.getElem?_set_self ho, List.take_set_of_le (Nat.le_refl _), List.drop_set_of_lt (by omega)]
      simp [Nat.add_assoc, Nat.add_comm 1]
    rw [e] at h2
    exact h2
theorem flat_set (len : ∀ x, (cells x).length = sz) : ∀ (l : List α) (i : Nat) (x : α), i < l.length → (l.set i x).flatMap cells = (l.flatMap cells).take (i * sz) ++ cells x ++ (l.flatMap cells).drop (i * sz + (cells x).length)
  | [], _, _, h => by simp at h
  | y :: l, 0, x, _ => by simp [List.flatMap_cons, len]
  | y :: l, i + 1, x, h => by
    have ih := flat_set len l i x (by simpa using h)
    rw [List.set_cons_succ, List.flatMap_cons, List.flatMap_cons, ih]
    have e1 : (i + 1) * sz = (cells y).length + i * sz := by rw [len, Nat.add_mul]; omega
    rw [e1, List.take_length_add_append, Nat.add_assoc, List.drop_length_add_append]
    simp
/-- An element is written anew, cell by cell. -/
theorem Own.puts {g cap : Nat} (len : ∀ x, (cells x).length = sz) (h : Own cells e sz w B (.slice (some ⟨g, 0, none⟩) n cap) l) {i : Nat} (hi : i < l.length) (x : α) : Own cells e sz (puts g (i * sz) (cells x) w) B (.slice (some ⟨g, 0, none⟩) n cap) (l.set i x) := by
  rcases h.2 with ⟨hv, _⟩ | ⟨g', cap', cur, hv, hB, hb, hc, hm, hs, ht⟩
  · injection hv with h1; cases h1
  · injection hv with h1 h2 h3
    injection h1 with h1
    injection h1 with h1 _ _
    subst h1; subst h2; subst h3
    have hle : i * sz + (cells x).length ≤ l.length * sz := by
      rw [len]
      have := Nat.mul_le_mul_right sz (show i + 1 ≤ l.length by omega)
      rw [Nat.add_mul] at this
      omega
    have hcs : l.length * sz ≤ cur.size := by rw [hs]; exact Nat.mul_le_mul_right _ hc
    have hb2 := puts_block g e (cells x) (i * sz) w cur hb (by omega)
    refine ⟨by rw [flat_length len], .inr ⟨g, cap, _, by rw [List.length_set], hB, hb2, by rw [List.length_set]; exact hc, hm, ?_, ?_⟩⟩
    · simp only [List.size_toArray, List.length_append, List.length_take, List.length_drop, Array.length_toList]
      omega
    · rw [List.length_set, flat_set len l i x hi, ← ht]
      have hlt : (cells x).length = sz := len x
      rw [List.take_append, List.take_append, List.take_take, List.take_take, List.drop_take]
      simp only [List.length_take, List.length_append, Array.length_toList]
      rw [Nat.min_eq_left (show i * sz ≤ cur.size by omega), Nat.min_eq_left (show i * sz ≤ l.length * sz by omega), Nat.min_eq_right (show i * sz ≤ l.length * sz by omega)]
      rw [List.take_of_length_le (l := cells x) (by omega)]
/-- Behind an append onto what the call owns, what lay below it is as it was. -/
theorem Own.app_below {w0 : World} (h : Own cells e sz w B v l) (hb : Below B w0 w) (hB : B ≤ w.heap.size) (hg : w.grownBy w' v.ownBlock) : Below B w0 w' := hb.grown hg hB (fun k hk => h.ge k hk)
/-- What was made since is another row. -/
theorem Own.apart {u : Value} (h : Own cells e sz w B v l) (hat : u.ownBlock = none ∨ u.ownBlock = some w.heap.size) : v.ownBlock = none ∨ v.ownBlock ≠ u.ownBlock := by
  rcases hv : v.ownBlock with _ | k
  · exact .inl rfl
  · have hk := h.lt k hv
    refine .inr ?_
    rcases hat with e | e <;> rw [e]
    · simp
    · intro h2
      injection h2 with h2
      omega
/-- A store elsewhere. -/
theorem Own.far (h : Own cells e sz w B v l) {p : Addr} (hp : v.ownBlock ≠ some p.block) (u : Value) : Own cells e sz (w.setCell p u) B v l :=
  h.kept (row := some p.block) ⟨rfl, rfl, rfl, by simp [World.setCell], fun k _ hk => Below.heap_setCell _ _ _ _ (fun e => hk (by rw [e]))⟩ (.inr hp)
end
section
variable {P : Program} {t e sz bytes : Nat} {α : Type} {cells : α → List Value}
theorem run_app (E : EK P t e sz bytes cells) (w : World) (ty : TypeId) (B : Nat) (v : Value) (l : List α) (hown : Own cells e sz w B v l) (C : Nat) (A : Option Addr) (m c : Nat) (r : List α) (hr : Rd cells sz w C A m r)
    (hbytes : (l.length + m) * bytes ≤ 140737488355328) (hbase : B ≤ w.heap.size) :
    ∃ v' w', (Builtin.append_ #[t, t] ty #[v, .slice A m c]).run P w = .ok v' w' ∧ Own cells e sz w' B v' (l ++ r) ∧ w.grownBy w' v.ownBlock ∧ (v'.ownBlock = v.ownBlock ∨ v'.ownBlock = some w.heap.size) := by
  obtain ⟨i, z, hi, hz, hsize, hby, hzs⟩ := E.hi
  have hm := hr.1
  have h63 : l.length + m ≤ maxLen := by
    have h1 : l.length + m ≤ (l.length + m) * bytes := Nat.le_mul_of_pos_right _ E.hb
    simp only [maxLen]
    omega
  rcases A with _ | ad
  · have hm0 : m = 0 := by
      rcases Nat.eq_zero_or_pos m with h0 | h0
      · exact h0
      · obtain ⟨g, o, h, _⟩ := hr.2 h0
        cases h
    subst hm0
    have hn : r = [] := List.eq_nil_of_length_eq_zero hm
    subst hn
    rw [List.append_nil]
    refine ⟨v, w, ?_, hown, World.grownBy.refl w _, .inl rfl⟩
    rcases hown.2 with ⟨rfl, h0⟩ | ⟨g, cap, cur, rfl, _, _, hnc, _⟩
    · have hl : l = [] := List.eq_nil_of_length_eq_zero h0
      subst hl
      simp [Builtin.append_, run_underlying E.ht, sizeOf, typeInfo, hi, Builtin.lenOf, Builtin.firstCells]
    · simp [Builtin.append_, run_underlying E.ht, sizeOf, typeInfo, hi, Builtin.lenOf, Builtin.firstCells, hnc, storeCells]
  · have hcells : ∀ j u, (r.flatMap cells)[j]? = some u → w.cell? (ad.add j) = some u := by
      intro j u hu
      have hjl := (List.getElem?_eq_some_iff.1 hu).1
      rw [flat_length E.len] at hjl
      have hs := E.hsz
      have hq : j / sz < r.length := by rw [Nat.div_lt_iff_lt_mul hs]; exact hjl
      have hmod := Nat.mod_lt j hs
      obtain ⟨g, o, hA, _, hc⟩ := hr.2 (by rw [← hm]; exact Nat.lt_of_le_of_lt (Nat.zero_le _) hq)
      injection hA with hA
      subst hA
      have hx : r[j / sz]? = some r[j / sz] := List.getElem?_eq_getElem hq
      have hl : j % sz < (cells r[j / sz]).length := by rw [E.len]; exact hmod
      have hj : j / sz * sz + j % sz = j := by rw [Nat.mul_comm]; exact Nat.div_add_mod j sz
      have h1 := flat_at E.len hx (List.getElem?_eq_getElem hl)
      rw [hj] at h1
      rw [h1] at hu
      have h2 := hc _ _ hx _ _ (List.getElem?_eq_getElem hl)
      rw [Nat.add_assoc, hj] at h2
      rw [show (⟨g, o, none⟩ : Addr).add j = ⟨g, o + j, none⟩ by simp [go_sem]]
      rw [h2]
      exact hu
    obtain ⟨v', w', hrun, h2, h3, _, h5⟩ := run_append_own_at (P := P) w B t ty e i z sz bytes E.ht hi hz hsize hby hzs E.hsz v l.length (l.flatMap cells) hown ad m c (r.flatMap cells) (by rw [flat_length E.len, hm]) hcells
      (fun u hu => by obtain ⟨x, _, hx⟩ := List.mem_flatMap.1 hu; exact E.one x u hx) h63 hbytes hbase
    refine ⟨v', w', hrun, ?_, h3, h5⟩
    unfold Own
    rw [List.flatMap_append, List.length_append, hm]
    exact h2
theorem wp_app (E : EK P t e sz bytes cells) (w : World) {o : Oper} {a : Act} {K : Act → World → Prop} {Q : Exit → Act → World → Prop} (s x : Operand)
    (ho : o.op = .call { callee := .builtin .append, args := #[s, x], argTypes := #[t, t] }) (B : Nat) (v : Value) (l : List α) (hs : a.eval s = v) (hown : Own cells e sz w B v l)
    (C : Nat) (A : Option Addr) (m c : Nat) (r : List α) (hx : a.eval x = .slice A m c) (hr : Rd cells sz w C A m r) (hbytes : (l.length + m) * bytes ≤ 140737488355328) (hbase : B ≤ w.heap.size)
    (h : ∀ v' w', Own cells e sz w' B v' (l ++ r) → w.grownBy w' v.ownBlock → (v'.ownBlock = v.ownBlock ∨ v'.ownBlock = some w.heap.size) → K (a.put o.dst v') w') : o.wp P a w K Q := by
  obtain ⟨v', w', hrun, h2, h3, h4⟩ := run_app E w o.type B v l hown C A m c r hr hbytes hbase
  unfold Oper.wp execOp
  simp only [ho, resolve, invoke, builtin, Sem.run_bind, Sem.run_pure, Result.andThen_ok, List.map_toArray, List.map_cons, List.map_nil, hs, hx, hrun]
  exact h v' w' h2 h3 h4
theorem wpList_app (E : EK P t e sz bytes cells) (w : World) {ops : Array Oper} {rest : List Oper} {o : Oper} {a : Act} {Q : Exit → Act → World → Prop} (hgd : o.guard = none) (s x : Operand)
    (ho : o.op = .call { callee := .builtin .append, args := #[s, x], argTypes := #[t, t] }) (B : Nat) (v : Value) (l : List α) (hs : a.eval s = v) (hown : Own cells e sz w B v l)
    (C : Nat) (A : Option Addr) (m c : Nat) (r : List α) (hx : a.eval x = .slice A m c) (hr : Rd cells sz w C A m r) (hbytes : (l.length + m) * bytes ≤ 140737488355328) (hbase : B ≤ w.heap.size)
    (h : ∀ v' w', Own cells e sz w' B v' (l ++ r) → w.grownBy w' v.ownBlock → (v'.ownBlock = v.ownBlock ∨ v'.ownBlock = some w.heap.size) → wpList P ops Q rest (a.put o.dst v') w') : wpList P ops Q (o :: rest) a w :=
  wpList_plain hgd fun _ hK => wp_app E w s x ho B v l hs hown C A m c r hx hr hbytes hbase fun v' w' h2 h3 h4 => hK _ _ (h v' w' h2 h3 h4)
theorem step_app (E : EK P t e sz bytes cells) (w : World) {ops : Array Oper} {o : Oper} {a : Act} {K : Act → World → Prop} {Q : Exit → Act → World → Prop} {F : Prop} (hgd : o.guard = none) (s x : Operand)
    (ho : o.op = .call { callee := .builtin .append, args := #[s, x], argTypes := #[t, t] }) (B : Nat) (v : Value) (l : List α) (hs : a.eval s = v) (hown : Own cells e sz w B v l)
    (C : Nat) (A : Option Addr) (m c : Nat) (r : List α) (hx : a.eval x = .slice A m c) (hr : Rd cells sz w C A m r) (hbytes : (l.length + m) * bytes ≤ 140737488355328) (hbase : B ≤ w.heap.size)
    (h : ∀ v' w', Own cells e sz w' B v' (l ++ r) → w.grownBy w' v.ownBlock → (v'.ownBlock = v.ownBlock ∨ v'.ownBlock = some w.heap.size) → K (a.put o.dst v') w') :
    if Region.wanted o (yielded ops a.tmps) = true then Oper.wp P o a w K Q else F := by
  have hw : Region.wanted o (yielded ops a.tmps) = true := by simp [Region.wanted, hgd]
  rw [if_pos hw]
  exact wp_app E w s x ho B v l hs hown C A m c r hx hr hbytes hbase h
end
/-- One new element, laid in a block of its own ahead of an append. -/
theorem Rd.one {α : Type} {cells : α → List Value} {sz : Nat} {w : World} {g : Nat} {x : α} (hg : g < w.heap.size) (h : ∀ j u, (cells x)[j]? = some u → w.cell? ⟨g, j, none⟩ = some u) : Rd cells sz w w.heap.size (some ⟨g, 0, none⟩) 1 [x] :=
  ⟨rfl, fun _ => ⟨g, 0, rfl, hg, fun i y hi j u hu => by
    rcases i with _ | i
    · simp at hi
      subst hi
      simpa using h j u hu
    · simp at hi⟩⟩
end Go.Proofs.Ytbabdabdohljcaa
