/- Stable order of events by their ticks, as plain lists: what insertion, an exchange of neighbours and a turn of two stretches make of it. -/
import Derived.Test.YtbabdabdohljcaaEv
namespace Go.Proofs.Ytbabdabdohljcaa
/-- 'y' is a stable order of 'x' by ticks. -/
def Stable (x y : List Ev) : Prop := y.Pairwise (fun a b => a.tick ≤ b.tick) ∧ ∀ t : Int, y.filter (fun e => e.tick == t) = x.filter (fun e => e.tick == t)

theorem sorted_filter_eq : ∀ (x y : List Ev), x.Pairwise (fun a b => a.tick ≤ b.tick) → y.Pairwise (fun a b => a.tick ≤ b.tick) → (∀ t : Int, x.filter (fun e => e.tick == t) = y.filter (fun e => e.tick == t)) → x = y
  | [], [], _, _, _ => rfl
  | [], b :: y, _, _, h => by have := h b.tick; simp at this
  | a :: x, [], _, _, h => by have := h a.tick; simp at this
  | a :: x, b :: y, hx, hy, h => by
    have hx' := List.pairwise_cons.1 hx
    have hy' := List.pairwise_cons.1 hy
    have ha : a ∈ (b :: y) := by
      have : a ∈ (b :: y).filter (fun e => e.tick == a.tick) := by rw [← h a.tick]; simp
      exact (List.mem_filter.1 this).1
    have hb : b ∈ (a :: x) := by
      have : b ∈ (a :: x).filter (fun e => e.tick == b.tick) := by rw [h b.tick]; simp
      exact (List.mem_filter.1 this).1
    have hab : a.tick = b.tick := by
      have h1 : a.tick ≤ b.tick := by
        rcases List.mem_cons.1 hb with e | e
        · rw [e]; exact Int.le_refl _
        · exact hx'.1 _ e
      have h2 : b.tick ≤ a.tick := by
        rcases List.mem_cons.1 ha with e | e
        · rw [e]; exact Int.le_refl _
        · exact hy'.1 _ e
      omega
    have h0 := h a.tick
    simp only [List.filter_cons, beq_self_eq_true, if_true, hab] at h0
    injection h0 with e1 e2
    subst e1
    rw [sorted_filter_eq x y hx'.2 hy'.2 (fun t => by
      have h1 := h t
      simp only [List.filter_cons] at h1
      split at h1
      · injection h1
      · exact h1)]

theorem Stable.unique {x y z : List Ev} (h : Stable x y) (k : Stable x z) : y = z :=
  sorted_filter_eq y z h.1 k.1 (fun t => (h.2 t).trans (k.2 t).symm)

/-- The same events, those of a tick in the same order. -/
def Same (x y : List Ev) : Prop := ∀ t : Int, y.filter (fun e => e.tick == t) = x.filter (fun e => e.tick == t)
theorem Same.refl (x : List Ev) : Same x x := fun _ => rfl
theorem Same.trans {x y z : List Ev} (h : Same x y) (k : Same y z) : Same x z := fun t => (k t).trans (h t)
theorem Same.append {x y x' y' : List Ev} (h : Same x y) (k : Same x' y') : Same (x ++ x') (y ++ y') := fun t => by
  rw [List.filter_append, List.filter_append, h t, k t]
/-- Two stretches change places, all of the second ahead of all of the first. -/
theorem Same.turn {u v : List Ev} (h : ∀ a ∈ u, ∀ b ∈ v, b.tick < a.tick) : Same (u ++ v) (v ++ u) := fun t => by
  rw [List.filter_append, List.filter_append]
  by_cases hu : u.filter (fun e => e.tick == t) = []
  · rw [hu]; simp
  · have hv : v.filter (fun e => e.tick == t) = [] := by
      obtain ⟨a, l, e⟩ := List.exists_cons_of_ne_nil hu
      have ha : a ∈ u.filter (fun e => e.tick == t) := by rw [e]; simp
      rw [List.mem_filter] at ha
      apply List.filter_eq_nil_iff.2
      intro b hb
      have := h a ha.1 b hb
      have h2 := ha.2
      simp at h2 ⊢
      omega
    rw [hv]; simp
theorem Same.length {x y : List Ev} (h : Same x y) : y.length = x.length := by
  induction x generalizing y with
  | nil =>
    rcases y with _ | ⟨b, y⟩
    · rfl
    · have := h b.tick; simp at this
  | cons a x ih =>
    have ha : a ∈ y := by
      have : a ∈ y.filter (fun e => e.tick == a.tick) := by rw [h a.tick]; simp
      exact (List.mem_filter.1 this).1
    have h0 := h a.tick
    simp only [List.filter_cons, beq_self_eq_true, if_true] at h0
    -- take the first of its tick out of y
    obtain ⟨l1, l2, hy, hn⟩ : ∃ l1 l2, y = l1 ++ a :: l2 ∧ l1.filter (fun e => e.tick == a.tick) = [] := by
      clear ih ha h
      induction y with
      | nil => simp at h0
      | cons b y ih =>
        by_cases hb : b.tick = a.tick
        · simp [hb] at h0
          refine ⟨[], y, ?_, rfl⟩
          rw [h0.1]; rfl
        · simp [hb] at h0
          obtain ⟨l1, l2, e, f⟩ := ih (by simpa using h0)
          refine ⟨b :: l1, l2, by rw [e]; rfl, ?_⟩
          simp [hb]
          simpa using f
    have : Same x (l1 ++ l2) := fun t => by
      have ht := h t
      rw [hy, List.filter_append, List.filter_cons, List.filter_cons] at ht
      by_cases hta : a.tick = t
      · subst hta
        rw [hn] at ht
        simp at ht
        rw [List.filter_append, hn]
        simpa using ht
      · simp [hta] at ht
        rw [List.filter_append]
        simpa using ht
    have := ih this
    rw [hy]
    simp at this ⊢
    omega

/-- Each goes behind all those whose tick is not greater. -/
def ins (out : List Ev) (x : Ev) : List Ev := out.takeWhile (fun e => decide (e.tick ≤ x.tick)) ++ x :: out.dropWhile (fun e => decide (e.tick ≤ x.tick))

/-- One event more, x, between those that are not later and those that are later. -/
theorem Stable.insert {o u v : List Ev} {x : Ev} (h : Stable o (u ++ v)) (hv : ∀ z ∈ v, x.tick < z.tick) (hu : ∀ z ∈ u, z.tick ≤ x.tick) : Stable (o ++ [x]) (u ++ x :: v) := by
  refine ⟨?_, ?_⟩
  · have hs := List.pairwise_append.1 h.1
    refine List.pairwise_append.2 ⟨hs.1, List.pairwise_cons.2 ⟨fun z hz => Int.le_of_lt (hv z hz), hs.2.1⟩, fun a ha b hb => ?_⟩
    rcases List.mem_cons.1 hb with e | e
    · rw [e]; exact hu a ha
    · exact hs.2.2 a ha b e
  · have h1 : Same (o ++ [x]) (u ++ v ++ [x]) := Same.append h.2 (Same.refl _)
    have h2 : Same (v ++ [x]) ([x] ++ v) := Same.turn (fun a ha b hb => by simp at hb; subst hb; exact hv a ha)
    have h3 := Same.append (Same.refl u) h2
    rw [← List.append_assoc] at h3
    exact h1.trans h3
theorem swap_at {α : Type} (A C : List α) (x y : α) : ((A ++ y :: x :: C).set (A.length + 1) y).set A.length x = A ++ x :: y :: C := by
  rw [List.set_append_right _ _ (by omega), List.set_append_right _ _ (by omega)]
  simp
theorem at_mid {α : Type} (A C : List α) (x : α) : (A ++ x :: C)[A.length]? = some x := by simp
end Go.Proofs.Ytbabdabdohljcaa
