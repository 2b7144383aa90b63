/- What the arguments of this seat's laws read as: slices of events, of words. -/
import Derived.Test.YtbabdabdohljcaaRows
import Derived.Test.YtbabdabdohljcaaNear
import Derived.WalkKit
import Derived.ProofKit
import Derived.OpenShut
import Derived.ShutString
import Derived.ChangeOld
import Derived.Below
import Derived.Deep.Slices
import Derived.Deep.Fields
import Derived.ChangeSame
namespace Go.Proofs.Ytbabdabdohljcaa
open Go.ChangeShapes Go.WideShapes Go.ChangeAt Go.RowKit Go.Deep
section
variable {H : Type} {enc : TypeId × Value → H} {P : Program} {w : World} {base : Nat} {spare : Nat → Bool} {held : Bool}
theorem open_slice_fields {t e : TypeId} {fs : Array Field} {fuel : Nat} {cs : List Value} {x : DataW H × List MemPlace} (ht : P.underlying t = some (.slice e)) (he : P.underlying e = some (.struct fs))
    (hone : oneCellFields P fs = true) (hC : P.cellsOf e = fs.size) (h : DataW.trod enc P w base spare held fuel t cs = some x) :
    (cs = [.slice none 0 0] ∧ x = (.nil, [])) ∨
    ∃ (a : Addr) (len cap m : Nat) (D : Nat → DataW H) (Pl : Nat → List MemPlace), cs = [.slice (some a) len cap] ∧ base ≤ a.block ∧ len ≤ cap ∧ cap ≤ maxLen ∧ m = (if spare a.block then cap else len) ∧
      x = (.slice ((List.range len).map D) ((List.range (m - len)).map fun j => D (len + j)), MemPlace.row a (m * fs.size) ++ (List.range m).flatMap Pl) ∧
      ∀ i, i < m → ∃ (ys : List (DataW H × List MemPlace)) (n : Nat), D i = .agg (ys.map (·.1)) ∧ Pl i = ys.flatMap (·.2) ∧ ys.length = fs.size ∧
        ∀ (j : Nat) (f : Field), fs[j]? = some f → ∃ (v : Value) (y : DataW H × List MemPlace), w.cell? (a.add (i * fs.size + j)) = some v ∧ ys[j]? = some y ∧ DataW.trod enc P w base spare held n f.type [v] = some y := by
  rcases open_slice ht h with h0 | ⟨a, len, cap, m, n, D, Pl, hcs, hb, hl, hm, hmm, hx, hi⟩
  · exact .inl h0
  · refine .inr ⟨a, len, cap, m, D, Pl, hcs, hb, hl, hm, hmm, by rw [hC] at hx; exact hx, fun i him => ?_⟩
    obtain ⟨cs', hc, ht'⟩ := hi i him
    rw [hC] at hc
    obtain ⟨ys, n', hn', hy, hlen, hyl, hf⟩ := DataW.trod_struct he ht'
    obtain ⟨_, hcl, hat⟩ := World.cells?_some hc
    simp only [Prod.mk.injEq] at hy
    refine ⟨ys, n', hy.1, hy.2, hyl, fun j f hj => ?_⟩
    obtain ⟨ho, hk⟩ := hone_of hone j f hj
    have hjl : j < fs.size := (Array.getElem?_eq_some_iff.1 hj).1
    have hcell := hat j hjl
    have hv : cs'[j]? = some (cs'[j]'(by omega)) := List.getElem?_eq_getElem (by omega)
    have h1 := hf j f hj
    rw [ho, hk] at h1
    have hone' : (cs'.drop j).take 1 = [cs'[j]'(by omega)] := by
      rw [List.drop_eq_getElem_cons (by omega)]
      rfl
    rw [hone'] at h1
    have hys : ys[j]? = some (ys[j]'(by omega)) := List.getElem?_eq_getElem (by omega)
    refine ⟨_, _, ?_, hys, h1.trans hys⟩
    rw [← Go.Deep.add_add, hcell, hv]
end
theorem cell_lt {w : World} {p : Addr} {v : Value} (h : w.cell? p = some v) : p.block < w.heap.size := by
  rcases Nat.lt_or_ge p.block w.heap.size with hlt | hge
  · exact hlt
  · simp [World.cell?, Array.getElem?_eq_none hge] at h
theorem wf_win {n : Int} (h : (Lit.int .i64 n).wf = true) : -9223372036854775808 ≤ n ∧ n < 9223372036854775808 := by
  simp [Lit.wf, IntKind.min, IntKind.max, IntKind.signed, IntKind.bits] at h
  omega
/-- A list out of its elements. -/
theorem list_of {α : Type} {p : Nat → α → Prop} : ∀ (n : Nat), (∀ i, i < n → ∃ x, p i x) → ∃ l : List α, l.length = n ∧ ∀ i x, l[i]? = some x → p i x
  | 0, _ => ⟨[], rfl, by simp⟩
  | n + 1, h => by
    obtain ⟨l, hl, hp⟩ := list_of n (fun i hi => h i (by omega))
    obtain ⟨x, hx⟩ := h n (by omega)
    refine ⟨l ++ [x], by simp [hl], fun i y hi => ?_⟩
    rcases Nat.lt_or_ge i l.length with hlt | hge
    · rw [List.getElem?_append_left hlt] at hi
      exact hp i y hi
    · rw [List.getElem?_append_right hge] at hi
      have : i - l.length = 0 := by
        have := (List.getElem?_eq_some_iff.1 hi).1
        simp at this
        omega
      rw [this] at hi
      simp at hi
      subst hi
      rw [show i = n by omega]
      exact hx
/-- A slice of events that came in. -/
theorem open_events {H : Type} {enc : TypeId × Value → H} {w : World} {base : Nat} {spare : Nat → Bool} {held : Bool} {a : Option Addr} {n c : Nat} {d : DataW H} {p : List MemPlace} (h : DataW.Trod enc Try.prog w base spare held 22 (.slice a n c) d p) :
    ∃ l : List Ev, Rd Ev.cells 6 w w.heap.size a n l ∧ n ≤ c ∧ (∀ x ∈ l, x.fit) ∧ ∀ x ∈ l, (Lit.int .u64 x.mask).wf = true := by
  obtain ⟨fuel, hf⟩ := h
  rcases open_slice_fields (P := Try.prog) (t := 22) (e := 38) (fs := _) (by kernel_rfl) Try.underlying38 (by kernel_rfl) (by kernel_rfl) hf with ⟨hcs, _⟩ | ⟨x, len, cap, m, D, Pl, hcs, hb, hl, hm, hmm, _, hi⟩
  · simp [Value.cells] at hcs
    obtain ⟨rfl, rfl, rfl⟩ := hcs
    exact ⟨[], Rd.nil, Nat.le_refl _, by simp, by simp⟩
  · simp [Value.cells] at hcs
    obtain ⟨rfl, rfl, rfl⟩ := hcs
    have hnm : n ≤ m := by rw [hmm]; split <;> omega
    have key : ∀ i, i < n → ∃ y : Ev, y.fit ∧ (Lit.int .u64 y.mask).wf = true ∧ ∀ j u, (Ev.cells y)[j]? = some u → w.cell? (x.add (i * 6 + j)) = some u := by
      intro i hin
      obtain ⟨ys, n', _, _, _, hfld⟩ := hi i (by omega)
      obtain ⟨v0, y0, c0, _, t0⟩ := hfld 0 _ rfl
      obtain ⟨v1, y1, c1, _, t1⟩ := hfld 1 _ rfl
      obtain ⟨v2, y2, c2, _, t2⟩ := hfld 2 _ rfl
      obtain ⟨v3, y3, c3, _, t3⟩ := hfld 3 _ rfl
      obtain ⟨v4, y4, c4, _, t4⟩ := hfld 4 _ rfl
      obtain ⟨v5, y5, c5, _, t5⟩ := hfld 5 _ rfl
      obtain ⟨z0, e0, _, _⟩ := DataW.trod_int Try.underlying3 t0
      obtain ⟨z1, e1, _, _⟩ := DataW.trod_int Try.underlying3 t1
      obtain ⟨z2, e2, _, f2⟩ := DataW.trod_int Try.underlying3 t2
      obtain ⟨z3, e3, _, _⟩ := DataW.trod_int Try.underlying3 t3
      obtain ⟨z4, e4, _, _⟩ := DataW.trod_int Try.underlying3 t4
      obtain ⟨z5, e5, _, f5⟩ := DataW.trod_int Try.underlying36 t5
      injection e0 with e0; injection e1 with e1; injection e2 with e2; injection e3 with e3; injection e4 with e4; injection e5 with e5
      subst e0 e1 e2 e3 e4 e5
      refine ⟨⟨z0, z1, z2, z3, z4, z5⟩, wf_win f2, f5, fun j u hu => ?_⟩
      have hj : j < 6 := by have := (List.getElem?_eq_some_iff.1 hu).1; simpa [Ev.cells] using this
      rcases j with _ | _ | _ | _ | _ | _ | j
      · simp [Ev.cells] at hu; subst hu; exact c0
      · simp [Ev.cells] at hu; subst hu; exact c1
      · simp [Ev.cells] at hu; subst hu; exact c2
      · simp [Ev.cells] at hu; subst hu; exact c3
      · simp [Ev.cells] at hu; subst hu; exact c4
      · simp [Ev.cells] at hu; subst hu; exact c5
      · omega
    obtain ⟨l, hll, hlp⟩ := list_of n key
    refine ⟨l, ⟨hll, fun hn => ?_⟩, hl, fun y hy => ?_, fun y hy => ?_⟩
    · obtain ⟨y, _, _, hy⟩ := key 0 hn
      have h0 := hy 0 _ rfl
      obtain ⟨b, off, spot⟩ := x
      have hspot : spot = none := by simpa [Addr.add] using World.cell?_spot h0
      subst hspot
      have hlt := cell_lt h0
      refine ⟨b, off, rfl, by simpa [Addr.add] using hlt, fun i y hi j u hu => ?_⟩
      have := (hlp i y hi).2.2 j u hu
      rwa [show (⟨b, off, none⟩ : Addr).add (i * 6 + j) = ⟨b, off + i * 6 + j, none⟩ by simp [go_sem, Nat.add_assoc]] at this
    · obtain ⟨i, hi⟩ := List.mem_iff_getElem?.1 hy
      exact (hlp i y hi).1
    · obtain ⟨i, hi⟩ := List.mem_iff_getElem?.1 hy
      exact (hlp i y hi).2.1
/-- A slice of words that came in. -/
theorem open_words {H : Type} {enc : TypeId × Value → H} {w : World} {base : Nat} {spare : Nat → Bool} {held : Bool} {a : Option Addr} {n c : Nat} {d : DataW H} {p : List MemPlace} (h : DataW.Trod enc Try.prog w base spare held 23 (.slice a n c) d p) :
    ∃ l : List Int, Rd u64c 1 w w.heap.size a n l ∧ (a = none → c = 0) ∧ ∀ x ∈ l, (Lit.int .u64 x).wf = true := by
  obtain ⟨fuel, hf⟩ := h
  rcases open_ints Try.underlying23 Try.underlying36 (by kernel_rfl) hf with ⟨hcs, _⟩ | ⟨x, l, c, zs, hcs, _, hl, hm, hz, _, hcell, hwz⟩
  · simp [Value.cells] at hcs
    obtain ⟨rfl, rfl, rfl⟩ := hcs
    exact ⟨[], Rd.nil, fun _ => rfl, by simp⟩
  · simp [Value.cells] at hcs
    obtain ⟨rfl, rfl, rfl⟩ := hcs
    have hzl : n ≤ zs.length := by rw [hz]; split <;> omega
    refine ⟨zs.take n, ⟨by rw [List.length_take]; omega, fun hn => ?_⟩, fun h => (by cases h), fun y hy => hwz y (List.mem_of_mem_take hy)⟩
    have h0 := hcell 0 (by omega)
    obtain ⟨b, off, spot⟩ := x
    have hspot : spot = none := by simpa [Addr.add] using World.cell?_spot h0
    subst hspot
    have hlt := cell_lt h0
    refine ⟨b, off, rfl, by simpa [Addr.add] using hlt, fun i y hi j u hu => ?_⟩
    have hin : i < zs.length := by
      have := (List.getElem?_eq_some_iff.1 hi).1
      simp at this
      omega
    have h1 := hcell i hin
    rw [List.getElem?_take] at hi
    split at hi
    · have hg : zs.getD i 0 = y := by rw [List.getD_eq_getElem?_getD, hi]; rfl
      rw [hg] at h1
      have hj : j = 0 := by have := (List.getElem?_eq_some_iff.1 hu).1; simpa [u64c] using this
      subst hj
      simp [u64c] at hu
      subst hu
      rwa [show (⟨b, off, none⟩ : Addr).add i = ⟨b, off + i * 1 + 0, none⟩ by simp [go_sem]] at h1
    · cases hi
end Go.Proofs.Ytbabdabdohljcaa
