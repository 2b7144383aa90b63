/- Words on memory that this seat's walks use: what a slice reads as, draws, hidden facts; nothing of the program. -/
import Derived.WalkKit
import Derived.Lib.Hide
import Derived.Outline
import Derived.Deep.QuietTactic
import Derived.BigQuiet
import Derived.WalkSmall
namespace Go.Proofs.Ytbabdabdohljcaa
open Go.RowKit
theorem hide {p : Prop} (h : p) : Hid p := h

/-- A slice's cells: element by element. 'A n' are the slice's address and length; its block lies below B. -/
def Rd {α : Type} (cells : α → List Value) (sz : Nat) (w : World) (B : Nat) (A : Option Addr) (n : Nat) (l : List α) : Prop :=
  l.length = n ∧ (0 < n → ∃ g o, A = some ⟨g, o, none⟩ ∧ g < B ∧ ∀ i x, l[i]? = some x → ∀ j u, (cells x)[j]? = some u → w.cell? ⟨g, o + i * sz + j, none⟩ = some u)
section
variable {α : Type} {cells : α → List Value} {sz : Nat} {w w' : World} {B B' n : Nat} {A : Option Addr} {l : List α}
theorem Rd.at_ (h : Rd cells sz w B A n l) {k : Nat} (hk : k < n) : ∃ g o x, A = some ⟨g, o, none⟩ ∧ g < B ∧ l[k]? = some x ∧ ∀ j u, (cells x)[j]? = some u → w.cell? ⟨g, o + k * sz + j, none⟩ = some u := by
  obtain ⟨g, o, e, hb, hc⟩ := h.2 (by omega)
  have hl : k < l.length := by have := h.1; omega
  exact ⟨g, o, l[k], e, hb, List.getElem?_eq_getElem hl, fun j u hu => hc k _ (List.getElem?_eq_getElem hl) j u hu⟩
theorem Rd.keep (h : Rd cells sz w B A n l) (hk : ∀ p : Addr, p.block < B → w'.cell? p = w.cell? p) : Rd cells sz w' B A n l :=
  ⟨h.1, fun hn => by
    obtain ⟨g, o, e, hb, hc⟩ := h.2 hn
    exact ⟨g, o, e, hb, fun i x hi j u hu => (hk _ hb).trans (hc i x hi j u hu)⟩⟩
theorem Rd.more (h : Rd cells sz w B A n l) (hB : B ≤ B') : Rd cells sz w B' A n l :=
  ⟨h.1, fun hn => by
    obtain ⟨g, o, e, hb, hc⟩ := h.2 hn
    exact ⟨g, o, e, by omega, hc⟩⟩
theorem Rd.below (h : Rd cells sz w B A n l) (hb : Below B w w') : Rd cells sz w' B A n l := h.keep fun _ hp => hb.cell hp
/-- From the call's begin on. -/
theorem Rd.later (h : Rd cells sz w w.heap.size A n l) (hb : Below w.heap.size w w') : Rd cells sz w' w'.heap.size A n l := (h.below hb).more hb.size
theorem Rd.alloc (h : Rd cells sz w w.heap.size A n l) (o : Obj) : Rd cells sz (w.alloc o) (w.heap.size + 1) A n l :=
  (h.keep (w' := w.alloc o) fun p hp => World.cell?_alloc_lt w o p hp).more (by omega)
theorem Rd.nil : Rd cells sz w B none 0 ([] : List α) := ⟨rfl, fun h => absurd h (by omega)⟩
theorem Rd.empty {A : Option Addr} : Rd cells sz w B A 0 ([] : List α) := ⟨rfl, fun h => absurd h (by omega)⟩
theorem Rd.take (h : Rd cells sz w B A n l) {k : Nat} (hk : k ≤ n) : Rd cells sz w B A k (l.take k) := by
  refine ⟨by rw [List.length_take, h.1]; omega, fun hp => ?_⟩
  obtain ⟨g, o, e, hb, hc⟩ := h.2 (by omega)
  refine ⟨g, o, e, hb, fun i x hi j u hu => hc i x ?_ j u hu⟩
  rw [List.getElem?_take] at hi
  split at hi
  · exact hi
  · cases hi
theorem Rd.drop (h : Rd cells sz w B A n l) {k : Nat} (hk : k ≤ n) (A' : Option Addr) (hA : k < n → A' = A.map (·.add (k * sz))) :
    Rd cells sz w B A' (n - k) (l.drop k) := by
  refine ⟨by rw [List.length_drop, h.1], fun hn => ?_⟩
  obtain ⟨g, o, rfl, hb, hcell⟩ := h.2 (by omega)
  rw [hA (by omega)]
  refine ⟨g, o + k * sz, by simp [go_sem], hb, fun i x hi j u hu => ?_⟩
  rw [List.getElem?_drop] at hi
  have := hcell (k + i) x hi j u hu
  rw [show o + k * sz + i * sz + j = o + (k + i) * sz + j by rw [Nat.add_mul]; omega]
  exact this
end
theorem below_drewN {B : Nat} {a w : World} (h : Below B a w) (n : Nat) : Below B a (w.drewN n) := ⟨h.os, h.tape, h.output, h.size, h.block⟩
theorem below_refl_drewN (B : Nat) (w : World) (n : Nat) : Below B w (w.drewN n) := below_drewN (Below.refl _ _) n
theorem drawn2 (w : World) (a b : Nat) : ∃ n, (w.drewN a).drewN b = w.drewN n := ⟨a + b, World.drewN_drewN ..⟩
/-- A call that only drew, in 'Below' words. -/
theorem below_of_drawn {w w' : World} (h : ∃ n, w' = w.drewN n) : Below w.heap.size w w' := by obtain ⟨n, rfl⟩ := h; exact below_refl_drewN _ _ n

/-- Two calls one behind the other. -/
theorem below_two {B : Nat} {w w1 w2 : World} (h : Below B w w1) (k : Below w1.heap.size w1 w2) (hB : B ≤ w1.heap.size) : Below B w w2 := h.trans (k.mono hB)
theorem bcell {B : Nat} {W w1 : World} (hb : Below B W w1) : (∀ b o, b < B → w1.cell? ⟨b, o, none⟩ = W.cell? ⟨b, o, none⟩) ∧ (∀ b o, b < B → w1.frozen? ⟨b, o, none⟩ = W.frozen? ⟨b, o, none⟩) :=
  ⟨fun b o h => hb.cell (p := ⟨b, o, none⟩) h, fun b o h => hb.frozen (p := ⟨b, o, none⟩) h⟩

/-- A block that is known whole. -/
def Blk (w : World) (g : Nat) (t : TypeId) (cs : Array Value) : Prop := w.heap[g]? = some (.cells cs t (0, 0))
section
variable {w w' : World} {g : Nat} {t : TypeId} {cs : Array Value}
theorem Blk.lt (h : Blk w g t cs) : g < w.heap.size := by
  rcases Nat.lt_or_ge g w.heap.size with hlt | hge
  · exact hlt
  · unfold Blk at h; rw [Array.getElem?_eq_none hge] at h; cases h
theorem Blk.cell (h : Blk w g t cs) (i : Nat) : w.cell? ⟨g, i, none⟩ = cs[i]? := cell_of_row w g i cs t (0, 0) h
theorem Blk.frozen (h : Blk w g t cs) (i : Nat) : w.frozen? ⟨g, i, none⟩ = false := by
  unfold Blk at h
  simp [World.frozen?, h]
theorem Blk.new (w : World) (t : TypeId) (cs : Array Value) : Blk (w.alloc (.cells cs t)) w.heap.size t cs := heap_alloc_new w _
theorem Blk.drew (h : Blk w g t cs) : Blk w.drew g t cs := h
theorem Blk.drewN (h : Blk w g t cs) (n : Nat) : Blk (w.drewN n) g t cs := h
theorem Blk.alloc (h : Blk w g t cs) (o : Obj) : Blk (w.alloc o) g t cs := (Below.heap_alloc w o g h.lt).trans h
theorem Blk.set_ (h : Blk w g t cs) (i : Nat) (u : Value) : Blk (w.setCell ⟨g, i, none⟩ u) g t (cs.setIfInBounds i u) := by
  unfold Blk at h ⊢
  simp [World.setCell, Array.getElem?_modify, h]
theorem Blk.far (h : Blk w g t cs) {p : Addr} (hp : g ≠ p.block) (u : Value) : Blk (w.setCell p u) g t cs := (Below.heap_setCell w p u g hp).trans h
theorem Blk.below {B : Nat} (h : Blk w g t cs) (hb : Below B w w') (hg : g < B) : Blk w' g t cs := (hb.block g hg).trans h
theorem Blk.grown {row : Option Nat} (h : Blk w g t cs) (hb : w.grownBy w' row) (hg : some g ≠ row) : Blk w' g t cs := (hb.block g h.lt hg).trans h
end
end Go.Proofs.Ytbabdabdohljcaa
