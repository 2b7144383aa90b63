/- brackenlaw10.live. -/
import Derived.Test.YtbabdabdohljcaaFar
namespace Go.Proofs.Ytbabdabdohljcaa
open Go.RowKit
def ev3 (x : Int) : Ev := ⟨0, 0, x, 0, 0, 0⟩
theorem rd_two {w : World} {g : Nat} {x y : Ev} (h : Blk w g 38 #[.int .i64 x.item, .int .i64 x.try_, .int .i64 x.win, .int .i64 x.tick, .int .i64 x.addr, .int .u64 x.mask, .int .i64 y.item, .int .i64 y.try_, .int .i64 y.win, .int .i64 y.tick, .int .i64 y.addr, .int .u64 y.mask]) : Rd Ev.cells 6 w w.heap.size (some ⟨g, 0, none⟩) 2 [x, y] := by
  refine ⟨rfl, fun _ => ⟨g, 0, rfl, h.lt, fun i z hi j u hu => ?_⟩⟩
  rw [h.cell]
  have hj : j < 6 := by have := (List.getElem?_eq_some_iff.1 hu).1; simpa [Ev.cells] using this
  rcases i with _ | _ | i
  · simp at hi
    subst hi
    rcases j with _ | _ | _ | _ | _ | _ | j <;> first | omega | (simpa [Ev.cells] using hu)
  · simp at hi
    subst hi
    rcases j with _ | _ | _ | _ | _ | _ | j <;> first | omega | (simpa [Ev.cells] using hu)
  · simp at hi
set_option maxHeartbeats 400000 in
theorem live_any (w : World) : Calls Try.prog 5 #[] w fun e w' => e = .returned (.bool true) ∧ Below w.heap.size w w' := by
  have s1 : sparse [ev3 3, ev3 4] = false := by decide
  have s2 : sparse [ev3 3, ev3 5] = true := by decide
  have k2 : chk 2 = 0 := by decide
  have S1 := hide s1
  have S2 := hide s2
  have K2 := hide k2
  clear s1 s2 k2
  have fit2 : ∀ a : Int, a = 4 ∨ a = 5 → ∀ x ∈ [ev3 3, ev3 a], x.fit := by
    intro a ha x hx
    simp at hx
    rcases hx with rfl | rfl <;> simp [Ev.fit, ev3] <;> omega
  have F2 := hide fit2
  clear fit2
  have hb0 := Below.refl w.heap.size w
  go_enter Try.func5, Try.ntmps5
  go_upto_region 2 with (go_at_call 8; refine (sparse_any _ _ _ [ev3 3, ev3 4] _ (rd_two (Blk.new _ _ _)) (F2.out 4 (.inl rfl))).mono ?_; rintro e w1 ⟨rfl, hb1⟩; rw [S1.out, K2.out])
  have hb2 : Below w.heap.size w w1 := below_two (hb0.alloc (Nat.le_refl _) _) hb1 (by simp)
  go_wp2_with (go_at_call 8; refine (sparse_any _ _ _ [ev3 3, ev3 5] _ (rd_two (Blk.new _ _ _)) (F2.out 5 (.inr rfl))).mono ?_; rintro e w2 ⟨rfl, hb3⟩; rw [S2.out, K2.out])
  go_ret
  have := hb2.size
  exact ⟨rfl, below_two (hb2.alloc hb2.size _) hb3 (by simp; omega)⟩
end Go.Proofs.Ytbabdabdohljcaa
