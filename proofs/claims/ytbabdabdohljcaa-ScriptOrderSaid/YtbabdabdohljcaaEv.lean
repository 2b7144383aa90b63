/- Events as plain data; comparing two lists of events (brackenref10.Same), and of words (brackenref01.Same). -/
import Derived.Test.YtbabdabdohljcaaProg
import Derived.Test.YtbabdabdohljcaaMem
import Derived.Laws.StructEq
namespace Go.Proofs.Ytbabdabdohljcaa
open Go.RowKit
structure Ev where
  item : Int
  try_ : Int
  win : Int
  tick : Int
  addr : Int
  mask : Int
  deriving DecidableEq, Inhabited
def Ev.cells (e : Ev) : List Value := [.int .i64 e.item, .int .i64 e.try_, .int .i64 e.win, .int .i64 e.tick, .int .i64 e.addr, .int .u64 e.mask]
theorem Ev.at6 {w : World} {g o : Nat} {x : Ev} (h : ∀ j u, (Ev.cells x)[j]? = some u → w.cell? ⟨g, o + j, none⟩ = some u) :
    w.cell? ⟨g, o, none⟩ = some (.int .i64 x.item) ∧ w.cell? ⟨g, o + 1, none⟩ = some (.int .i64 x.try_) ∧ w.cell? ⟨g, o + 2, none⟩ = some (.int .i64 x.win) ∧ w.cell? ⟨g, o + 3, none⟩ = some (.int .i64 x.tick) ∧ w.cell? ⟨g, o + 4, none⟩ = some (.int .i64 x.addr) ∧ w.cell? ⟨g, o + 5, none⟩ = some (.int .u64 x.mask) :=
  ⟨h 0 _ rfl, h 1 _ rfl, h 2 _ rfl, h 3 _ rfl, h 4 _ rfl, h 5 _ rfl⟩
theorem Ev.ext_iff' (x y : Ev) : x = y ↔ x.item = y.item ∧ x.try_ = y.try_ ∧ x.win = y.win ∧ x.tick = y.tick ∧ x.addr = y.addr ∧ x.mask = y.mask := by
  cases x; cases y; simp

theorem ev_equal (w : World) (d : Nat) (x y : Ev) : (Op.equalIn (d + 2) 38 (.agg #[.int .i64 x.item, .int .i64 x.try_, .int .i64 x.win, .int .i64 x.tick, .int .i64 x.addr, .int .u64 x.mask]) (.agg #[.int .i64 y.item, .int .i64 y.try_, .int .i64 y.win, .int .i64 y.tick, .int .i64 y.addr, .int .u64 y.mask])).run Try.prog w = .ok (decide (x = y)) w := by
  rw [run_equalIn_struct (P := Try.prog) w (d+1) 38 _ _ (by kernel_rfl) (by kernel_rfl)]
  simp only [Ev.ext_iff']
  simp [go_sem]
  by_cases h1 : x.item = y.item <;> by_cases h2 : x.try_ = y.try_ <;> by_cases h3 : x.win = y.win <;> by_cases h4 : x.tick = y.tick <;> by_cases h5 : x.addr = y.addr <;> by_cases h6 : x.mask = y.mask <;> simp [*]
theorem ev_neq (w : World) (x y : Ev) : (binOp .neq 38 (.agg #[.int .i64 x.item, .int .i64 x.try_, .int .i64 x.win, .int .i64 x.tick, .int .i64 x.addr, .int .u64 x.mask]) (.agg #[.int .i64 y.item, .int .i64 y.try_, .int .i64 y.win, .int .i64 y.tick, .int .i64 y.addr, .int .u64 y.mask])).run Try.prog w = .ok (.bool (!decide (x = y))) w := by
  simp only [binOp, Op.equal, Op.maxDepth]
  have h := ev_equal w 9998 x y
  simp [h]
theorem take_eq_succ {α : Type} {l r : List α} {k : Nat} {x : α} (hx : l[k]? = some x) (hy : r[k]? = some x) (h : l.take k = r.take k) : l.take (k + 1) = r.take (k + 1) := by
  rw [List.take_add_one, List.take_add_one, h, hx, hy]
theorem ne_of_at {α : Type} {l r : List α} {k : Nat} {x y : α} (hx : l[k]? = some x) (hy : r[k]? = some y) (h : ¬ x = y) : ¬ l = r := by
  rintro rfl
  rw [hx] at hy
  injection hy with hy
  exact h hy
theorem ret_bool {a b : Bool} (h : a = b) : Ending.returned (.bool a) = .returned (.bool b) := by rw [h]

set_option maxHeartbeats 400000 in
theorem same_any (A B : Option Addr) (n m ca cb : Nat) (l r : List Ev) (w : World) (hl : Rd Ev.cells 6 w w.heap.size A n l) (hm : Rd Ev.cells 6 w w.heap.size B m r) (hn : n < 9223372036854775807) :
    Calls Try.prog 14 #[.slice A n ca, .slice B m cb] w fun e w' => e = .returned (.bool (decide (l = r))) ∧ ∃ n, w' = w.drewN n := by
  have hq := ev_neq
  by_cases hnm : n = m
  · subst hnm
    go_enter Try.func14, Try.ntmps14
    go_wp2
    go_loopw [13] (fun i wr => ∃ k : Nat, k ≤ n ∧ i = .int .i64 k ∧ l.take k = r.take k ∧ ∃ n, wr = w.drewN n) (fun i _ => n - (intOf i).toNat)
    case atStart => exact ⟨0, Nat.zero_le _, rfl, rfl, 0, rfl⟩
    case round =>
      obtain ⟨k, hk, rfl, ht, nd, rfl⟩ := hrel
      have Ht := hide ht
      clear ht
      by_cases hlt : k < n
      · obtain ⟨a, oa, x, rfl, _, hx, hca⟩ := hl.at_ hlt
        obtain ⟨b, ob, y, rfl, _, hy, hcb⟩ := hm.at_ hlt
        obtain ⟨a0, a1, a2, a3, a4, a5⟩ := Ev.at6 hca
        obtain ⟨b0, b1, b2, b3, b4, b5⟩ := Ev.at6 hcb
        have Hx := hide hx
        have Hy := hide hy
        clear hca hcb hx hy
        go_wp2
        go_quiet (fail)
        go_wp2
        · rename_i hne
          go_ret
          exact ⟨ret_bool (by have := ne_of_at Hx.out Hy.out (by simpa using hne); simp [this]), drawn2 _ _ _⟩
        · rename_i he
          have Hx' := Hx.out
          rw [show x = y by simpa using he] at Hx'
          go_roundw
          case rel => exact ⟨k + 1, by omega, by go_num, take_eq_succ Hx' Hy.out Ht.out, _, rfl⟩
          case measure => simp [intOf]; omega
      · have hkn : k = n := by omega
        subst hkn
        have hlr : l = r := by
          have := Ht.out
          rw [List.take_of_length_le (by rw [hl.1]; omega), List.take_of_length_le (by rw [hm.1]; omega)] at this
          exact this
        have HL := hide hlr
        clear hlr
        go_wp2
        go_ret
        exact ⟨ret_bool (by simp [HL.out]), _, rfl⟩
  · have hlr : ¬ l = r := by
      rintro rfl
      exact hnm (hl.1.symm.trans hm.1)
    have HL := hide hlr
    clear hlr
    go_enter Try.func14, Try.ntmps14
    go_wp2
    go_ret
    exact ⟨ret_bool (by simp [HL.out]), 0, rfl⟩

/-- A word's cell. -/
def u64c (x : Int) : List Value := [.int .u64 x]
theorem u64c_at {w : World} {g o : Nat} {x : Int} (h : ∀ j u, (u64c x)[j]? = some u → w.cell? ⟨g, o + j, none⟩ = some u) : w.cell? ⟨g, o, none⟩ = some (.int .u64 x) := h 0 _ rfl
set_option maxHeartbeats 400000 in
theorem sameW_any (A B : Option Addr) (n m ca cb : Nat) (l r : List Int) (w : World) (hl : Rd u64c 1 w w.heap.size A n l) (hm : Rd u64c 1 w w.heap.size B m r) (hn : n < 9223372036854775807) :
    Calls Try.prog 15 #[.slice A n ca, .slice B m cb] w fun e w' => e = .returned (.bool (decide (l = r))) ∧ ∃ n, w' = w.drewN n := by
  by_cases hnm : n = m
  · subst hnm
    go_enter Try.func15, Try.ntmps15
    go_wp2
    go_loopw [13] (fun i wr => ∃ k : Nat, k ≤ n ∧ i = .int .i64 k ∧ l.take k = r.take k ∧ ∃ n, wr = w.drewN n) (fun i _ => n - (intOf i).toNat)
    case atStart => exact ⟨0, Nat.zero_le _, rfl, rfl, 0, rfl⟩
    case round =>
      obtain ⟨k, hk, rfl, ht, nd, rfl⟩ := hrel
      have Ht := hide ht
      clear ht
      by_cases hlt : k < n
      · obtain ⟨a, oa, x, rfl, _, hx, hca⟩ := hl.at_ hlt
        obtain ⟨b, ob, y, rfl, _, hy, hcb⟩ := hm.at_ hlt
        simp only [Nat.mul_one] at hca hcb
        have a0 := u64c_at hca
        have b0 := u64c_at hcb
        have Hx := hide hx
        have Hy := hide hy
        clear hca hcb hx hy
        go_wp2
        go_quiet (fail)
        go_wp2
        · rename_i hne
          go_ret
          exact ⟨ret_bool (by have := ne_of_at Hx.out Hy.out (by simpa using hne); simp [this]), drawn2 _ _ _⟩
        · rename_i he
          have Hx' := Hx.out
          rw [show x = y by simpa using he] at Hx'
          go_roundw
          case rel => exact ⟨k + 1, by omega, by go_num, take_eq_succ Hx' Hy.out Ht.out, _, rfl⟩
          case measure => simp [intOf]; omega
      · have hkn : k = n := by omega
        subst hkn
        have hlr : l = r := by
          have := Ht.out
          rw [List.take_of_length_le (by rw [hl.1]; omega), List.take_of_length_le (by rw [hm.1]; omega)] at this
          exact this
        have HL := hide hlr
        clear hlr
        go_wp2
        go_ret
        exact ⟨ret_bool (by simp [HL.out]), _, rfl⟩
  · have hlr : ¬ l = r := by
      rintro rfl
      exact hnm (hl.1.symm.trans hm.1)
    have HL := hide hlr
    clear hlr
    go_enter Try.func15, Try.ntmps15
    go_wp2
    go_ret
    exact ⟨ret_bool (by simp [HL.out]), 0, rfl⟩

/-- Whether events may be (both packages' Check). -/
def chk (n : Nat) : Int := if 1024 < n then 1 else 0
theorem rcheck_any (a : Option Addr) (n c : Nat) (w : World) :
    Calls Try.prog 17 #[.slice a n c] w fun e w' => e = .returned (.int .i64 (chk n)) ∧ w = w' := by
  unfold chk
  go_enter Try.func17, Try.ntmps17
  go_wp2
  all_goals go_ret
  all_goals exact ⟨rfl, rfl⟩
theorem check_any (a : Option Addr) (n c : Nat) (w : World) :
    Calls Try.prog 16 #[.slice a n c] w fun e w' => e = .returned (.int .i64 (chk n)) ∧ w = w' := by
  unfold chk
  go_enter Try.func16, Try.ntmps16
  go_wp2
  all_goals go_ret
  all_goals exact ⟨rfl, rfl⟩
def Ev.nothing (e : Ev) (n : Int) : Bool := e.mask == 0 || decide (e.addr < 0) || decide (e.addr ≥ n)
theorem rnothing_any (a b c d e f n : Int) (w : World) :
    Calls Try.prog 24 #[.agg #[.int .i64 a, .int .i64 b, .int .i64 c, .int .i64 d, .int .i64 e, .int .u64 f], .int .i64 n] w fun r w' => r = .returned (.bool (Ev.nothing ⟨a, b, c, d, e, f⟩ n)) ∧ Below w.heap.size w w' := by
  unfold Ev.nothing
  go_enter Try.func24, Try.ntmps24
  go_wp2
  all_goals go_ret
  all_goals exact ⟨ret_bool (by simp_all), (Below.refl _ _).alloc (Nat.le_refl _) _⟩
end Go.Proofs.Ytbabdabdohljcaa
