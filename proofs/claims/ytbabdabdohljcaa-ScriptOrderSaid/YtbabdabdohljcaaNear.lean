/- brackenref10.Near and brackenref10.Sparse. -/
import Derived.Test.YtbabdabdohljcaaQuiet
import Derived.Deep.DeepCutAuto
import Derived.Deep.CutBlock
namespace Go.Proofs.Ytbabdabdohljcaa
open Go.RowKit
def Ev.near (a b : Ev) : Bool := (a.item == b.item) && (a.try_ == b.try_) && decide (max a.win b.win - min a.win b.win < 2)
def Ev.fit (a : Ev) : Prop := -9223372036854775808 ≤ a.win ∧ a.win < 9223372036854775808
theorem near_word {a b : Int} (ha : -9223372036854775808 ≤ a ∧ a < 9223372036854775808) (hb : -9223372036854775808 ≤ b ∧ b < 9223372036854775808) (h : b ≤ a) :
    IntKind.u64.wrap (IntKind.u64.wrap a - IntKind.u64.wrap b) = a - b := by
  simp only [IntKind.wrap, IntKind.signed, IntKind.bits]
  simp
  omega
theorem near_dec {x y : Ev} {a b : Int} (hx : x.fit) (hy : y.fit) (h : a = x.win ∧ b = y.win ∧ y.win ≤ x.win ∨ a = y.win ∧ b = x.win ∧ x.win ≤ y.win) :
    decide (IntKind.u64.wrap (IntKind.u64.wrap a - IntKind.u64.wrap b) < 2) = decide (max x.win y.win - min x.win y.win < 2) := by
  unfold Ev.fit at hx hy
  rcases h with ⟨rfl, rfl, h⟩ | ⟨rfl, rfl, h⟩
  · rw [near_word hx hy h, Int.max_eq_left h, Int.min_eq_right h]
  · rw [near_word hy hx h, Int.max_eq_right h, Int.min_eq_left h]
theorem near_dec0 {x y : Ev} (h : x.win = y.win) : decide (IntKind.u64.wrap 0 < 2) = decide (max x.win y.win - min x.win y.win < 2) := by
  rw [h, Int.max_eq_left (Int.le_refl _), Int.min_eq_left (Int.le_refl _), Int.sub_self]
  decide
set_option maxHeartbeats 400000 in
theorem near_any (x y : Ev) (hx : x.fit) (hy : y.fit) (w : World) :
    Calls Try.prog 22 #[.agg #[.int .i64 x.item, .int .i64 x.try_, .int .i64 x.win, .int .i64 x.tick, .int .i64 x.addr, .int .u64 x.mask], .agg #[.int .i64 y.item, .int .i64 y.try_, .int .i64 y.win, .int .i64 y.tick, .int .i64 y.addr, .int .u64 y.mask]] w fun r w' => r = .returned (.bool (x.near y)) ∧ Below w.heap.size w w' := by
  have HF := hide hx
  have HG := hide hy
  clear hx hy
  rcases h1 : x.item != y.item with _ | _
  · rcases h2 : x.try_ != y.try_ with _ | _
    · have HX := hide (show x.near y = decide (max x.win y.win - min x.win y.win < 2) by
        have e1 : x.item = y.item := by simpa using h1
        have e2 : x.try_ = y.try_ := by simpa using h2
        simp [Ev.near, e1, e2])
      rw [HX.out]
      go_enter Try.func22, Try.ntmps22
      go_wp2
      all_goals
        go_ret
        refine ⟨ret_bool ?_, ((Below.refl _ _).alloc (Nat.le_refl _) _).alloc (by simp) _⟩
        first
          | exact near_dec0 (by omega)
          | exact near_dec HF.out HG.out (.inl ⟨rfl, rfl, by omega⟩)
          | exact near_dec HF.out HG.out (.inr ⟨rfl, rfl, by omega⟩)
    · have HX := hide (show x.near y = false by
        have e2 : ¬ x.try_ = y.try_ := by simpa using h2
        simp [Ev.near, e2])
      rw [HX.out]
      go_enter Try.func22, Try.ntmps22
      go_wp2
      go_ret
      exact ⟨rfl, ((Below.refl _ _).alloc (Nat.le_refl _) _).alloc (by simp) _⟩
  · have HX := hide (show x.near y = false by
      have e2 : ¬ x.item = y.item := by simpa using h1
      simp [Ev.near, e2])
    rw [HX.out]
    go_enter Try.func22, Try.ntmps22
    go_wp2
    go_ret
    exact ⟨rfl, ((Below.refl _ _).alloc (Nat.le_refl _) _).alloc (by simp) _⟩
/-- No two of one try less than two windows apart. -/
def FarIn (l : List Ev) : Prop := l.Pairwise fun a b => b.near a = false
instance (l : List Ev) : Decidable (FarIn l) := by unfold FarIn; infer_instance
def sparse (l : List Ev) : Bool := if 1024 < l.length then false else decide (FarIn l)
theorem far_take_succ {l : List Ev} {k : Nat} {x : Ev} (hx : l[k]? = some x) (h : FarIn (l.take k)) (hz : ∀ z ∈ l.take k, x.near z = false) : FarIn (l.take (k + 1)) := by
  unfold FarIn at *
  rw [List.take_add_one, hx]
  simp only [Option.toList_some]
  rw [List.pairwise_append]
  exact ⟨h, List.pairwise_singleton _ _, fun a ha b hb => by rw [List.mem_singleton.1 hb]; exact hz a ha⟩
theorem far_false {l : List Ev} {j k : Nat} {x y : Ev} (hx : l[k]? = some x) (hy : l[j]? = some y) (hjk : j < k) (hn : x.near y = true) : ¬ FarIn l := by
  unfold FarIn
  intro h
  obtain ⟨h1, e1⟩ := List.getElem?_eq_some_iff.1 hx
  obtain ⟨h2, e2⟩ := List.getElem?_eq_some_iff.1 hy
  have := List.pairwise_iff_getElem.1 h j k h2 h1 hjk
  rw [e1, e2, hn] at this
  cases this
theorem all_take_succ' {α : Type} {l : List α} {k : Nat} {x : α} {p : α → Prop} (hx : l[k]? = some x) (h : ∀ z ∈ l.take k, p z) (hp : p x) : ∀ z ∈ l.take (k + 1), p z := by
  rw [List.take_add_one, hx]
  intro z hz
  simp at hz
  rcases hz with hz | rfl
  · exact h z hz
  · exact hp
set_option maxHeartbeats 1000000 in
theorem rsparse_any (A : Option Addr) (n ca : Nat) (l : List Ev) (w : World) (hl : Rd Ev.cells 6 w w.heap.size A n l) (hc : n ≤ ca) (hfit : ∀ x ∈ l, x.fit) :
    Calls Try.prog 9 #[.slice A n ca] w fun e w' => e = .returned (.tuple #[.bool (sparse l), .int .i64 (chk n)]) ∧ Below w.heap.size w w' := by
  have HFit := hide hfit
  clear hfit
  by_cases hn : 1024 < n
  · have hq : sparse l = false := by unfold sparse; rw [if_pos (by rw [hl.1]; exact hn)]
    have hk : chk n = 1 := by unfold chk; rw [if_pos hn]
    rw [hq, hk]
    have HK := hide hk
    clear hq hk
    go_enter Try.func9, Try.ntmps9
    go_wp2_with (go_at_call 17; refine (rcheck_any _ _ _ _).mono ?_; rintro e w' ⟨rfl, rfl⟩; rw [HK.out])
    go_ret2
    exact ⟨rfl, Below.refl _ _⟩
  · have hq : sparse l = decide (FarIn l) := by unfold sparse; rw [if_neg (by rw [hl.1]; exact hn)]
    have hk : chk n = 0 := by unfold chk; rw [if_neg hn]
    rw [hq, hk]
    have HK := hide hk
    clear hq hk
    go_enter Try.func9, Try.ntmps9
    go_wp2_with (go_at_call 17; refine (rcheck_any _ _ _ _).mono ?_; rintro e w' ⟨rfl, rfl⟩; rw [HK.out])
    go_loopw [16] (fun i wr => ∃ k : Nat, k ≤ n ∧ i = .int .i64 k ∧ FarIn (l.take k) ∧ Below w.heap.size w wr) (fun i _ => n - (intOf i).toNat)
    case atStart => exact ⟨0, Nat.zero_le _, rfl, List.Pairwise.nil, Below.refl _ _⟩
    case round =>
      obtain ⟨k, hk, rfl, ht, hb⟩ := hrel
      have Ht := hide ht
      clear ht
      by_cases hlt : k < n
      · obtain ⟨a, oa, x, rfl, hga, hx, hca⟩ := (hl.below hb).at_ hlt
        obtain ⟨a0, a1, a2, a3, a4, a5⟩ := Ev.at6 hca
        have Hx := hide hx
        have Hfx := hide (HFit.out x (List.mem_of_getElem? hx))
        clear hca hx
        have hkc : k ≤ ca := by omega
        have hkc2 : (k : Int) ≤ (ca : Int) := by omega
        go_upto_block 2 with fail
        obtain ⟨wx, hwx⟩ : ∃ wx, wx = wr.alloc (.cells #[.int .i64 x.item, .int .i64 x.try_, .int .i64 x.win, .int .i64 x.tick, .int .i64 x.addr, .int .u64 x.mask] 38) := ⟨_, rfl⟩
        have hX : Blk wx wr.heap.size 38 #[.int .i64 x.item, .int .i64 x.try_, .int .i64 x.win, .int .i64 x.tick, .int .i64 x.addr, .int .u64 x.mask] := by rw [hwx]; exact Blk.new _ _ _
        have hbx : Below w.heap.size w wx := by rw [hwx]; exact hb.alloc hb.size _
        have hlx : wr.heap.size < wx.heap.size := hX.lt
        rw [← hwx]
        clear hwx a0 a1 a2 a3 a4 a5
        go_wp2_with fail
        go_loopw [25] (fun i wi => ∃ j : Nat, j ≤ k ∧ i = .int .i64 j ∧ (∀ z ∈ l.take j, x.near z = false) ∧ Below w.heap.size w wi ∧ Blk wi wr.heap.size 38 #[.int .i64 x.item, .int .i64 x.try_, .int .i64 x.win, .int .i64 x.tick, .int .i64 x.addr, .int .u64 x.mask] ∧ wr.heap.size < wi.heap.size) (fun i _ => k - (intOf i).toNat)
        case atStart => exact ⟨0, Nat.zero_le _, rfl, by simp, hbx, hX, hlx⟩
        case round =>
          clear hbx hX hlx
          obtain ⟨j, hj, rfl, hz, hbi, hXi, hli⟩ := hrel
          have HZ := hide hz
          clear hz
          by_cases hjk : j < k
          · obtain ⟨_, _, y, e, _, hy, hcb⟩ := (hl.below hbi).at_ (k := j) (by omega)
            injection e with e
            injection e with e1 e2
            subst e1 e2
            obtain ⟨b0, b1, b2, b3, b4, b5⟩ := Ev.at6 hcb
            have Hy := hide hy
            have Hfy := HFit.out y (List.mem_of_getElem? hy)
            have hXa := hXi.alloc (.cells #[.int .i64 y.item, .int .i64 y.try_, .int .i64 y.win, .int .i64 y.tick, .int .i64 y.addr, .int .u64 y.mask] 38)
            have x0 := hXa.cell 0
            have x1 := hXa.cell 1
            have x2 := hXa.cell 2
            have x3 := hXa.cell 3
            have x4 := hXa.cell 4
            have x5 := hXa.cell 5
            simp at x0 x1 x2 x3 x4 x5
            clear hcb hy
            rcases hp : x.near y with _ | _
            all_goals
              have HP := hide hp
              clear hp
              go_wp2_with (go_at_call 22; refine (near_any x y Hfx.out Hfy _).mono ?_; rintro e w' ⟨rfl, hb1⟩; rw [HP.out])
              have hsi := hbi.size
              have hb2 : Below w.heap.size w w' := below_two (hbi.alloc hbi.size _) hb1 (by simp; omega)
            · go_roundw
              case rel => exact ⟨j + 1, by omega, by go_num, all_take_succ' Hy.out HZ.out HP.out, hb2, hXa.below hb1 (by simp; omega), by have := hb1.size; simp at this; omega⟩
              case measure => simp [intOf]; omega
            · have HF := hide (far_false Hx.out Hy.out hjk HP.out)
              go_ret2
              exact ⟨ret2_bool (by simp [HF.out]) rfl, hb2⟩
          · have hjn : j = k := by omega
            subst hjn
            have ht2 := far_take_succ Hx.out Ht.out HZ.out
            have HT := hide ht2
            clear ht2
            go_wp2_with fail
            go_roundw
            case rel => exact ⟨j + 1, by omega, by go_num, HT.out, hbi⟩
            case measure => simp [intOf]; omega
      · have hkn : k = n := by omega
        subst hkn
        have ha := Ht.out
        rw [List.take_of_length_le (by rw [hl.1]; omega)] at ha
        have HA := hide ha
        clear ha
        go_wp2
        go_ret2
        exact ⟨ret2_bool (by simp [HA.out]) rfl, hb⟩
end Go.Proofs.Ytbabdabdohljcaa
