/- script.Quiet and brackenref10.Quiet: whether events do nothing to so many words. -/
import Derived.Test.YtbabdabdohljcaaEv
namespace Go.Proofs.Ytbabdabdohljcaa
open Go.RowKit
theorem nothing_any (a b c d e f n : Int) (w : World) :
    Calls Try.prog 23 #[.agg #[.int .i64 a, .int .i64 b, .int .i64 c, .int .i64 d, .int .i64 e, .int .u64 f], .int .i64 n] w fun r w' => r = .returned (.bool (Ev.nothing ⟨a, b, c, d, e, f⟩ n)) ∧ Below w.heap.size w w' := by
  unfold Ev.nothing
  go_enter Try.func23, Try.ntmps23
  go_wp2
  all_goals go_ret
  all_goals exact ⟨ret_bool (by simp_all), (Below.refl _ _).alloc (Nat.le_refl _) _⟩
theorem all_take_succ {α : Type} {l : List α} {k : Nat} {x : α} {p : α → Bool} (hx : l[k]? = some x) (h : (l.take k).all p = true) (hp : p x = true) : (l.take (k + 1)).all p = true := by
  rw [List.take_add_one, List.all_append, h, hx]; simp [hp]
theorem all_false_of_at {α : Type} {l : List α} {k : Nat} {x : α} {p : α → Bool} (hx : l[k]? = some x) (hp : p x = false) : l.all p = false := by
  have hm : x ∈ l := List.mem_of_getElem? hx
  rw [Bool.eq_false_iff]
  intro h
  rw [List.all_eq_true.1 h x hm] at hp
  cases hp
theorem ret2_bool {a b : Bool} {c d : Int} (h : a = b) (k : c = d) : Ending.returned (.tuple #[.bool a, .int .i64 c]) = .returned (.tuple #[.bool b, .int .i64 d]) := by rw [h, k]
def quiet (l : List Ev) (n : Int) : Bool := if 1024 < l.length then false else l.all (fun e => e.nothing n)

set_option maxHeartbeats 400000 in
theorem quiet_any (A : Option Addr) (n ca : Nat) (l : List Ev) (z : Int) (w : World) (hl : Rd Ev.cells 6 w w.heap.size A n l) :
    Calls Try.prog 10 #[.slice A n ca, .int .i64 z] w fun e w' => e = .returned (.tuple #[.bool (quiet l z), .int .i64 (chk n)]) ∧ Below w.heap.size w w' := by
  by_cases hn : 1024 < n
  · have hq : quiet l z = false := by unfold quiet; rw [if_pos (by rw [hl.1]; exact hn)]
    have hk : chk n = 1 := by unfold chk; rw [if_pos hn]
    rw [hq, hk]
    have HK := hide hk
    clear hq hk
    go_enter Try.func10, Try.ntmps10
    go_wp2_with (go_at_call 16; refine (check_any _ _ _ _).mono ?_; rintro e w' ⟨rfl, rfl⟩; rw [HK.out])
    go_ret2
    exact ⟨rfl, Below.refl _ _⟩
  · have hq : quiet l z = l.all (fun e => e.nothing z) := by unfold quiet; rw [if_neg (by rw [hl.1]; exact hn)]
    have hk : chk n = 0 := by unfold chk; rw [if_neg hn]
    rw [hq, hk]
    have HK := hide hk
    clear hq hk
    go_enter Try.func10, Try.ntmps10
    go_wp2_with (go_at_call 16; refine (check_any _ _ _ _).mono ?_; rintro e w' ⟨rfl, rfl⟩; rw [HK.out])
    go_loopw [16] (fun i wr => ∃ k : Nat, k ≤ n ∧ i = .int .i64 k ∧ (l.take k).all (fun e => e.nothing z) = true ∧ Below w.heap.size w wr) (fun i _ => n - (intOf i).toNat)
    case atStart => exact ⟨0, Nat.zero_le _, rfl, rfl, Below.refl _ _⟩
    case round =>
      obtain ⟨k, hk, rfl, ht, hb⟩ := hrel
      have Ht := hide ht
      clear ht
      by_cases hlt : k < n
      · obtain ⟨a, oa, x, rfl, _, hx, hca⟩ := (hl.below hb).at_ hlt
        obtain ⟨a0, a1, a2, a3, a4, a5⟩ := Ev.at6 hca
        have Hx := hide hx
        clear hca hx
        rcases hp : x.nothing z with _ | _
        all_goals
          have HP := hide hp
          clear hp
          go_wp2_with (go_at_call 23; refine (nothing_any _ _ _ _ _ _ _ _).mono ?_; rintro e w' ⟨rfl, hb1⟩; rw [HP.out])
          have hb2 : Below w.heap.size w w' := below_two (hb.alloc hb.size _) hb1 (by have := hb.size; simp; omega)
        · go_ret2
          exact ⟨ret2_bool (all_false_of_at Hx.out HP.out).symm rfl, hb2⟩
        · go_roundw
          case rel => exact ⟨k + 1, by omega, by go_num, all_take_succ Hx.out Ht.out HP.out, hb2⟩
          case measure => simp [intOf]; omega
      · have hkn : k = n := by omega
        subst hkn
        have ha := Ht.out
        rw [List.take_of_length_le (by rw [hl.1]; omega)] at ha
        have HA := hide ha
        clear ha
        go_wp2
        go_ret2
        exact ⟨ret2_bool HA.out.symm rfl, hb⟩
set_option maxHeartbeats 400000 in
theorem rquiet_any (A : Option Addr) (n ca : Nat) (l : List Ev) (z : Int) (w : World) (hl : Rd Ev.cells 6 w w.heap.size A n l) :
    Calls Try.prog 11 #[.slice A n ca, .int .i64 z] w fun e w' => e = .returned (.tuple #[.bool (quiet l z), .int .i64 (chk n)]) ∧ Below w.heap.size w w' := by
  by_cases hn : 1024 < n
  · have hq : quiet l z = false := by unfold quiet; rw [if_pos (by rw [hl.1]; exact hn)]
    have hk : chk n = 1 := by unfold chk; rw [if_pos hn]
    rw [hq, hk]
    have HK := hide hk
    clear hq hk
    go_enter Try.func11, Try.ntmps11
    go_wp2_with (go_at_call 17; refine (rcheck_any _ _ _ _).mono ?_; rintro e w' ⟨rfl, rfl⟩; rw [HK.out])
    go_ret2
    exact ⟨rfl, Below.refl _ _⟩
  · have hq : quiet l z = l.all (fun e => e.nothing z) := by unfold quiet; rw [if_neg (by rw [hl.1]; exact hn)]
    have hk : chk n = 0 := by unfold chk; rw [if_neg hn]
    rw [hq, hk]
    have HK := hide hk
    clear hq hk
    go_enter Try.func11, Try.ntmps11
    go_wp2_with (go_at_call 17; refine (rcheck_any _ _ _ _).mono ?_; rintro e w' ⟨rfl, rfl⟩; rw [HK.out])
    go_loopw [16] (fun i wr => ∃ k : Nat, k ≤ n ∧ i = .int .i64 k ∧ (l.take k).all (fun e => e.nothing z) = true ∧ Below w.heap.size w wr) (fun i _ => n - (intOf i).toNat)
    case atStart => exact ⟨0, Nat.zero_le _, rfl, rfl, Below.refl _ _⟩
    case round =>
      obtain ⟨k, hk, rfl, ht, hb⟩ := hrel
      have Ht := hide ht
      clear ht
      by_cases hlt : k < n
      · obtain ⟨a, oa, x, rfl, _, hx, hca⟩ := (hl.below hb).at_ hlt
        obtain ⟨a0, a1, a2, a3, a4, a5⟩ := Ev.at6 hca
        have Hx := hide hx
        clear hca hx
        rcases hp : x.nothing z with _ | _
        all_goals
          have HP := hide hp
          clear hp
          go_wp2_with (go_at_call 24; refine (rnothing_any _ _ _ _ _ _ _ _).mono ?_; rintro e w' ⟨rfl, hb1⟩; rw [HP.out])
          have hb2 : Below w.heap.size w w' := below_two (hb.alloc hb.size _) hb1 (by have := hb.size; simp; omega)
        · go_ret2
          exact ⟨ret2_bool (all_false_of_at Hx.out HP.out).symm rfl, hb2⟩
        · go_roundw
          case rel => exact ⟨k + 1, by omega, by go_num, all_take_succ Hx.out Ht.out HP.out, hb2⟩
          case measure => simp [intOf]; omega
      · have hkn : k = n := by omega
        subst hkn
        have ha := Ht.out
        rw [List.take_of_length_le (by rw [hl.1]; omega)] at ha
        have HA := hide ha
        clear ha
        go_wp2
        go_ret2
        exact ⟨ret2_bool HA.out.symm rfl, hb⟩
end Go.Proofs.Ytbabdabdohljcaa
