/- brackenlaw10.ScriptOrder. -/
import Derived.Test.YtbabdabdohljcaaPerm
import Derived.Test.YtbabdabdohljcaaDoes
namespace Go.Proofs.Ytbabdabdohljcaa
open Go.RowKit
theorem turned_succ (l : List Ev) (k i : Nat) : turned l k (i + 1) = turned l k i ++ [l.getD (around l.length k i) noEv] := by
  unfold turned
  rw [List.range_succ, List.map_append]
  rfl
theorem turned_length (l : List Ev) (k i : Nat) : (turned l k i).length = i := by simp [turned]
theorem around_int {n k i : Nat} : ((k : Int) + n - i) % (n : Int) = ((around n k i : Nat) : Int) ∨ k + n < i := by
  rcases Nat.lt_or_ge (k + n) i with h | h
  · exact .inr h
  · left
    unfold around
    rw [Int.natCast_emod, Int.natCast_sub h, Int.natCast_add]
theorem mem_getD {l : List Ev} {j : Nat} (h : j < l.length) : l[j]? = some (l.getD j noEv) := by
  rw [List.getD_eq_getElem?_getD, List.getElem?_eq_getElem h]; rfl
set_option maxRecDepth 100000 in
set_option maxHeartbeats 16000000 in
theorem order_any (A B : Option Addr) (n ca m cb : Nat) (l : List Ev) (ws : List Int) (turn item try_ win : Int) (w : World) (hl : Rd Ev.cells 6 w w.heap.size A n l) (hw : Rd u64c 1 w w.heap.size B m ws) (hnil : B = none → cb = 0) (hfit : ∀ x ∈ l, x.fit) (ht0 : 0 ≤ turn) (ht1 : turn < 256) :
    Calls Try.prog 4 #[.slice A n ca, .slice B m cb, .int .u8 turn, .int .i64 item, .int .i64 try_, .int .i64 win] w fun e w' => e = .returned (.bool true) ∧ Below w.heap.size w w' := by
  have HFit := hide hfit
  clear hfit
  by_cases hbig : 60 < n ∨ 60 < m ∨ n = 0
  · rcases hbig with h1 | h1 | h1
    · have h1' : (60 : Int) < n := by omega
      go_enter Try.func4, Try.ntmps4
      go_wp2_with (go_at_call 5; refine (live_any _).mono ?_; rintro e w1 ⟨rfl, hb1⟩)
      go_ret
      exact ⟨rfl, hb1⟩
    · have h1' : (60 : Int) < m := by omega
      by_cases h2 : (60 : Int) < n
      all_goals
        go_enter Try.func4, Try.ntmps4
        go_wp2_with (go_at_call 5; refine (live_any _).mono ?_; rintro e w1 ⟨rfl, hb1⟩)
        go_ret
        exact ⟨rfl, hb1⟩
    · subst h1
      by_cases h2 : (60 : Int) < m
      all_goals
        go_enter Try.func4, Try.ntmps4
        go_wp2_with (go_at_call 5; refine (live_any _).mono ?_; rintro e w1 ⟨rfl, hb1⟩)
        go_ret
        exact ⟨rfl, hb1⟩
  · have hn1 : ¬ (60 : Int) < n := by omega
    have hm1 : ¬ (60 : Int) < m := by omega
    have hn0 : ((n : Int) == 0) = false := by simp; omega
    have hnn : 0 < n := by omega
    clear hbig
    obtain ⟨k, hk, hkn⟩ : ∃ k : Nat, turn % (n : Int) = (k : Int) ∧ k < n := by
      refine ⟨(turn % (n : Int)).toNat, ?_, ?_⟩
      · have := Int.emod_nonneg turn (show (n : Int) ≠ 0 by omega); omega
      · have h1 := Int.emod_nonneg turn (show (n : Int) ≠ 0 by omega)
        have h2 := Int.emod_lt_of_pos turn (show (0 : Int) < n by omega)
        omega
    obtain rfl := hl.1
    have hp := hide (turned_perm hkn)
    have hi : ∀ x : Ev, (Ev.cells x).length = 6 := fun _ => rfl
    have hu : ∀ x : Int, (u64c x).length = 1 := fun _ => rfl
    go_enter Try.func4, Try.ntmps4
    go_upto_region 7 with (go_at_call 5; refine (live_any _).mono ?_; rintro e w1 ⟨rfl, hb1⟩)
    have hl1 := hl.later hb1
    have hw1 := hw.later hb1
    rw [hk]
    clear hk hl hw hn0
    go_wp2_with fail
    go_loopw [14, 55] (fun v i wr => ∃ j : Nat, j ≤ l.length ∧ i = .int .i64 j ∧ Own Ev.cells 38 6 wr w1.heap.size v (turned l k j) ∧ Below w1.heap.size w1 wr) (fun _ i _ => l.length - (intOf i).toNat)
    case atStart => exact ⟨0, Nat.zero_le _, rfl, Own.nil _ _, Below.refl _ _⟩
    case round =>
      obtain ⟨j, hj, rfl, hv, hb⟩ := hrel
      by_cases hjl : j < l.length
      · obtain ⟨q, hq, hql, hqe⟩ : ∃ q : Nat, ((k : Int) + l.length - j) % (l.length : Int) = (q : Int) ∧ q < l.length ∧ q = around l.length k j := by
          refine ⟨_, ?_, around_lt hkn hjl, rfl⟩
          rcases around_int (n := l.length) (k := k) (i := j) with h | h
          · exact h
          · omega
        have HQ := hide hqe
        clear hqe
        obtain ⟨a, oa, x, rfl, _, hx, hca⟩ := (hl1.below hb).at_ hql
        obtain ⟨a0, a1, a2, a3, a4, a5⟩ := Ev.at6 hca
        have H1 := hide (show turned l k (j + 1) = turned l k j ++ [x] by
          rw [turned_succ, ← HQ.out]
          have := mem_getD hql
          rw [hx] at this
          injection this with this
          rw [← this])
        have hlen := turned_length l k j
        have HL := hide hlen
        clear hca hx hlen
        have hv1 := hv.alloc (.cells #[.int .i64 x.item, .int .i64 x.try_, .int .i64 x.win, .int .i64 x.tick, .int .i64 x.addr, .int .u64 x.mask] 38)
        have hb2 := hb.alloc hb.size (.cells #[.int .i64 x.item, .int .i64 x.try_, .int .i64 x.win, .int .i64 x.tick, .int .i64 x.addr, .int .u64 x.mask] 38)
        have hr1 := Rd.lit wr x wr.heap.size rfl
        go_wp2_with (at_builtin; refine wpList_app ekEv _ rfl _ _ rfl w1.heap.size _ _ rfl hv1 _ _ _ _ [x] rfl hr1 (by have := HL.out; omega) (by have := hb2.size; exact this) ?_; intro v2 w2 hv2 hg2 _; have hb3 := hv1.app_below hb2 hb2.size hg2; rw [← H1.out] at hv2)
        go_roundw
        case rel => exact ⟨j + 1, by omega, by go_num, hv2, hb3⟩
        case measure => simp [intOf]; omega
      · have hjn : j = l.length := by omega
        subst hjn
        have hc0 := below_two hb1 hb hb1.size
        have hl2 := hl1.later hb
        have hw2 := hw1.later hb
        have hrp := hp.out
        obtain ⟨r, hr⟩ : ∃ r, r = turned l k l.length := ⟨_, rfl⟩
        rw [← hr] at hv hrp
        clear hr hb hl1 hw1 hp hjl
        have hrl := hrp.length_eq
        obtain ⟨A14, c14, rfl, k14⟩ := hv.val
        have HRL := hide hrl
        have HP := hide hrp
        have b14 := hv.lt
        have g14 := hv.ge
        obtain ⟨w2, hw2e⟩ : ∃ w2, w2 = wr := ⟨_, rfl⟩
        rw [← hw2e] at hv hc0 hl2 hw2 b14 ⊢
        clear hw2e hrl hrp
        go_upto_region 13 with (go_at_call 12; refine (strike_any A B l.length ca m cb l ws _ hl2 hw2 hnil).mono ?_; rintro e w3 ⟨v16, rfl, hv16, hb3⟩; rw [show strikeE l.length m = 0 by unfold strikeE; rw [if_neg (by omega), if_neg (by omega)]])
        have hl3 := hl2.later hb3
        have hw3 := hw2.later hb3
        have hc3 := below_two hc0 hb3 hc0.size
        have h14 := hv.below hb3
        have q14 := (h14.rd hi).2
        clear hb3 hl2 hw2 hc0 hv
        go_upto_region 14 with (go_at_call 12; refine (strike_any A14 B r.length c14 m cb r ws _ q14 hw3 hnil).mono ?_; rintro e w4 ⟨v18, rfl, hv18, hb4⟩; rw [show strikeE r.length m = 0 by have := HRL.out; unfold strikeE; rw [if_neg (by omega), if_neg (by omega)]])
        have hl4 := hl3.later hb4
        have hw4 := hw3.later hb4
        have hc4 := below_two hc3 hb4 hc3.size
        have h14b := h14.below hb4
        have h16 := hv16.below hb4
        clear hb4 hl3 hw3 hc3 h14 hv16 q14
        rw [← strikeV_perm HP.out.symm ws] at hv18
        go_upto_region 15 with (go_at_call 8; refine (sparse_any A l.length ca l _ hl4 HFit.out).mono ?_; rintro e w5 ⟨rfl, hb5⟩; rw [show chk l.length = 0 by unfold chk; rw [if_neg (by omega)]])
        have hl5 := hl4.later hb5
        have hw5 := hw4.later hb5
        have hc5 := below_two hc4 hb5 hc4.size
        have h14c := h14b.below hb5
        have h16b := h16.below hb5
        have h18 := hv18.below hb5
        have q14 := (h14c.rd hi).2
        clear hb5 hl4 hw4 hc4 h14b h16 hv18
        go_upto_region 16 with (go_at_call 8; refine (sparse_any A14 r.length c14 r _ q14 (fun x hx => HFit.out x (HP.out.subset hx))).mono ?_; rintro e w6 ⟨rfl, hb6⟩; rw [show chk r.length = 0 by have := HRL.out; unfold chk; rw [if_neg (by omega)], sparse_perm HP.out])
        have hl6 := hl5.later hb6
        have hw6 := hw5.later hb6
        have hc6 := below_two hc5 hb6 hc5.size
        have h14d := h14c.below hb6
        have h16c := h16b.below hb6
        have h18b := h18.below hb6
        clear hb6 hl5 hw5 hc5 h14c h16b h18 q14
        go_upto_region 17 with (go_at_call 10; refine (quiet_any A l.length ca l m _ hl6).mono ?_; rintro e w7 ⟨rfl, hb7⟩; rw [show chk l.length = 0 by unfold chk; rw [if_neg (by omega)]])
        have hl7 := hl6.later hb7
        have hw7 := hw6.later hb7
        have hc7 := below_two hc6 hb7 hc6.size
        have h14e := h14d.below hb7
        have h16d := h16c.below hb7
        have h18c := h18b.below hb7
        have q14 := (h14e.rd hi).2
        clear hb7 hl6 hw6 hc6 h14d h16c h18b
        go_upto_region 18 with (go_at_call 10; refine (quiet_any A14 r.length c14 r m _ q14).mono ?_; rintro e w8 ⟨rfl, hb8⟩; rw [show chk r.length = 0 by have := HRL.out; unfold chk; rw [if_neg (by omega)], quiet_perm HP.out])
        have hl8 := hl7.later hb8
        have hw8 := hw7.later hb8
        have hc8 := below_two hc7 hb8 hc7.size
        have h14f := h14e.below hb8
        have h16e := h16d.below hb8
        have h18d := h18c.below hb8
        clear hb8 hl7 hw7 hc7 h14e h16d h18c q14
        go_upto_region 19 with (go_at_call 6; refine (of_any A l.length ca l item try_ win _ hl8).mono ?_; rintro e w9 ⟨v28, r28, rfl, hv28, hb9, _, ha2⟩; rw [show chk l.length = 0 by unfold chk; rw [if_neg (by omega)]])
        have hl9 := hl8.later hb9
        have hw9 := hw8.later hb9
        have hc9 := below_two hc8 hb9 hc8.size
        have h14g := h14f.below hb9
        have h16f := h16e.below hb9
        have h18e := h18d.below hb9
        have q14 := (h14g.rd hi).2
        have HA := hide (ha2 (by omega))
        clear hb9 hl8 hw8 hc8 h14f h16e h18d ha2
        go_upto_region 20 with (go_at_call 6; refine (of_any A14 r.length c14 r item try_ win _ q14).mono ?_; rintro e w10 ⟨v30, r30, rfl, hv30, hb10, _, ha3⟩; rw [show chk r.length = 0 by have := HRL.out; unfold chk; rw [if_neg (by omega)]])
        have hc10 := below_two hc9 hb10 hc9.size
        have h16g := h16f.below hb10
        have h18f := h18e.below hb10
        have h28 := hv28.below hb10
        have HT := hide (Stable.ticks (ha3 (by have := HRL.out; omega)) HA.out (HP.out.filter _))
        have hr28 : r28.length ≤ 60 := by
          have h1 := HA.out.length
          have h2 := List.length_filter_le (Ev.mine item try_ win) l
          omega
        have hrr : r30.length = r28.length := by have := congrArg List.length HT.out; simpa using this
        clear hb10 hl9 hc9 h14g h16f h18e hv28 q14 ha3
        obtain ⟨A16, c16, rfl, k16⟩ := h16g.val
        obtain ⟨A18, c18, rfl, k18⟩ := h18f.val
        obtain ⟨A28, c28, rfl, k28⟩ := h28.val
        obtain ⟨A30, c30, rfl, k30⟩ := hv30.val
        have q28 := (h28.rd hi).2
        have q30 := (hv30.rd hi).2
        have q16 := (h16g.rd hu).2
        have q18 := (h18f.rd hu).2
        rw [hrr] at q30 k30 ⊢
        have hsl : (strikeV l ws).length ≤ 60 := by
          have h1 := strikeV_length l ws
          have h2 := hw9.1
          omega
        have HRR := hide hrr
        clear h16g h18f h28 hv30 hrr
        go_wp2_with fail
        go_loopw [163] (fun i wi => ∃ j : Nat, j ≤ r28.length ∧ i = .int .i64 j ∧ ∃ nd, wi = w10.drewN nd) (fun i _ => r28.length - (intOf i).toNat)
        case atStart => exact ⟨0, Nat.zero_le _, rfl, 0, rfl⟩
        case round =>
          obtain ⟨j, hj, rfl, nd, rfl⟩ := hrel
          by_cases hjl : j < r28.length
          · obtain ⟨a, oa, x, rfl, _, hx, hca⟩ := q28.at_ hjl
            obtain ⟨b, ob, y, rfl, _, hy, hcb⟩ := q30.at_ hjl
            obtain ⟨_, _, _, a3, _, _⟩ := Ev.at6 hca
            obtain ⟨_, _, _, b3, _, _⟩ := Ev.at6 hcb
            have hxy : y.tick = x.tick := by
              have h1 := congrArg (fun z => z[j]?) HT.out
              simp [hx, hy] at h1
              exact h1
            rw [hxy] at b3
            have hjl2 : (j : Int) < (r28.length : Int) := by omega
            clear hca hcb hx hy hxy
            go_wp2_with fail
            go_quiet (fail)
            go_wp2_with fail
            go_roundw
            case rel => exact ⟨j + 1, by omega, by go_num, _, rfl⟩
            case measure => simp [intOf]; omega
          · have hjl2 : ¬ (j : Int) < (r28.length : Int) := by omega
            go_wp2_with (go_at_call 15; refine (sameW_any A16 A18 _ _ c16 c18 (strikeV l ws) (strikeV l ws) (w10.drewN nd) q16 q18 (by omega)).mono ?_; rintro e wa ⟨rfl, nd2, rfl⟩; rw [show decide (strikeV l ws = strikeV l ws) = true from decide_eq_true rfl])
            go_ret
            exact ⟨rfl, below_drewN hc10 _⟩
end Go.Proofs.Ytbabdabdohljcaa
