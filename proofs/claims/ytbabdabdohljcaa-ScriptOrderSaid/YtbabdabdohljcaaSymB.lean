/- slices.symMergeCmpFunc over events, where the second stretch is one event long. -/
import Derived.Test.YtbabdabdohljcaaSymA
namespace Go.Proofs.Ytbabdabdohljcaa
open Go.RowKit
/-- The search: what stands ahead of i is not later than y, what stands from j on is. -/
def Above1 (X : List Ev) (y : Ev) (o i j : Nat) : Prop := (∀ t z, X[t]? = some z → t + o < i → z.tick ≤ y.tick) ∧ (∀ t z, X[t]? = some z → j ≤ t + o → y.tick < z.tick)
theorem Above1.up {X : List Ev} {x y : Ev} {o i j h : Nat} (H : Above1 X y o i j) (hs : X.Pairwise (fun a b => a.tick ≤ b.tick)) (hx : X[h]? = some x) (hle : x.tick ≤ y.tick) : Above1 X y o (h + o + 1) j :=
  ⟨fun t z hz ht => by have := sorted_get hs hz hx (by omega); omega, H.2⟩
theorem Above1.down {X : List Ev} {x y : Ev} {o i j h : Nat} (H : Above1 X y o i j) (hs : X.Pairwise (fun a b => a.tick ≤ b.tick)) (hx : X[h]? = some x) (hlt : y.tick < x.tick) : Above1 X y o i (h + o) :=
  ⟨H.1, fun t z hz ht => by have := sorted_get hs hx hz (by omega); omega⟩
theorem Going.back {P Y Q cur : List Ev} {x y : Ev} {k : Nat} (h : Going P x Y Q (k + 1) cur) (hy : Y[k]? = some y) :
    cur[P.length + k]? = some y ∧ cur[P.length + k + 1]? = some x ∧ Going P x Y Q k ((cur.set (P.length + k + 1) y).set (P.length + k) x) := by
  have hyl := (List.getElem?_eq_some_iff.1 hy).1
  have dy : Y.drop k = y :: Y.drop (k + 1) := by
    rw [List.drop_eq_getElem_cons hyl]
    rw [List.getElem?_eq_getElem hyl] at hy
    injection hy with hy
    rw [hy]
  have ty : Y.take (k + 1) = Y.take k ++ [y] := by rw [List.take_add_one, hy]; rfl
  have e : cur = (P ++ Y.take k) ++ y :: x :: (Y.drop (k + 1) ++ Q) := by rw [h, ty]; simp
  have l1 : (P ++ Y.take k).length = P.length + k := by simp; omega
  refine ⟨?_, ?_, ?_⟩
  · rw [e, ← l1]; exact at_mid _ _ _
  · have e2 : ((P ++ Y.take k) ++ [y]).length = P.length + k + 1 := by simp; omega
    have e3 : cur = ((P ++ Y.take k) ++ [y]) ++ x :: (Y.drop (k + 1) ++ Q) := by rw [e]; simp
    rw [e3, ← e2]
    exact at_mid _ _ _
  · rw [e, ← l1, swap_at]
    unfold Going
    rw [dy]
    simp
theorem Above1.stable {X : List Ev} {y : Ev} {o i : Nat} (H : Above1 X y o i i) (hs : X.Pairwise (fun a b => a.tick ≤ b.tick)) (hoi : o ≤ i) : Stable (X ++ [y]) (X.take (i - o) ++ y :: X.drop (i - o)) := by
  have h1 : ∀ z ∈ X.take (i - o), z.tick ≤ y.tick := by
    intro z hz
    obtain ⟨t, ht, e⟩ := List.getElem_of_mem hz
    have hz2 : X[t]? = some z := by
      rw [← e, List.getElem_take, List.getElem?_eq_getElem]
    simp at ht
    exact H.1 t z hz2 (by omega)
  have h2 : ∀ z ∈ X.drop (i - o), y.tick < z.tick := by
    intro z hz
    obtain ⟨t, ht, e⟩ := List.getElem_of_mem hz
    have hz2 : X[i - o + t]? = some z := by
      rw [← e, List.getElem_drop, List.getElem?_eq_getElem]
    exact H.2 _ z hz2 (by omega)
  have hst : Stable X (X.take (i - o) ++ X.drop (i - o)) := by rw [List.take_append_drop]; exact ⟨hs, fun _ => rfl⟩
  exact Stable.insert hst h2 h1

set_option maxRecDepth 100000 in
set_option maxHeartbeats 1000000 in
theorem symB_any (B g n cap : Nat) (P X Q : List Ev) (y : Ev) (a m b : Int) (w : World) (hown : OwnE w B g n cap (P ++ X ++ [y] ++ Q)) (ha : a = P.length) (hm : m = P.length + X.length) (hb : b = P.length + X.length + 1) (hX : X.Pairwise (fun a b => a.tick ≤ b.tick)) (hX1 : X.length ≠ 1) (hn : n < 1000000) :
    Calls Try.prog 31 #[.slice (some ⟨g, 0, none⟩) n cap, .int .i64 a, .int .i64 m, .int .i64 b, .func (.func 19) #[] #[]] w
      fun e w' => e = .returned (.tuple #[]) ∧ ∃ Z, OwnE w' B g n cap (P ++ Z ++ Q) ∧ w.grownBy w' (some g) ∧ Stable (X ++ [y]) Z := by
  obtain ⟨pa, hpa⟩ : ∃ pa, pa = P.length := ⟨_, rfl⟩
  obtain ⟨pm, hpm⟩ : ∃ pm, pm = P.length + X.length := ⟨_, rfl⟩
  obtain rfl : a = (pa : Int) := by omega
  obtain rfl : b = (pm : Int) + 1 := by omega
  obtain rfl : m = (pm : Int) := by omega
  have hln := hown.len
  have hle : pm + 1 ≤ n := by rw [hln, hpm]; simp; omega
  have hab : pa ≤ pm := by omega
  have hq : ((pm : Int) - (pa : Int) == 1) = false := by simp; omega
  have hq2 : ((pm : Int) + 1 - (pm : Int) == 1) = true := by simp; omega
  have HH := hide (And.intro hpa (And.intro hpm hln))
  have HY := hide hX
  clear hpa hpm hln ha hb hm hX hX1
  go_enter Try.func31, Try.ntmps31
  go_wp2_with fail
  go_loopw [14, 15] (fun i j wr => ∃ (s t : Nat), pa ≤ s ∧ s ≤ t ∧ t ≤ pm ∧ i = .int .i64 s ∧ j = .int .i64 t ∧ OwnE wr B g n cap (P ++ X ++ [y] ++ Q) ∧ w.grownBy wr (some g) ∧ Above1 X y pa s t) (fun i j _ => (intOf j).toNat - (intOf i).toNat)
  case atStart =>
    refine ⟨pa, pm, Nat.le_refl _, hab, Nat.le_refl _, rfl, rfl, hown, World.grownBy.refl _ _, fun t z _ h => by omega, fun t z hz h => ?_⟩
    have := (List.getElem?_eq_some_iff.1 hz).1
    have := HH.out
    omega
  case round =>
    obtain ⟨s, t, hs1, hst, ht1, rfl, rfl, hcur, hg, hB⟩ := hrel
    have HB := hide hB
    clear hB
    by_cases hlt : s < t
    · obtain ⟨h, hh⟩ : ∃ h, h = (s + t) / 2 := ⟨_, rfl⟩
      obtain ⟨x, hx⟩ : ∃ x, X[h - pa]? = some x := ⟨X[h - pa]'(by have := HH.out; omega), List.getElem?_eq_getElem _⟩
      have hLx : (P ++ X ++ [y] ++ Q)[h]? = some x := by
        have h1 := HH.out
        rw [← hx, List.append_assoc (P ++ X), ← get_second P X ([y] ++ Q) (by omega)]
        congr 1
        omega
      have hLy : (P ++ X ++ [y] ++ Q)[pm]? = some y := by
        have h1 := HH.out
        have e : (P ++ X).length = pm := by simp; omega
        rw [← e, List.append_assoc (P ++ X)]
        exact at_mid _ _ _
      obtain ⟨a0, a1, a2, a3, a4, a5⟩ := hcur.at6 hLx
      obtain ⟨b0, b1, b2, b3, b4, b5⟩ := hcur.at6 hLy
      have hh1 : s ≤ h := by omega
      have hh2 : h < t := by omega
      have hhn : (h : Int) < (n : Int) := by omega
      have hpn : (pm : Int) < (n : Int) := by omega
      have hhn' : h < n := by omega
      have hpn' : pm < n := by omega
      have eh : ((s : Int) + (t : Int)) / 2 = (h : Int) := by omega
      have Eh := hide eh
      have Hx := hide hx
      clear hh hx hLy hLx eh
      go_wp2_with fail
      rw [Eh.out]
      go_still_tail 9, (by kernel_rfl)
      go_wp2_with (go_at_call 19; refine (of1_any _ _ _ _ _ _ _ _ _ _ _ _ _).mono ?_; rintro e w2 ⟨rfl, hb2⟩)
      all_goals
        have hc2 : OwnE w2 B g n cap (P ++ X ++ [y] ++ Q) := (hcur.drewN 1).below hb2
        have hg2 : w.grownBy w2 (some g) := (only_drewN hg 1).trans (only_of_below hb2 _)
      · have hge : x.tick ≤ y.tick := cmpI_ge (by have h9 : (!decide (cmpI y.tick x.tick < 0)) = true := by assumption
                                                  simpa using h9)
        have hnew := HB.out.up HY.out Hx.out hge
        go_roundw
        case rel => exact ⟨h + 1, t, by omega, by omega, by omega, by go_num, rfl, hc2, hg2, by rw [show h - pa + pa + 1 = h + 1 by omega] at hnew; exact hnew⟩
        case measure => simp [intOf]; omega
      · have hltk : y.tick < x.tick := cmpI_lt (by have h9 : (!decide (cmpI y.tick x.tick < 0)) = false := by assumption
                                                   simpa using h9)
        have hnew := HB.out.down HY.out Hx.out hltk
        go_roundw
        case rel => exact ⟨s, h, by omega, by omega, by omega, rfl, rfl, hc2, hg2, by rw [show h - pa + pa = h by omega] at hnew; exact hnew⟩
        case measure => simp [intOf]; omega
    · have hts : t = s := by omega
      subst hts
      have hstab := HB.out.stable HY.out hs1
      have HS := hide hstab
      clear hstab
      obtain ⟨wo, rfl⟩ : ∃ wo : World, wo = wr := ⟨_, rfl⟩
      go_wp2_with fail
      go_loopw [17] (fun i wr => ∃ (q : Nat) (cur : List Ev), t ≤ pa + q ∧ pa + q ≤ pm ∧ i = .int .i64 ((pa : Int) + (q : Int)) ∧ OwnE wr B g n cap cur ∧ w.grownBy wr (some g) ∧ Going P y X Q q cur) (fun i _ => (intOf i).toNat)
      case atStart =>
        refine ⟨pm - pa, _, by omega, by omega, by congr 1; omega, hcur, hg, ?_⟩
        unfold Going
        have h1 := HH.out
        rw [List.take_of_length_le (by omega), List.drop_of_length_le (by omega)]
        simp
      case round =>
        obtain ⟨q, cur, hqt, hqm, rfl, hcu, hgu, hG⟩ := hrel
        by_cases hlt2 : t < pa + q
        · obtain ⟨q, rfl⟩ : ∃ q', q = q' + 1 := ⟨q - 1, by omega⟩
          obtain ⟨x, hx⟩ : ∃ x, X[q]? = some x := ⟨X[q]'(by have := HH.out; omega), List.getElem?_eq_getElem _⟩
          obtain ⟨hcx, hcy, hG2⟩ := hG.back hx
          have hpa := HH.out.1
          rw [← hpa] at hcx hcy hG2
          obtain ⟨a0, a1, a2, a3, a4, a5⟩ := hcu.at6 hcx
          obtain ⟨b0, b1, b2, b3, b4, b5⟩ := hcu.at6 hcy
          have hfr := hcu.free
          have hnew := OwnE.put2 hcu (List.getElem?_eq_some_iff.1 hcy).1 (List.getElem?_eq_some_iff.1 hcx).1 x y
          have hgr2 := hgu.trans (put2_grown wr g (pa + q + 1) (pa + q) x y)
          have HG := hide hG2
          clear hpa hcx hcy hG hG2 hx
          have n1 : (0 : Int) ≤ (pa : Int) + (q : Int) := by omega
          have n2 : (0 : Int) ≤ (pa : Int) + (q : Int) + 1 := by omega
          have m1 : (pa : Int) + (q : Int) < (n : Int) := by omega
          have m2 : (pa : Int) + (q : Int) + 1 < (n : Int) := by omega
          have w1 : IntKind.i64.wrap ((pa : Int) + (q : Int)) = (pa : Int) + (q : Int) := IntWalk.i64_in _ (by omega)
          have t1 : ((pa : Int) + (q : Int)).toNat = pa + q := by omega
          have t2 : ((pa : Int) + (q : Int) + 1).toNat = pa + q + 1 := by omega
          rw [show (pa : Int) + ((q + 1 : Nat) : Int) = (pa : Int) + (q : Int) + 1 by omega]
          go_wp2_with fail
          go_region
          go_wp2_with fail
          go_roundw
          case rel => exact ⟨q, _, by omega, by omega, rfl, hnew, hgr2, HG.out⟩
          case measure => simp [intOf] <;> omega
        · have hqq : q = t - pa := by omega
          have HG := hide hG
          have HQ := hide hqq
          clear hG hqq
          go_wp2_with fail
          refine bodyPost_ret (results_none rfl _ _ _) rfl ?_
          refine ⟨rfl, _, ?_, hgu, HS.out⟩
          have := HG.out
          unfold Going at this
          rw [HQ.out] at this
          rw [← this]
          exact hcu
end Go.Proofs.Ytbabdabdohljcaa
