/- slices.symMergeCmpFunc over events, where one of both stretches is one event long. -/
import Derived.Test.YtbabdabdohljcaaRot
namespace Go.Proofs.Ytbabdabdohljcaa
open Go.RowKit
theorem sorted_get {Y : List Ev} (h : Y.Pairwise (fun a b => a.tick ≤ b.tick)) {s t : Nat} {u v : Ev} (hs : Y[s]? = some u) (ht : Y[t]? = some v) (hst : s ≤ t) : u.tick ≤ v.tick := by
  rcases Nat.lt_or_ge s t with hlt | hge
  · obtain ⟨h1, rfl⟩ := List.getElem?_eq_some_iff.1 hs
    obtain ⟨h2, rfl⟩ := List.getElem?_eq_some_iff.1 ht
    exact List.pairwise_iff_getElem.1 h s t h1 h2 hlt
  · have : s = t := by omega
    subst this
    rw [hs] at ht
    injection ht with ht
    rw [ht]
    exact Int.le_refl _
theorem get_third {α : Type} (P X Y Q : List α) {t : Nat} (ht : t < Y.length) : (P ++ X ++ Y ++ Q)[P.length + X.length + t]? = Y[t]? := by
  have e : (P ++ X).length = P.length + X.length := by simp
  rw [List.append_assoc, List.getElem?_append_right (by omega), List.getElem?_append_left (by omega)]
  congr 1
  omega
theorem get_second {α : Type} (P X R : List α) {t : Nat} (ht : t < X.length) : (P ++ X ++ R)[P.length + t]? = X[t]? := by
  rw [List.append_assoc, List.getElem?_append_right (by omega), List.getElem?_append_left (by omega)]
  congr 1
  omega
/-- Halving, as the machine does it. -/
theorem half_u (i j : Nat) : ((i : Int) + (j : Int)) / 2 = ((i + j) / 2 : Nat) := by omega

/-- The search: what stands ahead of i is earlier than x, what stands from j on is not. -/
def Below1 (Y : List Ev) (x : Ev) (o i j : Nat) : Prop := (∀ t z, Y[t]? = some z → t + o < i → z.tick < x.tick) ∧ (∀ t z, Y[t]? = some z → j ≤ t + o → x.tick ≤ z.tick)
theorem Below1.up {Y : List Ev} {x y : Ev} {o i j h : Nat} (H : Below1 Y x o i j) (hs : Y.Pairwise (fun a b => a.tick ≤ b.tick)) (hy : Y[h]? = some y) (hlt : y.tick < x.tick) : Below1 Y x o (h + o + 1) j :=
  ⟨fun t z hz ht => by have := sorted_get hs hz hy (by omega); omega, H.2⟩
theorem Below1.down {Y : List Ev} {x y : Ev} {o i j h : Nat} (H : Below1 Y x o i j) (hs : Y.Pairwise (fun a b => a.tick ≤ b.tick)) (hy : Y[h]? = some y) (hle : x.tick ≤ y.tick) : Below1 Y x o i (h + o) :=
  ⟨H.1, fun t z hz ht => by have := sorted_get hs hy hz (by omega); omega⟩
/-- x on its way behind the first k of Y. -/
def Going (P : List Ev) (x : Ev) (Y Q : List Ev) (k : Nat) (cur : List Ev) : Prop := cur = P ++ (Y.take k ++ x :: Y.drop k) ++ Q
theorem Going.step {P Y Q cur : List Ev} {x y : Ev} {k : Nat} (h : Going P x Y Q k cur) (hy : Y[k]? = some y) :
    cur[P.length + k]? = some x ∧ cur[P.length + k + 1]? = some y ∧ Going P x Y Q (k + 1) ((cur.set (P.length + k) y).set (P.length + k + 1) x) := by
  have hyl := (List.getElem?_eq_some_iff.1 hy).1
  have dy : Y.drop k = y :: Y.drop (k + 1) := by
    rw [List.drop_eq_getElem_cons hyl]
    rw [List.getElem?_eq_getElem hyl] at hy
    injection hy with hy
    rw [hy]
  have ty : Y.take (k + 1) = Y.take k ++ [y] := by rw [List.take_add_one, hy]; rfl
  have e : cur = (P ++ Y.take k) ++ x :: [] ++ y :: (Y.drop (k + 1) ++ Q) := by rw [h, dy]; simp
  have l1 : (P ++ Y.take k).length = P.length + k := by simp; omega
  refine ⟨?_, ?_, ?_⟩
  · rw [e, ← l1, List.append_assoc]; exact at_mid _ _ _
  · have e2 : ((P ++ Y.take k) ++ x :: []).length = P.length + k + 1 := by simp; omega
    rw [e, ← e2]
    exact at_mid _ _ _
  · rw [e, ← l1]
    have := swap_far (P ++ Y.take k) [] (Y.drop (k + 1) ++ Q) x y
    simp only [List.length_nil, Nat.add_zero] at this
    rw [this]
    unfold Going
    rw [ty]
    simp
theorem Below1.stable {Y : List Ev} {x : Ev} {o i : Nat} (H : Below1 Y x o i i) (hs : Y.Pairwise (fun a b => a.tick ≤ b.tick)) (hoi : o ≤ i) (hi : i ≤ o + Y.length) : Stable ([x] ++ Y) (Y.take (i - o) ++ x :: Y.drop (i - o)) := by
  have h1 : ∀ z ∈ Y.take (i - o), z.tick < x.tick := by
    intro z hz
    obtain ⟨t, ht, e⟩ := List.getElem_of_mem hz
    have hz2 : Y[t]? = some z := by
      rw [← e, List.getElem_take, List.getElem?_eq_getElem]
    simp at ht
    exact H.1 t z hz2 (by omega)
  have h2 : ∀ z ∈ Y.drop (i - o), x.tick ≤ z.tick := by
    intro z hz
    obtain ⟨t, ht, e⟩ := List.getElem_of_mem hz
    have hz2 : Y[i - o + t]? = some z := by
      rw [← e, List.getElem_drop, List.getElem?_eq_getElem]
    exact H.2 _ z hz2 (by omega)
  have hp := hs
  rw [← List.take_append_drop (i - o) Y] at hp
  have hp := List.pairwise_append.1 hp
  refine ⟨List.pairwise_append.2 ⟨hp.1, List.pairwise_cons.2 ⟨h2, hp.2.1⟩, fun a ha b hb => ?_⟩, ?_⟩
  · rcases List.mem_cons.1 hb with e | e
    · rw [e]; have := h1 a ha; omega
    · exact hp.2.2 a ha b e
  · have ht : Same ([x] ++ Y.take (i - o)) (Y.take (i - o) ++ [x]) := Same.turn (fun a ha b hb => by simp at ha; subst ha; exact h1 b hb)
    have := Same.append ht (Same.refl (Y.drop (i - o)))
    rw [List.append_assoc, List.take_append_drop, List.append_assoc] at this
    exact this

set_option maxRecDepth 100000 in
set_option maxHeartbeats 1000000 in
theorem symA_any (B g n cap : Nat) (P Y Q : List Ev) (x : Ev) (a m b : Int) (w : World) (hown : OwnE w B g n cap (P ++ [x] ++ Y ++ Q)) (ha : a = P.length) (hm : m = P.length + 1) (hb : b = P.length + 1 + Y.length) (hY : Y.Pairwise (fun a b => a.tick ≤ b.tick)) (hn : n < 1000000) :
    Calls Try.prog 31 #[.slice (some ⟨g, 0, none⟩) n cap, .int .i64 a, .int .i64 m, .int .i64 b, .func (.func 19) #[] #[]] w
      fun e w' => e = .returned (.tuple #[]) ∧ ∃ Z, OwnE w' B g n cap (P ++ Z ++ Q) ∧ w.grownBy w' (some g) ∧ Stable ([x] ++ Y) Z := by
  obtain ⟨pa, hpa⟩ : ∃ pa, pa = P.length := ⟨_, rfl⟩
  obtain ⟨pb, hpb⟩ : ∃ pb, pb = P.length + 1 + Y.length := ⟨_, rfl⟩
  obtain rfl : a = (pa : Int) := by omega
  obtain rfl : b = (pb : Int) := by omega
  obtain rfl : m = (pa : Int) + 1 := by omega
  have hln := hown.len
  have hle : pb ≤ n := by rw [hln, hpb]; simp; omega
  have hab : pa + 1 ≤ pb := by omega
  have HH := hide (And.intro hpa (And.intro hpb hln))
  have HY := hide hY
  clear hpa hpb hln ha hb hm hY
  have hq : ((pa : Int) + 1 - (pa : Int) == 1) = true := by simp; omega
  go_enter Try.func31, Try.ntmps31
  go_wp2_with fail
  go_loopw [10, 11] (fun i j wr => ∃ (s t : Nat), pa + 1 ≤ s ∧ s ≤ t ∧ t ≤ pb ∧ i = .int .i64 s ∧ j = .int .i64 t ∧ OwnE wr B g n cap (P ++ [x] ++ Y ++ Q) ∧ w.grownBy wr (some g) ∧ Below1 Y x (pa + 1) s t) (fun i j _ => (intOf j).toNat - (intOf i).toNat)
  case atStart =>
    refine ⟨pa + 1, pb, Nat.le_refl _, hab, Nat.le_refl _, by go_num, rfl, hown, World.grownBy.refl _ _, fun t z _ h => by omega, fun t z hz h => ?_⟩
    have := (List.getElem?_eq_some_iff.1 hz).1
    have := HH.out
    omega
  case round =>
    obtain ⟨s, t, hs1, hst, ht1, rfl, rfl, hcur, hg, hB⟩ := hrel
    have HB := hide hB
    clear hB
    by_cases hlt : s < t
    · obtain ⟨h, hh⟩ : ∃ h, h = (s + t) / 2 := ⟨_, rfl⟩
      obtain ⟨y, hy⟩ : ∃ y, Y[h - (pa + 1)]? = some y := ⟨Y[h - (pa + 1)]'(by have := HH.out; omega), List.getElem?_eq_getElem _⟩
      have hLy : (P ++ [x] ++ Y ++ Q)[h]? = some y := by
        have h1 := HH.out
        rw [← hy, ← get_third P [x] Y Q (by omega)]
        congr 1
        simp; omega
      have hLx : (P ++ [x] ++ Y ++ Q)[pa]? = some x := by
        have h1 := HH.out
        rw [h1.1, List.append_assoc, List.append_assoc]
        exact at_mid _ _ _
      obtain ⟨a0, a1, a2, a3, a4, a5⟩ := hcur.at6 hLx
      obtain ⟨b0, b1, b2, b3, b4, b5⟩ := hcur.at6 hLy
      have hh1 : s ≤ h := by omega
      have hh2 : h < t := by omega
      have hhn : (h : Int) < (n : Int) := by omega
      have hpn : (pa : Int) < (n : Int) := by omega
      have hhn' : h < n := by omega
      have hpn' : pa < n := by omega
      have eh : ((s : Int) + (t : Int)) / 2 = (h : Int) := by omega
      have Eh := hide eh
      have Hh := hide hh
      have Hy := hide hy
      clear hh hy hLy hLx eh
      go_wp2_with fail
      rw [Eh.out]
      go_still_tail 9, (by kernel_rfl)
      go_wp2_with (go_at_call 19; refine (of1_any _ _ _ _ _ _ _ _ _ _ _ _ _).mono ?_; rintro e w2 ⟨rfl, hb2⟩)
      all_goals
        have hc2 : OwnE w2 B g n cap (P ++ [x] ++ Y ++ Q) := (hcur.drewN 1).below hb2
        have hg2 : w.grownBy w2 (some g) := (only_drewN hg 1).trans (only_of_below hb2 _)
      · have hltk : y.tick < x.tick := cmpI_lt (by assumption)
        have hnew := HB.out.up HY.out Hy.out hltk
        go_roundw
        case rel => exact ⟨h + 1, t, by omega, by omega, by omega, by go_num, rfl, hc2, hg2, by rw [show h - (pa + 1) + (pa + 1) + 1 = h + 1 by omega] at hnew; exact hnew⟩
        case measure => simp [intOf]; omega
      · have hge : x.tick ≤ y.tick := cmpI_ge (by assumption)
        have hnew := HB.out.down HY.out Hy.out hge
        go_roundw
        case rel => exact ⟨s, h, by omega, by omega, by omega, rfl, rfl, hc2, hg2, by rw [show h - (pa + 1) + (pa + 1) = h by omega] at hnew; exact hnew⟩
        case measure => simp [intOf]; omega
    · have hts : t = s := by omega
      subst hts
      have hstab := HB.out.stable HY.out hs1 (by have := HH.out; omega)
      have HS := hide hstab
      clear hstab
      obtain ⟨wo, rfl⟩ : ∃ wo : World, wo = wr := ⟨_, rfl⟩
      go_wp2_with fail
      go_loopw [13] (fun i wr => ∃ (q : Nat) (cur : List Ev), pa + q + 1 ≤ t ∧ i = .int .i64 ((pa : Int) + (q : Int)) ∧ OwnE wr B g n cap cur ∧ w.grownBy wr (some g) ∧ Going P x Y Q q cur) (fun i _ => t - (intOf i).toNat)
      case atStart => exact ⟨0, _, by omega, by go_num, hcur, hg, by unfold Going; simp⟩
      case round =>
        obtain ⟨q, cur, hqt, rfl, hcu, hgu, hG⟩ := hrel
        have ht2 : (0 : Int) ≤ (t : Int) - 1 := by omega
        by_cases hlt2 : pa + q + 1 < t
        · obtain ⟨y, hy⟩ : ∃ y, Y[q]? = some y := ⟨Y[q]'(by have := HH.out; omega), List.getElem?_eq_getElem _⟩
          obtain ⟨hcx, hcy, hG2⟩ := hG.step hy
          have hpa := HH.out.1
          rw [← hpa] at hcx hcy hG2
          obtain ⟨a0, a1, a2, a3, a4, a5⟩ := hcu.at6 hcx
          obtain ⟨b0, b1, b2, b3, b4, b5⟩ := hcu.at6 hcy
          have hfr := hcu.free
          have hnew := OwnE.put2 hcu (List.getElem?_eq_some_iff.1 hcx).1 (List.getElem?_eq_some_iff.1 hcy).1 y x
          have hgr2 := hgu.trans (put2_grown wr g (pa + q) (pa + q + 1) y x)
          have HG := hide hG2
          clear hpa hcx hcy hG hG2 hy
          have w1 : IntKind.i64.wrap ((pa : Int) + (q : Int) + 1) = (pa : Int) + (q : Int) + 1 := IntWalk.i64_in _ (by omega)
          have n1 : (0 : Int) ≤ (pa : Int) + (q : Int) := by omega
          have n2 : (0 : Int) ≤ (pa : Int) + (q : Int) + 1 := by omega
          have m1 : (pa : Int) + (q : Int) < (n : Int) := by omega
          have m2 : (pa : Int) + (q : Int) + 1 < (n : Int) := by omega
          have t1 : ((pa : Int) + (q : Int)).toNat = pa + q := by omega
          have t2 : ((pa : Int) + (q : Int) + 1).toNat = pa + q + 1 := by omega
          go_wp2_with fail
          go_region
          go_wp2_with fail
          go_roundw
          case rel => exact ⟨q + 1, _, by omega, by congr 1 <;> omega, hnew, hgr2, HG.out⟩
          case measure => simp [intOf] <;> omega
        · have hqq : q = t - (pa + 1) := by omega
          have HG := hide hG
          have HQ := hide hqq
          clear hG hqq
          go_wp2_with fail
          refine bodyPost_ret (results_none rfl _ _ _) rfl ?_
          refine ⟨rfl, _, ?_, hgu, HS.out⟩
          have := HG.out
          unfold Going at this
          rw [HQ.out] at this
          rw [← this]
          exact hcu
end Go.Proofs.Ytbabdabdohljcaa
