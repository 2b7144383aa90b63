/- slices.symMergeCmpFunc over events: two sorted stretches are merged in stable order. -/
import Derived.Test.YtbabdabdohljcaaSymB
import Derived.Deep.DeepCutAuto
namespace Go.Proofs.Ytbabdabdohljcaa
open Go.RowKit
/-- What the search keeps: up to s what stands in X is not later than its mate in Y; from r on it is. -/
def Mates (X Y : List Ev) (a p lo s r hi : Nat) : Prop := (∀ c u v, lo ≤ c → c < s → X[c - a]? = some u → Y[p - c]? = some v → u.tick ≤ v.tick) ∧ (∀ c u v, r ≤ c → c < hi → X[c - a]? = some u → Y[p - c]? = some v → v.tick < u.tick)
theorem Mates.up {X Y : List Ev} {a p lo s r hi c : Nat} {x y : Ev} (H : Mates X Y a p lo s r hi) (hX : X.Pairwise (fun a b => a.tick ≤ b.tick)) (hY : Y.Pairwise (fun a b => a.tick ≤ b.tick)) (hx : X[c - a]? = some x) (hy : Y[p - c]? = some y) (hle : x.tick ≤ y.tick) : Mates X Y a p lo (c + 1) r hi :=
  ⟨fun c' u v _ h2 hu hv => by have h3 := sorted_get hX hu hx (by omega); have h4 := sorted_get hY hy hv (by omega); omega, H.2⟩
theorem Mates.down {X Y : List Ev} {a p lo s r hi c : Nat} {x y : Ev} (H : Mates X Y a p lo s r hi) (hX : X.Pairwise (fun a b => a.tick ≤ b.tick)) (hY : Y.Pairwise (fun a b => a.tick ≤ b.tick)) (hx : X[c - a]? = some x) (hy : Y[p - c]? = some y) (hlt : y.tick < x.tick) : Mates X Y a p lo s c hi :=
  ⟨H.1, fun c' u v h1 _ hu hv => by have h3 := sorted_get hX hx hu (by omega); have h4 := sorted_get hY hv hy (by omega); omega⟩
/-- What the cut comes to: X1 X2 and Y1 Y2, with X1 and Y1 not behind X2 and Y2. -/
def Cutting (X Y : List Ev) (k e : Nat) (X1 X2 Y1 Y2 : List Ev) : Prop := X = X1 ++ X2 ∧ Y = Y1 ++ Y2 ∧ X1.length = k ∧ Y1.length = e ∧ (∀ u ∈ X2, ∀ v ∈ Y1, v.tick < u.tick) ∧ (∀ u ∈ X1, ∀ v ∈ Y2, u.tick ≤ v.tick)
theorem Mates.cutting {X Y : List Ev} {a m b mid lo hi s : Nat} (H : Mates X Y a (mid - 1) lo s s hi) (hX : X.Pairwise (fun a b => a.tick ≤ b.tick)) (hY : Y.Pairwise (fun a b => a.tick ≤ b.tick)) (hm : m = a + X.length) (hb : b = m + Y.length)
    (hx : 2 ≤ X.length) (hy : 2 ≤ Y.length) (hmid : mid = (a + b) / 2) (hlo : lo ≤ s) (hhi : s ≤ hi) (hcase : m > mid ∧ lo = mid + m - b ∧ hi = mid ∨ m ≤ mid ∧ lo = a ∧ hi = m) : ∃ X1 X2 Y1 Y2, Cutting X Y (s - a) (mid - s) X1 X2 Y1 Y2 := by
  have hsa : a ≤ s := by omega
  have hsm : s ≤ m := by omega
  have hmid2 : mid - s ≤ Y.length := by omega
  have hsmid : s ≤ mid := by omega
  obtain ⟨X1, X2, e1, l1, l1'⟩ := split_at X (k := s - a) (by omega)
  obtain ⟨Y1, Y2, e2, l2, l2'⟩ := split_at Y (k := mid - s) hmid2
  refine ⟨X1, X2, Y1, Y2, e1, e2, l1, l2, fun u hu v hv => ?_, fun u hu v hv => ?_⟩
  · obtain ⟨i, hi1, rfl⟩ := List.getElem_of_mem hu
    obtain ⟨j, hj1, rfl⟩ := List.getElem_of_mem hv
    have hXi : X[s - a + i]? = some X2[i] := by
      rw [e1, List.getElem?_append_right (by omega), List.getElem?_eq_getElem (by omega)]
      congr 2; omega
    have hYj : Y[j]? = some Y1[j] := by
      rw [e2, List.getElem?_append_left (by omega), List.getElem?_eq_getElem (by omega)]
    have hlt : s < hi := by omega
    obtain ⟨u0, hu0⟩ : ∃ u0, X[s - a]? = some u0 := ⟨X[s - a]'(by omega), List.getElem?_eq_getElem _⟩
    obtain ⟨v0, hv0⟩ : ∃ v0, Y[mid - 1 - s]? = some v0 := ⟨Y[mid - 1 - s]'(by omega), List.getElem?_eq_getElem _⟩
    have h0 := H.2 s u0 v0 (Nat.le_refl _) hlt hu0 hv0
    have h1 := sorted_get hX hu0 hXi (by omega)
    have h2 := sorted_get hY hYj hv0 (by omega)
    omega
  · obtain ⟨i, hi1, rfl⟩ := List.getElem_of_mem hu
    obtain ⟨j, hj1, rfl⟩ := List.getElem_of_mem hv
    have hXi : X[i]? = some X1[i] := by
      rw [e1, List.getElem?_append_left (by omega), List.getElem?_eq_getElem (by omega)]
    have hYj : Y[mid - s + j]? = some Y2[j] := by
      rw [e2, List.getElem?_append_right (by omega), List.getElem?_eq_getElem (by omega)]
      congr 2; omega
    have hlt : lo < s := by omega
    obtain ⟨u0, hu0⟩ : ∃ u0, X[s - 1 - a]? = some u0 := ⟨X[s - 1 - a]'(by omega), List.getElem?_eq_getElem _⟩
    obtain ⟨v0, hv0⟩ : ∃ v0, Y[mid - 1 - (s - 1)]? = some v0 := ⟨Y[mid - 1 - (s - 1)]'(by omega), List.getElem?_eq_getElem _⟩
    have h0 := H.1 (s - 1) u0 v0 (by omega) (by omega) hu0 hv0
    have h1 := sorted_get hX hXi hu0 (by omega)
    have h2 := sorted_get hY hv0 hYj (by omega)
    omega
theorem Same.mem {x y : List Ev} (h : Same x y) {z : Ev} (hz : z ∈ y) : z ∈ x := by
  have : z ∈ y.filter (fun e => e.tick == z.tick) := by simp [hz]
  rw [h z.tick] at this
  exact (List.mem_filter.1 this).1
theorem Cutting.stable {X Y X1 X2 Y1 Y2 Z1 Z2 : List Ev} {k e : Nat} (H : Cutting X Y k e X1 X2 Y1 Y2) (hX : X.Pairwise (fun a b => a.tick ≤ b.tick)) (hY : Y.Pairwise (fun a b => a.tick ≤ b.tick)) (h1 : Stable (X1 ++ Y1) Z1) (h2 : Stable (X2 ++ Y2) Z2) : Stable (X ++ Y) (Z1 ++ Z2) := by
  obtain ⟨rfl, rfl, _, _, hi, hii⟩ := H
  have pX := List.pairwise_append.1 hX
  have pY := List.pairwise_append.1 hY
  refine ⟨List.pairwise_append.2 ⟨h1.1, h2.1, fun u hu v hv => ?_⟩, ?_⟩
  · have hu' := Same.mem h1.2 hu
    have hv' := Same.mem h2.2 hv
    rcases List.mem_append.1 hu' with a | a <;> rcases List.mem_append.1 hv' with b | b
    · exact pX.2.2 u a v b
    · exact hii u a v b
    · exact Int.le_of_lt (hi v b u a)
    · exact pY.2.2 u a v b
  · have t1 : Same (X2 ++ Y1) (Y1 ++ X2) := Same.turn hi
    have t2 := Same.append (Same.append (Same.refl X1) t1) (Same.refl Y2)
    have t3 : Same (X1 ++ X2 ++ (Y1 ++ Y2)) (X1 ++ Y1 ++ (X2 ++ Y2)) := by simpa using t2
    exact t3.trans (Same.append h1.2 h2.2)
theorem Cutting.sides {X Y X1 X2 Y1 Y2 : List Ev} {k e : Nat} (H : Cutting X Y k e X1 X2 Y1 Y2) (hX : X.Pairwise (fun a b => a.tick ≤ b.tick)) (hY : Y.Pairwise (fun a b => a.tick ≤ b.tick)) :
    X1.Pairwise (fun a b => a.tick ≤ b.tick) ∧ X2.Pairwise (fun a b => a.tick ≤ b.tick) ∧ Y1.Pairwise (fun a b => a.tick ≤ b.tick) ∧ Y2.Pairwise (fun a b => a.tick ≤ b.tick) := by
  obtain ⟨rfl, rfl, _⟩ := H
  have pX := List.pairwise_append.1 hX
  have pY := List.pairwise_append.1 hY
  exact ⟨pX.1, pX.2.1, pY.1, pY.2.1⟩
theorem stable_side {X Y : List Ev} (hX : X.Pairwise (fun a b => a.tick ≤ b.tick)) (hY : Y.Pairwise (fun a b => a.tick ≤ b.tick)) (h : X.length = 0 ∨ Y.length = 0) : Stable (X ++ Y) (X ++ Y) := by
  refine ⟨?_, fun _ => rfl⟩
  rcases h with h | h
  · rw [List.eq_nil_of_length_eq_zero h]; exact hY
  · rw [List.eq_nil_of_length_eq_zero h, List.append_nil]; exact hX
/-- The statement for stretches of together at most d events. -/
def SymSaid (d : Nat) : Prop := ∀ (B g n cap : Nat) (P X Y Q : List Ev) (a m b : Int) (w : World), OwnE w B g n cap (P ++ X ++ Y ++ Q) → a = P.length → m = P.length + X.length → b = P.length + X.length + Y.length →
    X.Pairwise (fun a b => a.tick ≤ b.tick) → Y.Pairwise (fun a b => a.tick ≤ b.tick) → 0 < X.length → 0 < Y.length → n < 1000000 → X.length + Y.length ≤ d →
    Calls Try.prog 31 #[.slice (some ⟨g, 0, none⟩) n cap, .int .i64 a, .int .i64 m, .int .i64 b, .func (.func 19) #[] #[]] w
      fun e w' => e = .returned (.tuple #[]) ∧ ∃ Z, OwnE w' B g n cap (P ++ Z ++ Q) ∧ w.grownBy w' (some g) ∧ Stable (X ++ Y) Z
set_option maxRecDepth 100000 in
set_option maxHeartbeats 8000000 in
theorem symC_any (d : Nat) (ih : SymSaid d) (B g n cap : Nat) (P X Y Q : List Ev) (a m b : Int) (w : World) (hown : OwnE w B g n cap (P ++ X ++ Y ++ Q)) (ha : a = P.length) (hm : m = P.length + X.length) (hb : b = P.length + X.length + Y.length)
    (hX : X.Pairwise (fun a b => a.tick ≤ b.tick)) (hY : Y.Pairwise (fun a b => a.tick ≤ b.tick)) (hx : 2 ≤ X.length) (hy : 2 ≤ Y.length) (hn : n < 1000000) (hd : X.length + Y.length ≤ d + 1) :
    Calls Try.prog 31 #[.slice (some ⟨g, 0, none⟩) n cap, .int .i64 a, .int .i64 m, .int .i64 b, .func (.func 19) #[] #[]] w
      fun e w' => e = .returned (.tuple #[]) ∧ ∃ Z, OwnE w' B g n cap (P ++ Z ++ Q) ∧ w.grownBy w' (some g) ∧ Stable (X ++ Y) Z := by
  obtain ⟨pa, hpa⟩ : ∃ pa, pa = P.length := ⟨_, rfl⟩
  obtain ⟨pm, hpm⟩ : ∃ pm, pm = pa + X.length := ⟨_, rfl⟩
  obtain ⟨pb, hpb⟩ : ∃ pb, pb = pm + Y.length := ⟨_, rfl⟩
  obtain ⟨mid, hmid⟩ : ∃ mid, mid = (pa + pb) / 2 := ⟨_, rfl⟩
  obtain rfl : a = (pa : Int) := by omega
  obtain rfl : b = (pb : Int) := by omega
  obtain rfl : m = (pm : Int) := by omega
  have hln := hown.len
  have hle : pb ≤ n := by rw [hln, hpb, hpm, hpa]; simp; omega
  have hxa : pa + 2 ≤ pm := by omega
  have hya : pm + 2 ≤ pb := by omega
  have hm1 : 2 * mid ≤ pa + pb := by omega
  have hm2 : pa + pb ≤ 2 * mid + 1 := by omega
  have hq : ((pm : Int) - (pa : Int) == 1) = false := by simp; omega
  have hq2 : ((pb : Int) - (pm : Int) == 1) = false := by simp; omega
  have em : ((pa : Int) + (pb : Int)) / 2 = (mid : Int) := by omega
  have Em := hide em
  have HH := hide (And.intro hpa (And.intro hpm (And.intro hpb (And.intro hmid hln))))
  have HX := hide (And.intro hX (And.intro hY (And.intro hx (And.intro hy hd))))
  have IH := hide ih
  clear hpa hpm hpb hln ha hb hm hX hY hx hy hd ih em hmid
  go_enter Try.func31, Try.ntmps31
  go_upto_if 140 with fail
  rw [Em.out]
  go_cut [20, 21] (fun i j wx => ∃ lo hi : Nat, i = .int .i64 lo ∧ j = .int .i64 hi ∧ w = wx ∧ (pm > mid ∧ lo = mid + pm - pb ∧ hi = mid ∨ pm ≤ mid ∧ lo = pa ∧ hi = pm))
  case first => as_aux_lemma =>
    by_cases hgt : mid < pm
    · go_wp2_with fail
      go_meet
      case rel => exact ⟨mid + pm - pb, mid, by congr 1; omega, rfl, rfl, .inl ⟨hgt, rfl, rfl⟩⟩
    · go_wp2_with fail
      go_meet
      case rel => exact ⟨pa, pm, rfl, rfl, rfl, .inr ⟨by omega, rfl, rfl⟩⟩
  case rest => as_aux_lemma =>
    obtain ⟨lo, hi, rfl, rfl, rfl, hcase⟩ := hcut
    have hlohi : lo ≤ hi := by omega
    have hhn : hi ≤ n := by omega
    have HC := hide hcase
    have hlo1 : pa ≤ lo := by omega
    have hhi1 : hi ≤ mid := by omega
    have hhi2 : hi ≤ pm := by omega
    have hlo2 : mid + pm ≤ lo + pb := by omega
    clear hcase
    go_wp2_with fail
    go_loopw [20, 21] (fun i j wr => ∃ (s t : Nat), lo ≤ s ∧ s ≤ t ∧ t ≤ hi ∧ i = .int .i64 s ∧ j = .int .i64 t ∧ OwnE wr B g n cap (P ++ X ++ Y ++ Q) ∧ w.grownBy wr (some g) ∧ Mates X Y pa (mid - 1) lo s t hi) (fun i j _ => (intOf j).toNat - (intOf i).toNat)
    case atStart => exact ⟨lo, hi, Nat.le_refl _, hlohi, Nat.le_refl _, rfl, rfl, hown, World.grownBy.refl _ _, fun c u v h1 h2 => by omega, fun c u v h1 h2 => by omega⟩
    case round => as_aux_lemma =>
      obtain ⟨s, t, hs1, hst, ht1, rfl, rfl, hcur, hg, hB⟩ := hrel
      have HB := hide hB
      clear hB
      by_cases hlt : s < t
      · obtain ⟨h, hh⟩ : ∃ h, h = (s + t) / 2 := ⟨_, rfl⟩
        have hh1 : s ≤ h := by omega
        have hh2 : h < t := by omega
        obtain ⟨k, hk⟩ : ∃ k, k = mid + pm - 1 - h := ⟨_, rfl⟩
        obtain ⟨x, hx⟩ : ∃ x, X[h - pa]? = some x := ⟨X[h - pa]'(by have := HH.out; omega), List.getElem?_eq_getElem _⟩
        obtain ⟨y, hy⟩ : ∃ y, Y[mid - 1 - h]? = some y := ⟨Y[mid - 1 - h]'(by have := HH.out; omega), List.getElem?_eq_getElem _⟩
        have hLx : (P ++ X ++ Y ++ Q)[h]? = some x := by
          have h1 := HH.out
          rw [← hx, List.append_assoc (P ++ X), ← get_second P X (Y ++ Q) (by omega)]
          congr 1
          omega
        have hLy : (P ++ X ++ Y ++ Q)[k]? = some y := by
          have h1 := HH.out
          rw [← hy, ← get_third P X Y Q (by omega)]
          congr 1
          omega
        obtain ⟨a0, a1, a2, a3, a4, a5⟩ := hcur.at6 hLx
        obtain ⟨b0, b1, b2, b3, b4, b5⟩ := hcur.at6 hLy
        have hhn : (h : Int) < (n : Int) := by omega
        have hkn : (k : Int) < (n : Int) := by omega
        have hhn' : h < n := by omega
        have hkn' : k < n := by omega
        have eh : ((s : Int) + (t : Int)) / 2 = (h : Int) := by omega
        have ek : IntKind.i64.wrap ((mid : Int) + (pm : Int) - 1 - (h : Int)) = (k : Int) := by rw [IntWalk.i64_in _ (by omega)]; omega
        have Eh := hide eh
        have Hx := hide (And.intro hx hy)
        clear hh hx hy hLy hLx eh hk
        go_wp2_with fail
        rw [Eh.out]
        go_still_tail 11, (by kernel_rfl)
        go_wp2_with (go_at_call 19; refine (of1_any _ _ _ _ _ _ _ _ _ _ _ _ _).mono ?_; rintro e w2 ⟨rfl, hb2⟩)
        all_goals
          have hc2 : OwnE w2 B g n cap (P ++ X ++ Y ++ Q) := (hcur.drewN 1).below hb2
          have hg2 : w.grownBy w2 (some g) := (only_drewN hg 1).trans (only_of_below hb2 _)
        · have hge : x.tick ≤ y.tick := cmpI_ge (by have h9 : (!decide (cmpI y.tick x.tick < 0)) = true := by assumption
                                                    simpa using h9)
          have hnew := HB.out.up HX.out.1 HX.out.2.1 Hx.out.1 Hx.out.2 hge
          go_roundw
          case rel => exact ⟨h + 1, t, by omega, by omega, by omega, by go_num, rfl, hc2, hg2, hnew⟩
          case measure => simp [intOf]; omega
        · have hltk : y.tick < x.tick := cmpI_lt (by have h9 : (!decide (cmpI y.tick x.tick < 0)) = false := by assumption
                                                     simpa using h9)
          have hnew := HB.out.down HX.out.1 HX.out.2.1 Hx.out.1 Hx.out.2 hltk
          go_roundw
          case rel => exact ⟨s, h, by omega, by omega, by omega, rfl, rfl, hc2, hg2, hnew⟩
          case measure => simp [intOf]; omega
      · have hts : t = s := by omega
        subst hts
        obtain ⟨X1, X2, Y1, Y2, hcut⟩ : ∃ X1 X2 Y1 Y2, Cutting X Y (t - pa) (mid - t) X1 X2 Y1 Y2 := by
          have h1 := HH.out
          have h2 := HX.out
          exact HB.out.cutting h2.1 h2.2.1 h1.2.1 h1.2.2.1 h2.2.2.1 h2.2.2.2.1 h1.2.2.2.1 hs1 ht1 HC.out
        have CU := hide hcut
        have hcur2 : OwnE wr B g n cap (P ++ X1 ++ X2 ++ Y1 ++ (Y2 ++ Q)) := by
          have h3 := hcut.1
          have h4 := hcut.2.1
          rw [h3, h4] at hcur
          simpa using hcur
        have L : X1.length = t - pa ∧ Y1.length = mid - t ∧ X2.length = pm - t ∧ Y2.length = pb + t - mid - pm := by
          have h1 := HH.out
          have h3 := congrArg List.length hcut.1
          have h4 := congrArg List.length hcut.2.1
          have h5 := hcut.2.2.1
          have h6 := hcut.2.2.2.1
          simp at h3 h4
          omega
        have HL := hide L
        clear hcut L hcur
        obtain ⟨wo, rfl⟩ : ∃ wo : World, wo = wr := ⟨_, rfl⟩
        have hp1 : pa ≤ t := by omega
        have htm : t ≤ mid := by omega
        have htp : t ≤ pm := by omega
        have htb : mid + pm ≤ t + pb := by omega
        go_upto_region 39 with fail
        go_cut [185] (fun c wx => c = .bool (decide (t < pm ∧ t < mid)) ∧ wo = wx)
        case first => as_aux_lemma =>
          by_cases c1 : t < pm
          · by_cases c2 : t < mid
            · go_wp2_with fail
              go_meet
              case rel => exact ⟨by simp [c1, c2]; omega, rfl⟩
            · go_wp2_with fail
              go_meet
              case rel => exact ⟨by simp [c2]; omega, rfl⟩
          · go_wp2_with fail
            go_meet
            case rel => exact ⟨by simp [c1], rfl⟩
        case rest => as_aux_lemma =>
          obtain ⟨rfl, rfl⟩ := hcut
          go_upto_if 185 with fail
          go_cut [] (fun wx => OwnE wx B g n cap (P ++ X1 ++ Y1 ++ X2 ++ (Y2 ++ Q)) ∧ w.grownBy wx (some g))
          case first => as_aux_lemma =>
            by_cases c : t < pm ∧ t < mid
            · have hcur3 : OwnE wo B g n cap ((P ++ X1) ++ X2 ++ Y1 ++ (Y2 ++ Q)) := hcur2
              go_wp2_with (go_at_call 43; refine (rotate_any B g n cap (P ++ X1) X2 Y1 (Y2 ++ Q) _ _ _ _ _ hcur3 (by have h1 := HH.out; have h2 := HL.out; simp; omega) (by have h1 := HH.out; have h2 := HL.out; simp; omega) (by have h1 := HH.out; have h2 := HL.out; simp; omega) (by have h2 := HL.out; omega) (by have h2 := HL.out; omega) hn).mono ?_; rintro e w2 ⟨rfl, hc2, hg2⟩)
              go_meet
              case rel => exact ⟨hc2, hg.trans hg2⟩
            · have hcur3 : OwnE wo B g n cap (P ++ X1 ++ Y1 ++ X2 ++ (Y2 ++ Q)) := by
                have h2 := HL.out
                rcases Nat.lt_or_ge t pm with h | h
                · have : Y1 = [] := List.eq_nil_of_length_eq_zero (by omega)
                  rw [this] at hcur2 ⊢
                  simpa using hcur2
                · have : X2 = [] := List.eq_nil_of_length_eq_zero (by omega)
                  rw [this] at hcur2 ⊢
                  simpa using hcur2
              go_wp2_with fail
              go_meet
              case rel => exact ⟨hcur3, hg⟩
          case rest => as_aux_lemma =>
            clear hcur2 hg
            obtain ⟨hcA, hgA⟩ := hcut
            go_upto_region 41 with fail
            go_cut [199] (fun c wx => c = .bool (decide (pa < t ∧ t < mid)) ∧ wc = wx)
            case first => as_aux_lemma =>
              by_cases c1 : pa < t
              · by_cases c2 : t < mid
                · go_wp2_with fail
                  go_meet
                  case rel => exact ⟨by simp [c1, c2], rfl⟩
                · go_wp2_with fail
                  go_meet
                  case rel => exact ⟨by simp [c2], rfl⟩
              · go_wp2_with fail
                go_meet
                case rel => exact ⟨by simp [c1], rfl⟩
            case rest => as_aux_lemma =>
              obtain ⟨rfl, rfl⟩ := hcut
              go_upto_if 199 with fail
              go_cut [] (fun wx => ∃ Z1, OwnE wx B g n cap (P ++ Z1 ++ X2 ++ Y2 ++ Q) ∧ w.grownBy wx (some g) ∧ Stable (X1 ++ Y1) Z1 ∧ Z1.length = mid - pa)
              case first => as_aux_lemma =>
                have SD := hide (CU.out.sides HX.out.1 HX.out.2.1)
                by_cases c : pa < t ∧ t < mid
                · have hcur3 : OwnE wc B g n cap (P ++ X1 ++ Y1 ++ (X2 ++ Y2 ++ Q)) := by simpa using hcA
                  go_wp2_with (go_at_call 31; refine (IH.out B g n cap P X1 Y1 (X2 ++ Y2 ++ Q) _ _ _ _ hcur3 (by have h1 := HH.out; omega) (by have h1 := HH.out; have h2 := HL.out; omega) (by have h1 := HH.out; have h2 := HL.out; omega) SD.out.1 SD.out.2.2.1 (by have h2 := HL.out; omega) (by have h2 := HL.out; omega) hn (by have h1 := HH.out; have h2 := HL.out; have h3 := HX.out; omega)).mono ?_; rintro e w2 ⟨rfl, Z1, hc2, hg2, hs2⟩)
                  go_meet
                  case rel => exact ⟨Z1, by simpa using hc2, hgA.trans hg2, hs2, by have h1 := Same.length hs2.2; have h2 := HL.out; simp at h1; omega⟩
                · have hss := stable_side SD.out.1 SD.out.2.2.1 (by have h2 := HL.out; omega)
                  have HS := hide hss
                  clear hss
                  go_wp2_with fail
                  go_meet
                  case rel => exact ⟨X1 ++ Y1, by simpa using hcA, hgA, HS.out, by have h2 := HL.out; simp; omega⟩
              case rest => as_aux_lemma =>
                clear hcA hgA
                obtain ⟨Z1, hcB, hgB, hsB, hlB⟩ := hcut
                have HS := hide (And.intro hsB hlB)
                have SD := hide (CU.out.sides HX.out.1 HX.out.2.1)
                clear hsB hlB
                by_cases c : mid < mid + pm - t ∧ mid + pm - t < pb
                · have hcur3 : OwnE wc B g n cap ((P ++ Z1) ++ X2 ++ Y2 ++ Q) := hcB
                  go_wp2_with (go_at_call 31; refine (IH.out B g n cap (P ++ Z1) X2 Y2 Q _ _ _ _ hcur3 (by have h1 := HH.out; have h2 := HS.out.2; simp; omega) (by have h1 := HH.out; have h2 := HS.out.2; have h3 := HL.out; simp; omega) (by have h1 := HH.out; have h2 := HS.out.2; have h3 := HL.out; simp; omega) SD.out.2.1 SD.out.2.2.2 (by have h2 := HL.out; omega) (by have h2 := HL.out; omega) hn (by have h1 := HH.out; have h2 := HL.out; have h3 := HX.out; omega)).mono ?_; rintro e w2 ⟨rfl, Z2, hc2, hg2, hs2⟩)
                  go_end0
                  exact ⟨rfl, Z1 ++ Z2, by simpa using hc2, hgB.trans hg2, CU.out.stable HX.out.1 HX.out.2.1 HS.out.1 hs2⟩
                · have hss := stable_side SD.out.2.1 SD.out.2.2.2 (by have h2 := HL.out; omega)
                  have HS2 := hide hss
                  clear hss
                  by_cases c1 : t < pm
                  · go_wp2_with fail
                    go_end0
                    exact ⟨rfl, Z1 ++ (X2 ++ Y2), by simpa using hcB, hgB, CU.out.stable HX.out.1 HX.out.2.1 HS.out.1 HS2.out⟩
                  · go_wp2_with fail
                    go_end0
                    exact ⟨rfl, Z1 ++ (X2 ++ Y2), by simpa using hcB, hgB, CU.out.stable HX.out.1 HX.out.2.1 HS.out.1 HS2.out⟩
end Go.Proofs.Ytbabdabdohljcaa
