/- slices.swapRangeCmpFunc and rotateCmpFunc over events: two stretches change places. -/
import Derived.Test.YtbabdabdohljcaaIns
namespace Go.Proofs.Ytbabdabdohljcaa
open Go.RowKit
theorem swap_far {α : Type} (A C D : List α) (x y : α) : ((A ++ x :: C ++ y :: D).set A.length y).set (A.length + 1 + C.length) x = A ++ y :: C ++ x :: D := by
  have e1 : (A ++ x :: C ++ y :: D).set A.length y = A ++ y :: C ++ y :: D := by
    rw [List.append_assoc, List.set_append_right _ _ (by omega)]
    simp
  rw [e1]
  have e2 : (A ++ y :: C).length = A.length + 1 + C.length := by simp; omega
  rw [← e2, List.set_append_right _ _ (by omega)]
  simp
/-- What the loop keeps: the first i of X and Y have changed places. -/
def Swapping (P X M Y Q : List Ev) (i : Nat) (cur : List Ev) : Prop := cur = P ++ Y.take i ++ X.drop i ++ M ++ X.take i ++ Y.drop i ++ Q
theorem Swapping.step {P X M Y Q cur : List Ev} {i : Nat} {x y : Ev} (h : Swapping P X M Y Q i cur) (hx : X[i]? = some x) (hy : Y[i]? = some y) :
    cur[P.length + i]? = some x ∧ cur[P.length + X.length + M.length + i]? = some y ∧ Swapping P X M Y Q (i + 1) ((cur.set (P.length + i) y).set (P.length + X.length + M.length + i) x) := by
  have hxl := (List.getElem?_eq_some_iff.1 hx).1
  have hyl := (List.getElem?_eq_some_iff.1 hy).1
  have dx : X.drop i = x :: X.drop (i + 1) := by
    rw [List.drop_eq_getElem_cons hxl]
    rw [List.getElem?_eq_getElem hxl] at hx
    injection hx with hx
    rw [hx]
  have dy : Y.drop i = y :: Y.drop (i + 1) := by
    rw [List.drop_eq_getElem_cons hyl]
    rw [List.getElem?_eq_getElem hyl] at hy
    injection hy with hy
    rw [hy]
  have tx : X.take (i + 1) = X.take i ++ [x] := by rw [List.take_add_one, hx]; rfl
  have ty : Y.take (i + 1) = Y.take i ++ [y] := by rw [List.take_add_one, hy]; rfl
  have e : cur = (P ++ Y.take i) ++ x :: (X.drop (i + 1) ++ M ++ X.take i) ++ y :: (Y.drop (i + 1) ++ Q) := by
    rw [h, dx, dy]; simp
  have l1 : (P ++ Y.take i).length = P.length + i := by simp; omega
  have l2 : (P ++ Y.take i).length + 1 + (X.drop (i + 1) ++ M ++ X.take i).length = P.length + X.length + M.length + i := by simp; omega
  refine ⟨?_, ?_, ?_⟩
  · rw [e, ← l1, List.append_assoc]
    exact at_mid _ _ _
  · rw [e, ← l2]
    have l3 : ((P ++ Y.take i) ++ x :: (X.drop (i + 1) ++ M ++ X.take i)).length = (P ++ Y.take i).length + 1 + (X.drop (i + 1) ++ M ++ X.take i).length := by simp; omega
    rw [← l3]
    exact at_mid _ _ _
  · rw [e, ← l1, ← l2, swap_far]
    unfold Swapping
    rw [tx, ty]
    simp
set_option maxHeartbeats 1000000 in
theorem swapRange_any (B g n cap : Nat) (P X M Y Q : List Ev) (a b k : Int) (f : Value) (w : World) (hown : OwnE w B g n cap (P ++ X ++ M ++ Y ++ Q)) (ha : a = P.length) (hb : b = P.length + X.length + M.length) (hk : k = X.length) (hxy : X.length = Y.length) (hn : n < 1000000) :
    Calls Try.prog 49 #[.slice (some ⟨g, 0, none⟩) n cap, .int .i64 a, .int .i64 b, .int .i64 k, f] w
      fun e w' => e = .returned (.tuple #[]) ∧ OwnE w' B g n cap (P ++ Y ++ M ++ X ++ Q) ∧ w.grownBy w' (some g) := by
  obtain ⟨pa, hpa⟩ : ∃ pa, pa = P.length := ⟨_, rfl⟩
  obtain ⟨pb, hpb⟩ : ∃ pb, pb = P.length + X.length + M.length := ⟨_, rfl⟩
  obtain ⟨pk, hpk⟩ : ∃ pk, pk = X.length := ⟨_, rfl⟩
  obtain rfl : a = (pa : Int) := by omega
  obtain rfl : b = (pb : Int) := by omega
  obtain rfl : k = (pk : Int) := by omega
  have hln := hown.len
  have hle : pb + pk ≤ n := by rw [hln, hpb, hpk]; simp; omega
  have hab : pa + pk ≤ pb := by omega
  have HH := hide (And.intro hpa (And.intro hpb (And.intro hpk (And.intro hxy hln))))
  clear hpa hpb hpk hxy hln ha hb hk
  go_enter Try.func49, Try.ntmps49
  go_wp2_with fail
  go_loopw [10] (fun i wr => ∃ (j : Nat) (cur : List Ev), j ≤ pk ∧ i = .int .i64 j ∧ OwnE wr B g n cap cur ∧ w.grownBy wr (some g) ∧ Swapping P X M Y Q j cur) (fun i _ => pk - (intOf i).toNat)
  case atStart => exact ⟨0, _, Nat.zero_le _, rfl, hown, World.grownBy.refl _ _, by unfold Swapping; simp⟩
  case round =>
    obtain ⟨j, cur, hj, rfl, hcur, hg, hS⟩ := hrel
    by_cases hlt : j < pk
    · obtain ⟨h1, h2, h3, h4, h5⟩ := HH.out
      obtain ⟨x, hx⟩ : ∃ x, X[j]? = some x := ⟨X[j]'(by omega), List.getElem?_eq_getElem _⟩
      obtain ⟨y, hy⟩ : ∃ y, Y[j]? = some y := ⟨Y[j]'(by omega), List.getElem?_eq_getElem _⟩
      obtain ⟨hcx, hcy, hS2⟩ := hS.step hx hy
      rw [← h2, ← h1] at hS2
      rw [← h1] at hcx
      rw [← h2] at hcy
      obtain ⟨a0, a1, a2, a3, a4, a5⟩ := hcur.at6 hcx
      obtain ⟨b0, b1, b2, b3, b4, b5⟩ := hcur.at6 hcy
      have hfr := hcur.free
      have hnew := OwnE.put2 hcur (List.getElem?_eq_some_iff.1 hcx).1 (List.getElem?_eq_some_iff.1 hcy).1 y x
      have hgr2 := hg.trans (put2_grown wr g (pa + j) (pb + j) y x)
      have HS := hide hS2
      clear h1 h2 h3 h4 h5 hx hy hcx hcy hS hS2
      have w1 : IntKind.i64.wrap ((pa : Int) + (j : Int)) = (pa : Int) + (j : Int) := IntWalk.i64_in _ (by omega)
      have w2 : IntKind.i64.wrap ((pb : Int) + (j : Int)) = (pb : Int) + (j : Int) := IntWalk.i64_in _ (by omega)
      have n1 : (0 : Int) ≤ (pa : Int) + (j : Int) := by omega
      have n2 : (0 : Int) ≤ (pb : Int) + (j : Int) := by omega
      have m1 : (pa : Int) + (j : Int) < (n : Int) := by omega
      have m2 : (pb : Int) + (j : Int) < (n : Int) := by omega
      have t1 : ((pa : Int) + (j : Int)).toNat = pa + j := by omega
      have t2 : ((pb : Int) + (j : Int)).toNat = pb + j := by omega
      go_wp2_with fail
      go_region
      go_wp2_with fail
      go_roundw
      case rel => exact ⟨j + 1, _, by omega, by go_num, hnew, hgr2, HS.out⟩
      case measure => simp [intOf]; omega
    · have hjk : j = pk := by omega
      subst hjk
      have hfin : cur = P ++ Y ++ M ++ X ++ Q := by
        obtain ⟨h1, h2, h3, h4, h5⟩ := HH.out
        rw [hS, h3, List.take_length, List.drop_length, h4, List.take_length, List.drop_length]
        simp
      have hcur2 : OwnE wr B g n cap (P ++ Y ++ M ++ X ++ Q) := hfin ▸ hcur
      clear hfin hS
      go_wp2_with fail
      go_end0
      exact ⟨rfl, hcur2, hg⟩

theorem split_at {α : Type} (X : List α) {k : Nat} (hk : k ≤ X.length) : ∃ X1 X2, X = X1 ++ X2 ∧ X1.length = k ∧ X2.length = X.length - k :=
  ⟨X.take k, X.drop k, (List.take_append_drop k X).symm, by simp; omega, by simp⟩
def Rotating (P X Y Q : List Ev) (m i j : Nat) (cur : List Ev) : Prop := ∃ P' X' Y' Q', cur = P' ++ X' ++ Y' ++ Q' ∧ P'.length + X'.length = m ∧ i = X'.length ∧ j = Y'.length ∧ P' ++ Y' ++ X' ++ Q' = P ++ Y ++ X ++ Q ∧ cur.length = (P ++ Y ++ X ++ Q).length
theorem Rotating.same {P X Y Q cur : List Ev} {m x : Nat} (h : Rotating P X Y Q m x x cur) : ∃ P' X' Y' Q', cur = P' ++ X' ++ [] ++ Y' ++ Q' ∧ P'.length + x = m ∧ X'.length = x ∧ Y'.length = x ∧ P' ++ Y' ++ [] ++ X' ++ Q' = P ++ Y ++ X ++ Q := by
  obtain ⟨P', X', Y', Q', h1, h2, h3, h4, h5, _⟩ := h
  exact ⟨P', X', Y', Q', by simpa using h1, by omega, h3.symm, h4.symm, by simpa using h5⟩
theorem Rotating.gt {P X Y Q cur : List Ev} {m x y : Nat} (h : Rotating P X Y Q m x y cur) (hgt : y < x) : ∃ P' X1 X2 Y' Q', cur = P' ++ X1 ++ X2 ++ Y' ++ Q' ∧ P'.length + x = m ∧ X1.length = y ∧ X2.length = x - y ∧ Y'.length = y ∧ Rotating P X Y Q m (x - y) y (P' ++ Y' ++ X2 ++ X1 ++ Q') := by
  obtain ⟨P', X', Y', Q', h1, h2, h3, h4, h5, h6⟩ := h
  obtain ⟨X1, X2, e, e1, e2⟩ := split_at X' (k := y) (by omega)
  subst e
  refine ⟨P', X1, X2, Y', Q', by simpa using h1, by omega, e1, by omega, h4.symm, P' ++ Y', X2, X1, Q', rfl, ?_, by omega, e1.symm, by simpa using h5, ?_⟩
  · simp at h2 h3 ⊢; omega
  · rw [← h6, h1]; simp; omega
theorem Rotating.lt {P X Y Q cur : List Ev} {m x y : Nat} (h : Rotating P X Y Q m x y cur) (hlt : x < y) : ∃ P' X' Y1 Y2 Q', cur = P' ++ X' ++ Y1 ++ Y2 ++ Q' ∧ P'.length + x = m ∧ X'.length = x ∧ Y1.length = y - x ∧ Y2.length = x ∧ Rotating P X Y Q m x (y - x) (P' ++ Y2 ++ Y1 ++ X' ++ Q') := by
  obtain ⟨P', X', Y', Q', h1, h2, h3, h4, h5, h6⟩ := h
  obtain ⟨Y1, Y2, e, e1, e2⟩ := split_at Y' (k := y - x) (by omega)
  subst e
  refine ⟨P', X', Y1, Y2, Q', by simpa using h1, by omega, h3.symm, e1, by omega, P', Y2, Y1, X' ++ Q', by simp, by omega, by omega, e1.symm, by simpa using h5, ?_⟩
  rw [← h6, h1]; simp; omega
set_option maxHeartbeats 1000000 in
theorem rotate_any (B g n cap : Nat) (P X Y Q : List Ev) (a m b : Int) (f : Value) (w : World) (hown : OwnE w B g n cap (P ++ X ++ Y ++ Q)) (ha : a = P.length) (hm : m = P.length + X.length) (hb : b = P.length + X.length + Y.length) (hx : 0 < X.length) (hy : 0 < Y.length) (hn : n < 1000000) :
    Calls Try.prog 43 #[.slice (some ⟨g, 0, none⟩) n cap, .int .i64 a, .int .i64 m, .int .i64 b, f] w
      fun e w' => e = .returned (.tuple #[]) ∧ OwnE w' B g n cap (P ++ Y ++ X ++ Q) ∧ w.grownBy w' (some g) := by
  obtain ⟨pa, hpa⟩ : ∃ pa, pa = P.length := ⟨_, rfl⟩
  obtain ⟨pm, hpm⟩ : ∃ pm, pm = P.length + X.length := ⟨_, rfl⟩
  obtain ⟨pb, hpb⟩ : ∃ pb, pb = P.length + X.length + Y.length := ⟨_, rfl⟩
  obtain rfl : a = (pa : Int) := by omega
  obtain rfl : b = (pb : Int) := by omega
  obtain rfl : m = (pm : Int) := by omega
  have hln := hown.len
  have hle : pb ≤ n := by rw [hln, hpb]; simp; omega
  have hab : pa < pm := by omega
  have hmb : pm < pb := by omega
  have hmd : X.length = pm - pa := by omega
  have hbd : Y.length = pb - pm := by omega
  have HH := hide (And.intro hpa (And.intro hpm (And.intro hpb (And.intro hln (And.intro hmd hbd)))))
  clear hpa hpm hpb hln ha hb hm hx hy hmd hbd
  go_enter Try.func43, Try.ntmps43
  go_wp2_with fail
  go_loopw [10, 11] (fun i j wr => ∃ (x y : Nat) (cur : List Ev), 0 < x ∧ 0 < y ∧ x + y ≤ n ∧ x ≤ pm ∧ pm + y ≤ n ∧ i = .int .i64 x ∧ j = .int .i64 y ∧ OwnE wr B g n cap cur ∧ w.grownBy wr (some g) ∧ Rotating P X Y Q pm x y cur) (fun i j _ => (intOf i).toNat + (intOf j).toNat)
  case atStart =>
    obtain ⟨h1, h2, h3, h4, h5, h6⟩ := HH.out
    refine ⟨pm - pa, pb - pm, _, by omega, by omega, by omega, by omega, by omega, by congr 1; omega, by congr 1; omega, hown, World.grownBy.refl _ _, P, X, Y, Q, rfl, h2.symm, h5.symm, h6.symm, rfl, ?_⟩
    simp; omega
  case round =>
    obtain ⟨x, y, cur, hx, hy, hxy, hxm, hym, rfl, rfl, hcur, hg, hR⟩ := hrel
    by_cases hne : x = y
    · subst hne
      obtain ⟨P', X', Y', Q', h1, h2, h3, h4, h5⟩ := hR.same
      subst h1
      have H5 := hide h5
      have H2 := hide (And.intro h2 (And.intro h3 h4))
      clear h5 hR h2 h3 h4
      have hq : ((x : Int) != (x : Int)) = false := by simp
      go_wp2_with (go_at_call 49; refine (swapRange_any B g n cap P' X' [] Y' Q' _ _ _ _ _ hcur (by have := H2.out; omega) (by have := H2.out; simp; omega) (by have := H2.out; omega) (by have := H2.out; omega) hn).mono ?_; rintro e w2 ⟨rfl, hc2, hg2⟩; rw [H5.out] at hc2)
      go_end0
      exact ⟨rfl, hc2, hg.trans hg2⟩
    · have hq : ((x : Int) != (y : Int)) = true := by simp; omega
      by_cases hgt : y < x
      · obtain ⟨P', X1, X2, Y', Q', h1, h2, h3, h4, h5, h6⟩ := hR.gt hgt
        subst h1
        have H2 := hide (And.intro h2 (And.intro h3 (And.intro h4 h5)))
        have H6 := hide h6
        clear hR h2 h3 h4 h5 h6
        go_wp2_with (go_at_call 49; refine (swapRange_any B g n cap P' X1 X2 Y' Q' _ _ _ _ _ hcur (by have := H2.out; omega) (by have := H2.out; omega) (by have := H2.out; omega) (by have := H2.out; omega) hn).mono ?_; rintro e w2 ⟨rfl, hc2, hg2⟩)
        go_roundw
        case rel => exact ⟨x - y, y, _, by omega, by omega, by omega, by omega, by omega, by congr 1; omega, rfl, hc2, hg.trans hg2, H6.out⟩
        case measure => simp [intOf]; omega
      · obtain ⟨P', X', Y1, Y2, Q', h1, h2, h3, h4, h5, h6⟩ := hR.lt (by omega)
        subst h1
        have H2 := hide (And.intro h2 (And.intro h3 (And.intro h4 h5)))
        have H6 := hide h6
        clear hR h2 h3 h4 h5 h6
        go_wp2_with (go_at_call 49; refine (swapRange_any B g n cap P' X' Y1 Y2 Q' _ _ _ _ _ hcur (by have := H2.out; omega) (by have := H2.out; omega) (by have := H2.out; omega) (by have := H2.out; omega) hn).mono ?_; rintro e w2 ⟨rfl, hc2, hg2⟩)
        go_roundw
        case rel => exact ⟨x, y - x, _, by omega, by omega, by omega, by omega, by omega, rfl, by congr 1; omega, hc2, hg.trans hg2, H6.out⟩
        case measure => simp [intOf]; omega
end Go.Proofs.Ytbabdabdohljcaa
