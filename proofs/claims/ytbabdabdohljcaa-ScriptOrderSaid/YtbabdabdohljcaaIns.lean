/- slices.insertionSortCmpFunc over events: a stretch is put in stable order. -/
import Derived.Test.YtbabdabdohljcaaCmp
namespace Go.Proofs.Ytbabdabdohljcaa
open Go.RowKit
theorem cmpI_lt {a b : Int} (h : cmpI a b < 0) : a < b := by
  unfold cmpI at h
  by_cases h1 : a < b
  · exact h1
  · rw [if_neg h1] at h
    split at h <;> omega
theorem cmpI_ge {a b : Int} (h : 0 ≤ cmpI a b) : b ≤ a := by
  unfold cmpI at h
  by_cases h1 : a < b
  · rw [if_pos h1] at h; omega
  · omega
/-- The slice of events at block g holds just these. -/
abbrev OwnE (w : World) (B g n cap : Nat) (l : List Ev) : Prop := Own Ev.cells 38 6 w B (.slice (some ⟨g, 0, none⟩) n cap) l
theorem OwnE.at6 {w : World} {B g n cap : Nat} {l : List Ev} (h : OwnE w B g n cap l) {i : Nat} {x : Ev} (hi : l[i]? = some x) :
    w.cell? ⟨g, i * 6, none⟩ = some (.int .i64 x.item) ∧ w.cell? ⟨g, i * 6 + 1, none⟩ = some (.int .i64 x.try_) ∧ w.cell? ⟨g, i * 6 + 2, none⟩ = some (.int .i64 x.win) ∧ w.cell? ⟨g, i * 6 + 3, none⟩ = some (.int .i64 x.tick) ∧ w.cell? ⟨g, i * 6 + 4, none⟩ = some (.int .i64 x.addr) ∧ w.cell? ⟨g, i * 6 + 5, none⟩ = some (.int .u64 x.mask) :=
  ⟨Own.cell (cells := Ev.cells) (j := 0) (fun _ => rfl) h hi rfl, Own.cell (cells := Ev.cells) (j := 1) (fun _ => rfl) h hi rfl, Own.cell (cells := Ev.cells) (j := 2) (fun _ => rfl) h hi rfl, Own.cell (cells := Ev.cells) (j := 3) (fun _ => rfl) h hi rfl, Own.cell (cells := Ev.cells) (j := 4) (fun _ => rfl) h hi rfl, Own.cell (cells := Ev.cells) (j := 5) (fun _ => rfl) h hi rfl⟩
theorem OwnE.len {w : World} {B g n cap : Nat} {l : List Ev} (h : OwnE w B g n cap l) : n = l.length := (Own.rd (cells := Ev.cells) (fun _ => rfl) h).1
theorem OwnE.put2 {w : World} {B g n cap : Nat} {l : List Ev} (h : OwnE w B g n cap l) {i k : Nat} (hi : i < l.length) (hk : k < l.length) (x y : Ev) :
    OwnE (puts g (k * 6) (Ev.cells y) (puts g (i * 6) (Ev.cells x) w)).drew B g n cap ((l.set i x).set k y) :=
  Own.drewN (Own.puts (cells := Ev.cells) (fun _ => rfl) (Own.puts (cells := Ev.cells) (fun _ => rfl) h hi x) (by simpa using hk) y) 1
theorem put2_grown (w : World) (g i k : Nat) (x y : Ev) : w.grownBy (puts g (k * 6) (Ev.cells y) (puts g (i * 6) (Ev.cells x) w)).drew (some g) :=
  only_drewN ((puts_grown g _ _ _).trans (puts_grown g _ _ _)) 1
/-- What the outer loop keeps. -/
def InsOut (l : List Ev) (a i : Nat) (cur : List Ev) : Prop := cur.length = l.length ∧ cur.take a = l.take a ∧ cur.drop i = l.drop i ∧ Stable ((l.take i).drop a) ((cur.take i).drop a)
/-- What the inner one keeps: u, then the event x that is brought forward, then v, all later than it. -/
def InsIn (l : List Ev) (a i j : Nat) (x : Ev) (cur : List Ev) : Prop := ∃ u v, cur = l.take a ++ (u ++ x :: v) ++ l.drop (i + 1) ∧ a + u.length = j ∧ Stable ((l.take i).drop a) (u ++ v) ∧ ∀ z ∈ v, x.tick < z.tick
def Sorts (l : List Ev) (a b : Nat) (cur : List Ev) : Prop := cur.length = l.length ∧ cur.take a = l.take a ∧ cur.drop b = l.drop b ∧ Stable ((l.take b).drop a) ((cur.take b).drop a)

theorem cut3 {α : Type} (l : List α) {a k : Nat} (h : a ≤ k) : l = l.take a ++ (l.take k).drop a ++ l.drop k := by
  have e1 : l.take a = (l.take k).take a := by rw [List.take_take, Nat.min_eq_left h]
  rw [e1, List.take_append_drop, List.take_append_drop]
theorem InsOut.start {l : List Ev} {a : Nat} : InsOut l a (a + 1) l := by
  refine ⟨rfl, rfl, rfl, ?_, fun _ => rfl⟩
  have hlen : ((l.take (a + 1)).drop a).length ≤ 1 := by simp; omega
  match (l.take (a + 1)).drop a, hlen with
  | [], _ => exact List.Pairwise.nil
  | [x], _ => exact List.pairwise_singleton _ _
theorem InsOut.last {l cur : List Ev} {a b k : Nat} (h : InsOut l a k cur) (hk : k = b ∨ k = a + 1 ∧ b = a) : Sorts l a b cur := by
  obtain ⟨h1, h2, h3, h4⟩ := h
  rcases hk with rfl | ⟨rfl, rfl⟩
  · exact ⟨h1, h2, h3, h4⟩
  · have e : cur = l := by
      by_cases hb : b < l.length
      · have hs : Same ((l.take (b + 1)).drop b) ((cur.take (b + 1)).drop b) := h4.2
        have e1 : (l.take (b + 1)).drop b = [l[b]] := by
          rw [List.take_add_one, List.getElem?_eq_getElem hb, List.drop_append_of_le_length (by simp; omega)]
          simp
        have e2 : (cur.take (b + 1)).drop b = [cur[b]'(by omega)] := by
          rw [List.take_add_one, List.getElem?_eq_getElem (show b < cur.length by omega), List.drop_append_of_le_length (by simp; omega)]
          simp
        rw [e1, e2] at hs
        have e3 := hs (l[b]).tick
        simp [List.filter_cons] at e3
        split at e3
        · injection e3 with e3 _
          rw [cut3 cur (show b ≤ b + 1 by omega), cut3 l (show b ≤ b + 1 by omega), e1, e2, h2, h3, e3]
        · cases e3
      · rw [← List.take_append_drop b cur, ← List.take_append_drop b l, h2]
        rw [List.drop_of_length_le (by omega), List.drop_of_length_le (by omega)]
    subst e
    refine ⟨rfl, rfl, rfl, ?_, fun _ => rfl⟩
    rw [List.drop_of_length_le (by simp; omega)]
    exact List.Pairwise.nil
theorem InsIn.start {l cur : List Ev} {a k : Nat} {x : Ev} (h : InsOut l a k cur) (hx : l[k]? = some x) (hak : a ≤ k) : InsIn l a k k x cur := by
  obtain ⟨h1, h2, h3, h4⟩ := h
  have hk : k < l.length := (List.getElem?_eq_some_iff.1 hx).1
  have hd : cur.drop k = x :: l.drop (k + 1) := by
    rw [h3, List.drop_eq_getElem_cons hk]
    congr 1
    rw [List.getElem?_eq_getElem hk] at hx
    injection hx
  refine ⟨(cur.take k).drop a, [], ?_, by simp; omega, by rw [List.append_nil]; exact h4, by simp⟩
  have h5 := cut3 cur hak
  rw [h2, hd] at h5
  rw [List.append_assoc] at h5 ⊢
  simpa using h5
theorem InsIn.length {l cu : List Ev} {a k m : Nat} {x : Ev} (h : InsIn l a k m x cu) (hak : a ≤ k) (hk : k < l.length) : cu.length = l.length := by
  obtain ⟨u, v, rfl, hm, hs, _⟩ := h
  have h2 := Same.length hs.2
  simp at h2 ⊢
  omega
theorem InsIn.get {l cu : List Ev} {a k m : Nat} {x : Ev} (h : InsIn l a k m x cu) (ha : a ≤ l.length) : cu[m]? = some x := by
  obtain ⟨u, v, rfl, hm, _, _⟩ := h
  rw [List.append_assoc, ← List.append_assoc]
  have : (l.take a ++ u).length = m := by simp; omega
  rw [← this, List.append_assoc, List.append_assoc, ← List.append_assoc (l.take a)]
  exact at_mid _ _ _
theorem InsIn.swap {l cu : List Ev} {a k m : Nat} {x y : Ev} (h : InsIn l a k (m + 1) x cu) (ha : a ≤ l.length) (hma : a ≤ m) (hy : cu[m]? = some y) (hlt : x.tick < y.tick) : InsIn l a k m x ((cu.set (m + 1) y).set m x) := by
  obtain ⟨u, v, rfl, hm, hs, hv⟩ := h
  rcases List.eq_nil_or_concat u with e | ⟨u', z, e⟩
  · subst e; simp at hm; omega
  · rw [List.concat_eq_append] at e
    subst e
    have hlen : (l.take a ++ u').length = m := by simp at hm ⊢; omega
    have e1 : l.take a ++ (u' ++ [z] ++ x :: v) ++ l.drop (k + 1) = (l.take a ++ u') ++ z :: x :: (v ++ l.drop (k + 1)) := by simp
    rw [e1] at hy ⊢
    rw [← hlen, at_mid] at hy
    injection hy with hy
    subst hy
    rw [← hlen, swap_at]
    refine ⟨u', z :: v, by simp, by simp at hm hlen ⊢; omega, by simpa using hs, fun w hw => ?_⟩
    rcases List.mem_cons.1 hw with e | e
    · rw [e]; exact hlt
    · exact hv w e
theorem InsIn.done {l cu : List Ev} {a k m : Nat} {x : Ev} (h : InsIn l a k m x cu) (hx : l[k]? = some x) (hak : a ≤ k) (hm : m = a ∨ ∃ j y, m = j + 1 ∧ cu[j]? = some y ∧ y.tick ≤ x.tick) : InsOut l a (k + 1) cu := by
  have hk : k < l.length := (List.getElem?_eq_some_iff.1 hx).1
  have hcl := h.length hak hk
  obtain ⟨u, v, rfl, hmu, hs, hv⟩ := h
  have hu : ∀ z ∈ u, z.tick ≤ x.tick := by
    rcases hm with e | ⟨j, y, e, hy, hle⟩
    · have : u = [] := List.eq_nil_of_length_eq_zero (by omega)
      subst this
      simp
    · rcases List.eq_nil_or_concat u with e2 | ⟨u', z, e2⟩
      · subst e2; simp
      · rw [List.concat_eq_append] at e2
        subst e2
        have hlen : (l.take a ++ u').length = j := by simp at hmu ⊢; omega
        have e1 : l.take a ++ (u' ++ [z] ++ x :: v) ++ l.drop (k + 1) = (l.take a ++ u') ++ z :: (x :: v ++ l.drop (k + 1)) := by simp
        rw [e1, ← hlen, at_mid] at hy
        injection hy with hy
        subst hy
        intro w hw
        have hp := (List.pairwise_append.1 (List.pairwise_append.1 hs.1).1).2.2
        rcases List.mem_append.1 hw with e3 | e3
        · have := hp w e3 z (by simp); omega
        · simp at e3; subst e3; exact hle
  have hl2 := Same.length hs.2
  have hta : (l.take a).length = a := by simp; omega
  have huv : (u ++ v).length = k - a := by rw [hl2]; simp; omega
  refine ⟨hcl, ?_, ?_, ?_⟩
  · rw [List.append_assoc, List.take_append_of_le_length (by omega), List.take_of_length_le (by omega)]
  · have e : (l.take a ++ (u ++ x :: v)).length = k + 1 := by simp at huv ⊢; omega
    rw [← e, List.drop_left]
  · have e1 : (l.take (k + 1)).drop a = (l.take k).drop a ++ [x] := by
      rw [List.take_add_one, hx, List.drop_append_of_le_length (by simp; omega)]
      simp
    have e : (l.take a ++ (u ++ x :: v)).length = k + 1 := by simp at huv ⊢; omega
    rw [e1, ← e, List.take_left]
    rw [show (l.take a ++ (u ++ x :: v)).drop a = u ++ x :: v by rw [← hta]; simp]
    exact Stable.insert hs hv hu

set_option maxHeartbeats 400000 in
theorem ins_any (B g n cap : Nat) (l : List Ev) (a b : Int) (w : World) (hown : OwnE w B g n cap l) (ha0 : 0 ≤ a) (hab : a ≤ b) (hbn : b ≤ n) (hn : n < 1000000) :
    Calls Try.prog 30 #[.slice (some ⟨g, 0, none⟩) n cap, .int .i64 a, .int .i64 b, .func (.func 19) #[] #[]] w
      fun e w' => e = .returned (.tuple #[]) ∧ ∃ l', OwnE w' B g n cap l' ∧ w.grownBy w' (some g) ∧ Sorts l a.toNat b.toNat l' := by
  obtain ⟨a, rfl⟩ := Int.eq_ofNat_of_zero_le ha0
  obtain ⟨b, rfl⟩ := Int.eq_ofNat_of_zero_le (Int.le_trans ha0 hab)
  simp only [Int.toNat_natCast]
  have hab' : a ≤ b := by omega
  have hbn' : b ≤ n := by omega
  clear ha0 hab hbn
  go_enter Try.func30, Try.ntmps30
  go_wp2_with fail
  go_loopw [8] (fun i wr => ∃ (k : Nat) (cur : List Ev), a + 1 ≤ k ∧ (k ≤ b ∨ k = a + 1) ∧ i = .int .i64 k ∧ OwnE wr B g n cap cur ∧ w.grownBy wr (some g) ∧ InsOut l a k cur) (fun i _ => b - (intOf i).toNat)
  case atStart => exact ⟨a + 1, l, by omega, .inr rfl, by go_num, hown, World.grownBy.refl _ _, InsOut.start⟩
  case round =>
    obtain ⟨k, cur, hk1, hk2, rfl, hcur, hg, hI⟩ := hrel
    have hkb : k ≤ b ∨ k = a + 1 := hk2
    clear hk2
    have HI := hide hI
    clear hI
    by_cases hlt : k < b
    · obtain ⟨wo, rfl⟩ : ∃ wo : World, wo = wr := ⟨_, rfl⟩
      have hln := hown.len
      obtain ⟨x, hx⟩ : ∃ x, l[k]? = some x := ⟨l[k]'(by omega), List.getElem?_eq_getElem _⟩
      have Hx := hide hx
      have Hln := hide hln
      clear hln hx
      go_wp2_with fail
      go_loopw [9] (fun j wr => ∃ (m : Nat) (cu : List Ev), a ≤ m ∧ m ≤ k ∧ j = .int .i64 m ∧ OwnE wr B g n cap cu ∧ w.grownBy wr (some g) ∧ InsIn l a k m x cu) (fun j _ => (intOf j).toNat)
      case atStart => exact ⟨k, cur, by omega, Nat.le_refl _, rfl, hcur, hg, InsIn.start HI.out Hx.out (by omega)⟩
      case round =>
        obtain ⟨m, cu, hm1, hm2, rfl, hcu, hgu, hJ⟩ := hrel
        have HJ := hide hJ
        clear hJ
        by_cases hma : a < m
        · obtain ⟨j, rfl⟩ : ∃ j, m = j + 1 := ⟨m - 1, by omega⟩
          have hlen := HJ.out.length (by omega) (show k < l.length by have := Hln.out; omega)
          have hjl : j < cu.length := by have := Hln.out; omega
          have hjl1 : j + 1 < cu.length := by have := Hln.out; omega
          obtain ⟨a0, a1, a2, a3, a4, a5⟩ := hcu.at6 (HJ.out.get (show a ≤ l.length by have := Hln.out; omega))
          obtain ⟨y, hy⟩ : ∃ y, cu[j]? = some y := ⟨cu[j], List.getElem?_eq_getElem hjl⟩
          obtain ⟨b0, b1, b2, b3, b4, b5⟩ := hcu.at6 hy
          have Hy := hide hy
          have hd : decide (a < j + 1) = true := by simpa using hma
          have hd2 : decide ((a : Int) < (j : Int) + 1) = true := by simp; omega
          have hi1 : ((j : Int) + 1).toNat = j + 1 := by omega
          have hw : IntKind.i64.wrap (j : Int) = (j : Int) := IntWalk.i64_in _ (by omega)
          have hb0 : 0 ≤ (j : Int) + 1 := by omega
          have hb1 : (j : Int) + 1 < (n : Int) := by omega
          have hjn : j < n := by omega
          clear hy hlen
          simp only [Int.natCast_add, Int.cast_ofNat_Int]
          go_wp2_with fail
          go_still_tail 14, (by kernel_rfl)
          go_wp2_with (go_at_call 19; refine (of1_any _ _ _ _ _ _ _ _ _ _ _ _ _).mono ?_; rintro e w2 ⟨rfl, hb2⟩)
          · have hcu2 : OwnE w2 B g n cap cu := (hcu.drewN 1).below hb2
            have hg2 : w.grownBy w2 (some g) := (only_drewN hgu 1).trans (only_of_below hb2 _)
            have hltk : x.tick < y.tick := cmpI_lt (by assumption)
            obtain ⟨c0, c1, c2, c3, c4, c5⟩ := hcu2.at6 (HJ.out.get (show a ≤ l.length by have := Hln.out; omega))
            obtain ⟨d0, d1, d2, d3, d4, d5⟩ := hcu2.at6 Hy.out
            have hfr := hcu2.free
            clear a0 a1 a2 a3 a4 a5 b0 b1 b2 b3 b4 b5
            have hnew := OwnE.put2 hcu2 (i := j + 1) (k := j) hjl1 hjl y x
            have hgr2 := hg2.trans (put2_grown w2 g (j + 1) j y x)
            have hin := HJ.out.swap (show a ≤ l.length by have := Hln.out; omega) (by omega) Hy.out hltk
            go_region
            go_wp2_with fail
            go_roundw
            case rel => exact ⟨j, _, by omega, by omega, rfl, hnew, hgr2, hin⟩
            case measure => simp [intOf]
          · have hdone := HJ.out.done Hx.out (by omega) (.inr ⟨j, y, rfl, Hy.out, cmpI_ge (by assumption)⟩)
            go_roundw
            case rel => exact ⟨k + 1, cu, by omega, .inl (by omega), by go_num, (hcu.drewN 1).below hb2, (only_drewN hgu 1).trans (only_of_below hb2 _), hdone⟩
            case measure => simp [intOf]; omega
        · have hdone := HJ.out.done Hx.out (by omega) (.inl (by omega))
          have HD := hide hdone
          clear hdone
          have hd : decide (a < m) = false := by simpa using hma
          go_wp2_with fail
          go_quiet (fail)
          go_wp2_with fail
          go_roundw
          case rel => exact ⟨k + 1, cu, by omega, .inl (by omega), by go_num, hcu.drewN _, only_drewN hgu _, HD.out⟩
          case measure => simp [intOf]; omega
    · have hs : Sorts l a b cur := HI.out.last (by omega)
      have HS := hide hs
      clear hs
      go_wp2_with fail
      go_end0
      exact ⟨rfl, cur, hcur, hg, HS.out⟩
end Go.Proofs.Ytbabdabdohljcaa
