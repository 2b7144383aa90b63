/- slices.SortStableFunc over events, by script.Of's order: the events in stable order of their ticks. -/
import Derived.Test.YtbabdabdohljcaaSymC
namespace Go.Proofs.Ytbabdabdohljcaa
open Go.RowKit
theorem sym_all : ∀ d, SymSaid d
  | 0 => fun B g n cap P X Y Q a m b w _ _ _ _ _ _ hx hy _ hd => absurd hd (by omega)
  | d + 1 => fun B g n cap P X Y Q a m b w hown ha hm hb hX hY hx hy hn hd => by
    by_cases h1 : X.length = 1
    · obtain ⟨x, rfl⟩ := List.length_eq_one_iff.1 h1
      exact symA_any B g n cap P Y Q x a m b w hown ha (by simpa using hm) (by simpa using hb) hY hn
    · by_cases h2 : Y.length = 1
      · obtain ⟨y, rfl⟩ := List.length_eq_one_iff.1 h2
        exact symB_any B g n cap P X Q y a m b w hown ha hm (by simpa using hb) hX h1 hn
      · exact symC_any d (sym_all d) B g n cap P X Y Q a m b w hown ha hm hb hX hY (by omega) (by omega) hn hd
theorem sym_any (B g n cap : Nat) (P X Y Q : List Ev) (a m b : Int) (w : World) (hown : OwnE w B g n cap (P ++ X ++ Y ++ Q)) (ha : a = P.length) (hm : m = P.length + X.length) (hb : b = P.length + X.length + Y.length)
    (hX : X.Pairwise (fun a b => a.tick ≤ b.tick)) (hY : Y.Pairwise (fun a b => a.tick ≤ b.tick)) (hx : 0 < X.length) (hy : 0 < Y.length) (hn : n < 1000000) :
    Calls Try.prog 31 #[.slice (some ⟨g, 0, none⟩) n cap, .int .i64 a, .int .i64 m, .int .i64 b, .func (.func 19) #[] #[]] w
      fun e w' => e = .returned (.tuple #[]) ∧ ∃ Z, OwnE w' B g n cap (P ++ Z ++ Q) ∧ w.grownBy w' (some g) ∧ Stable (X ++ Y) Z :=
  sym_all (X.length + Y.length) B g n cap P X Y Q a m b w hown ha hm hb hX hY hx hy hn (Nat.le_refl _)

theorem Stable.append_same {x y x' y' z : List Ev} (h : Stable x y) (k : Stable x' y') (m : Stable (y ++ y') z) : Stable (x ++ x') z :=
  ⟨m.1, (Same.append h.2 k.2).trans m.2⟩
theorem Stable.length {x y : List Ev} (h : Stable x y) : y.length = x.length := Same.length h.2
/-- Stretches of just k, each in stable order. -/
def Full (k : Nat) (l cur : List Ev) : Prop := ∃ bl : List (List Ev × List Ev), l = (bl.map (·.1)).flatten ∧ cur = (bl.map (·.2)).flatten ∧ ∀ p ∈ bl, p.1.length = k ∧ Stable p.1 p.2
/-- .. and one more of at most k. -/
def Runs (k : Nat) (l cur : List Ev) : Prop := ∃ D0 D x y, l = D0 ++ x ∧ cur = D ++ y ∧ Full k D0 D ∧ x.length ≤ k ∧ Stable x y
theorem Full.nil (k : Nat) : Full k [] [] := ⟨[], rfl, rfl, by simp⟩
theorem Full.snoc {k : Nat} {l cur x y : List Ev} (h : Full k l cur) (hx : x.length = k) (hs : Stable x y) : Full k (l ++ x) (cur ++ y) := by
  obtain ⟨bl, rfl, rfl, hb⟩ := h
  refine ⟨bl ++ [(x, y)], by simp, by simp, fun p hp => ?_⟩
  rcases List.mem_append.1 hp with a | a
  · exact hb p a
  · simp at a; subst a; exact ⟨hx, hs⟩
theorem Full.length {k : Nat} {l cur : List Ev} (h : Full k l cur) : cur.length = l.length := by
  obtain ⟨bl, rfl, rfl, hb⟩ := h
  induction bl with
  | nil => rfl
  | cons p bl ih =>
    have h1 := (hb p (by simp)).2.length
    have h2 := ih (fun q hq => hb q (by simp [hq]))
    simp at h2 ⊢
    omega
theorem Runs.length {k : Nat} {l cur : List Ev} (h : Runs k l cur) : cur.length = l.length := by
  obtain ⟨D0, D, x, y, rfl, rfl, hf, _, hs⟩ := h
  have := hf.length
  have := hs.length
  simp; omega
theorem Full.runs {k : Nat} {E0 E R0 R : List Ev} (h : Full k E0 E) (hr : R0.length ≤ k) (hs : Stable R0 R) : Runs k (E0 ++ R0) (E ++ R) := ⟨E0, E, R0, R, rfl, rfl, h, hr, hs⟩
theorem Runs.peel {k : Nat} {R0 R : List Ev} (h : Runs k R0 R) (hk : k ≤ R0.length) : ∃ x y R0' R', R0 = x ++ R0' ∧ R = y ++ R' ∧ x.length = k ∧ Stable x y ∧ Runs k R0' R' := by
  obtain ⟨D0, D, x, y, rfl, rfl, ⟨bl, rfl, rfl, hb⟩, hx, hs⟩ := h
  rcases bl with _ | ⟨p, bl⟩
  · refine ⟨x, y, [], [], by simp, by simp, by simp at hk; omega, hs, [], [], [], [], rfl, rfl, Full.nil k, by simp, List.Pairwise.nil, fun _ => rfl⟩
  · obtain ⟨hp, hps⟩ := hb p (by simp)
    exact ⟨p.1, p.2, (bl.map (·.1)).flatten ++ x, (bl.map (·.2)).flatten ++ y, by simp, by simp, hp, hps, _, _, x, y, rfl, rfl, ⟨bl, rfl, rfl, fun q hq => hb q (by simp [hq])⟩, hx, hs⟩
theorem Runs.small {k : Nat} {R0 R : List Ev} (h : Runs k R0 R) (hk0 : 0 < k) (hk : R0.length ≤ k) : Stable R0 R := by
  obtain ⟨D0, D, x, y, rfl, rfl, ⟨bl, rfl, rfl, hb⟩, hx, hs⟩ := h
  rcases bl with _ | ⟨p, bl⟩
  · simpa using hs
  · obtain ⟨hp, hps⟩ := hb p (by simp)
    rcases bl with _ | ⟨q, bl⟩
    · have hx0 : x = [] := List.eq_nil_of_length_eq_zero (by simp at hk; omega)
      subst hx0
      have hy0 : y = [] := List.eq_nil_of_length_eq_zero (by have := hs.length; simpa using this)
      subst hy0
      simpa using hps
    · obtain ⟨hq, _⟩ := hb q (by simp)
      simp at hk
      omega
theorem Sorts.mid {E x R cur : List Ev} {a b : Nat} (h : Sorts (E ++ x ++ R) a b cur) (ha : a = E.length) (hb : b = E.length + x.length) : ∃ y, cur = E ++ y ++ R ∧ Stable x y := by
  obtain ⟨_, h2, h3, h4⟩ := h
  have e1 : (E ++ x ++ R).take a = E := by rw [ha, List.append_assoc, List.take_left]
  have e2 : (E ++ x ++ R).take b = E ++ x := by rw [hb, ← List.length_append, List.take_left]
  have e3 : (E ++ x ++ R).drop b = R := by rw [hb, ← List.length_append, List.drop_left]
  have e4 : (E ++ x).drop a = x := by rw [ha, List.drop_left]
  rw [e1] at h2
  rw [e3] at h3
  rw [e2, e4] at h4
  refine ⟨(cur.take b).drop a, ?_, h4⟩
  have := cut3 cur (show a ≤ b by omega)
  rw [h2, h3] at this
  exact this

set_option maxHeartbeats 8000000 in
theorem stableCmp_any (B g n cap : Nat) (l : List Ev) (z : Int) (w : World) (hown : OwnE w B g n cap l) (hz : z = n) (hn : n < 100000) :
    Calls Try.prog 26 #[.slice (some ⟨g, 0, none⟩) n cap, .int .i64 z, .func (.func 19) #[] #[]] w
      fun e w' => e = .returned (.tuple #[]) ∧ ∃ l', OwnE w' B g n cap l' ∧ w.grownBy w' (some g) ∧ Stable l l' := by
  subst hz
  have hln := hown.len
  have HL := hide hln
  clear hln
  go_enter Try.func26, Try.ntmps26
  go_wp2_with fail
  go_loopw [7, 8] (fun i j wr => ∃ (a : Nat) (E0 E R : List Ev), a ≤ n ∧ i = .int .i64 a ∧ j = .int .i64 ((a : Int) + 20) ∧ OwnE wr B g n cap (E ++ R) ∧ w.grownBy wr (some g) ∧ l = E0 ++ R ∧ E0.length = a ∧ Full 20 E0 E) (fun i _ _ => n - (intOf i).toNat)
  case atStart => exact ⟨0, [], [], l, by omega, rfl, by go_num, hown, World.grownBy.refl _ _, rfl, rfl, Full.nil _⟩
  case round =>
    obtain ⟨a, E0, E, R, ha, rfl, rfl, hcur, hg, hl, hE, hF⟩ := hrel
    have hEl : E.length = a := by rw [hF.length, hE]
    have hRl : R.length = n - a := by have := HL.out; rw [hl] at this; simp at this; omega
    have HH := hide (And.intro hl (And.intro hE (And.intro hF (And.intro hEl hRl))))
    clear hl hE hF hEl hRl
    by_cases hlt : a + 20 ≤ n
    · obtain ⟨x, R', hR, hx, hR'⟩ := split_at R (k := 20) (by have := HH.out; omega)
      have hcur2 : OwnE wr B g n cap (E ++ x ++ R') := by rw [hR] at hcur; simpa using hcur
      have HX := hide (And.intro hR (And.intro hx hR'))
      clear hR hx hR' hcur
      go_wp2_with (go_at_call 30; refine (ins_any B g n cap _ _ _ _ hcur2 (by omega) (by omega) (by omega) (by omega)).mono ?_; rintro e w2 ⟨rfl, l2, hc2, hg2, hs2⟩)
      obtain ⟨y, e2, hs3⟩ := hs2.mid (by have := HH.out; omega) (by have := HH.out; have := HX.out; omega)
      have hc3 : OwnE w2 B g n cap ((E ++ y) ++ R') := e2 ▸ hc2
      have HS := hide hs3
      clear hs2 hs3 hc2 e2
      go_roundw
      case rel => exact ⟨a + 20, E0 ++ x, E ++ y, R', by omega, by go_num, by congr 1 <;> omega, hc3, hg.trans hg2, by have h1 := HH.out.1; have h2 := HX.out.1; rw [h1, h2]; simp, by have h1 := HH.out.2.1; have h2 := HX.out.2.1; simp; omega, HH.out.2.2.1.snoc HX.out.2.1 HS.out⟩
      case measure => simp [intOf]; omega
    · have hcur2 : OwnE wr B g n cap (E ++ R ++ []) := by simpa using hcur
      clear hcur
      go_wp2_with (go_at_call 30; refine (ins_any B g n cap _ _ _ _ hcur2 (by omega) (by omega) (by omega) (by omega)).mono ?_; rintro e w2 ⟨rfl, l2, hc2, hg2, hs2⟩)
      obtain ⟨y, e2, hs3⟩ := hs2.mid (by have := HH.out; omega) (by have := HH.out; omega)
      have hc3 : OwnE w2 B g n cap (E ++ y) := by rw [e2] at hc2; simpa using hc2
      have hR1 : Runs 20 l (E ++ y) := by
        have h1 := HH.out
        rw [h1.1]
        exact h1.2.2.1.runs (by omega) hs3
      have HR1 := hide hR1
      have hg3 := hg.trans hg2
      clear hs2 hs3 hc2 e2 hR1 hcur2 hg hg2
      go_loopw [6] (fun i wr => ∃ (bs : Nat) (cur : List Ev), 0 < bs ∧ bs ≤ 400000 ∧ i = .int .i64 bs ∧ OwnE wr B g n cap cur ∧ w.grownBy wr (some g) ∧ Runs bs l cur) (fun i _ => n - (intOf i).toNat)
      case atStart => exact ⟨20, E ++ y, by omega, by omega, rfl, hc3, hg3, HR1.out⟩
      case round => as_aux_lemma =>
        obtain ⟨bs, cur, hbs, hbs2, rfl, hcur, hg, hR⟩ := hrel
        have HR := hide hR
        clear hR
        by_cases hlt2 : bs < n
        · obtain ⟨wo, rfl⟩ : ∃ wo : World, wo = wr := ⟨_, rfl⟩
          go_wp2_with fail
          go_loopw [7, 8] (fun i j wr => ∃ (a : Nat) (E0 E R0 R : List Ev), a ≤ n ∧ i = .int .i64 a ∧ j = .int .i64 ((a : Int) + 2 * (bs : Int)) ∧ OwnE wr B g n cap (E ++ R) ∧ w.grownBy wr (some g) ∧ l = E0 ++ R0 ∧ E0.length = a ∧ Full (2 * bs) E0 E ∧ Runs bs R0 R) (fun i _ _ => n - (intOf i).toNat)
          case atStart => exact ⟨0, [], [], l, cur, by omega, rfl, by congr 1; omega, hcur, hg, rfl, rfl, Full.nil _, HR.out⟩
          case round => as_aux_lemma =>
            obtain ⟨a, E0, E, R0, R, ha, rfl, rfl, hcu, hgu, hl, hE, hF, hRR⟩ := hrel
            have hEl : E.length = a := by rw [hF.length, hE]
            have hRl : R0.length = n - a := by have := HL.out; rw [hl] at this; simp at this; omega
            have HH := hide (And.intro hl (And.intro hE (And.intro hF (And.intro hEl (And.intro hRl hRR)))))
            clear hl hE hF hEl hRl hRR
            by_cases hlt3 : a + 2 * bs ≤ n
            · obtain ⟨x1, y1, R1, T1, e1, f1, l1, s1, r1⟩ := HH.out.2.2.2.2.2.peel (by have := HH.out; omega)
              obtain ⟨x2, y2, R2, T2, e2, f2, l2, s2, r2⟩ := r1.peel (by have h1 := HH.out.2.2.2.2.1; rw [e1] at h1; simp at h1; omega)
              have hcu2 : OwnE wr B g n cap (E ++ y1 ++ y2 ++ T2) := by rw [f1, f2] at hcu; simpa using hcu
              have ly1 := s1.length
              have ly2 := s2.length
              have HX := hide (And.intro e1 (And.intro e2 (And.intro l1 (And.intro l2 (And.intro s1 (And.intro s2 (And.intro r2 (And.intro ly1 ly2))))))))
              clear e1 f1 l1 s1 r1 e2 f2 l2 s2 r2 ly1 ly2 hcu
              go_wp2_with (go_at_call 31; refine (sym_any B g n cap E y1 y2 T2 _ _ _ _ hcu2 (by have := HH.out; omega) (by have := HH.out; have := HX.out; omega) (by have := HH.out; have := HX.out; omega) HX.out.2.2.2.2.1.1 HX.out.2.2.2.2.2.1.1 (by have := HX.out; omega) (by have := HX.out; omega) (by omega)).mono ?_; rintro e w2 ⟨rfl, Z, hc2, hg2, hs2⟩)
              have hz := HX.out.2.2.2.2.1.append_same HX.out.2.2.2.2.2.1 hs2
              have HZ := hide hz
              clear hs2 hz
              go_roundw
              case rel => exact ⟨a + 2 * bs, E0 ++ (x1 ++ x2), E ++ Z, R2, T2, by omega, by congr 1 <;> omega, by congr 1 <;> omega, hc2, hgu.trans hg2, by have h1 := HH.out.1; have h2 := HX.out.1; have h3 := HX.out.2.1; rw [h1, h2, h3]; simp, by have h1 := HH.out.2.1; have h2 := HX.out; simp; omega, HH.out.2.2.1.snoc (by have h2 := HX.out; simp; omega) HZ.out, HX.out.2.2.2.2.2.2.1⟩
              case measure => simp [intOf]; omega
            · by_cases hlt4 : a + bs < n
              · obtain ⟨x1, y1, R1, T1, e1, f1, l1, s1, r1⟩ := HH.out.2.2.2.2.2.peel (by have := HH.out; omega)
                have hR1 : R1.length + bs = n - a := by have h1 := HH.out.2.2.2.2.1; rw [e1] at h1; simp at h1; omega
                have s2 := r1.small hbs (by omega)
                have hcu2 : OwnE wr B g n cap (E ++ y1 ++ T1 ++ []) := by rw [f1] at hcu; simpa using hcu
                have ly1 := s1.length
                have ly2 := s2.length
                have HX := hide (And.intro e1 (And.intro l1 (And.intro s1 (And.intro s2 (And.intro ly1 (And.intro ly2 hR1))))))
                clear e1 f1 l1 s1 r1 s2 ly1 ly2 hcu hR1
                go_wp2_with (go_at_call 31; refine (sym_any B g n cap E y1 T1 [] _ _ _ _ hcu2 (by have := HH.out; omega) (by have := HH.out; have := HX.out; omega) (by have := HH.out; have := HX.out; omega) HX.out.2.2.1.1 HX.out.2.2.2.1.1 (by have := HX.out; omega) (by have := HX.out; omega) (by omega)).mono ?_; rintro e w2 ⟨rfl, Z, hc2, hg2, hs2⟩)
                have hz : Runs (2 * bs) l (E ++ Z) := by
                  have hz := HX.out.2.2.1.append_same HX.out.2.2.2.1 hs2
                  rw [← HX.out.1] at hz
                  rw [HH.out.1]
                  exact HH.out.2.2.1.runs (by have := HH.out; omega) hz
                have hc3 : OwnE w2 B g n cap (E ++ Z) := by simpa using hc2
                have HZ := hide hz
                clear hs2 hz hc2
                go_roundw
                case rel => exact ⟨2 * bs, _, by omega, by omega, by congr 1; omega, hc3, hgu.trans hg2, HZ.out⟩
                case measure => simp [intOf]; omega
              · have s2 := HH.out.2.2.2.2.2.small hbs (by have := HH.out; omega)
                have hz : Runs (2 * bs) l (E ++ R) := by
                  rw [HH.out.1]
                  exact HH.out.2.2.1.runs (by have := HH.out; omega) s2
                have HZ := hide hz
                clear s2 hz
                go_wp2_with fail
                go_roundw
                case rel => exact ⟨2 * bs, _, by omega, by omega, by congr 1; omega, hcu, hgu, HZ.out⟩
                case measure => simp [intOf]; omega
        · have hst := HR.out.small hbs (by have := HL.out; omega)
          have HS := hide hst
          clear hst
          go_wp2_with fail
          go_end0
          exact ⟨rfl, cur, hcur, hg, HS.out⟩
end Go.Proofs.Ytbabdabdohljcaa
