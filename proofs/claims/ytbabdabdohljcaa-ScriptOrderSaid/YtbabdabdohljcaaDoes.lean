/- brackenlaw10.ScriptDoes. -/
import Derived.Test.YtbabdabdohljcaaLive
import Derived.Test.YtbabdabdohljcaaRefOf
namespace Go.Proofs.Ytbabdabdohljcaa
open Go.RowKit
theorem strikeV_length (l : List Ev) (ws : List Int) : (strikeV l ws).length ≤ ws.length := by
  unfold strikeV
  split
  · simp
  · split
    · simp
    · rw [strikes_length]; exact Nat.le_refl _
/-- Each of n elements, sz cells wide, has a word at cell off; nothing is frozen. -/
def Marks (w : World) (A : Option Addr) (n sz off : Nat) : Prop := 0 < n → ∃ g, A = some ⟨g, 0, none⟩ ∧ (∀ k, k < n → ∃ m, w.cell? ⟨g, k * sz + off, none⟩ = some (.int .u64 m)) ∧ ∀ j, w.frozen? ⟨g, j, none⟩ = false
theorem Marks.set_ {w : World} {g n sz off : Nat} (h : Marks w (some ⟨g, 0, none⟩) n sz off) (q : Nat) (x : Int) : Marks (w.setCell ⟨g, q, none⟩ (.int .u64 x)) (some ⟨g, 0, none⟩) n sz off := by
  intro hn
  obtain ⟨g', e, hc, hf⟩ := h hn
  injection e with e
  injection e with e
  subst e
  refine ⟨g, rfl, fun k hk => ?_, fun j => by rw [World.frozen?_setCell]; exact hf j⟩
  obtain ⟨m, hm⟩ := hc k hk
  by_cases hq : k * sz + off = q
  · subst hq
    exact ⟨x, World.cell?_setCell_same w _ _ hm⟩
  · exact ⟨m, (World.cell?_setCell_other w _ _ _ (by intro e; injection e with _ e; exact hq e.symm)).trans hm⟩
theorem Marks.drewN {w : World} {A : Option Addr} {n sz off : Nat} (h : Marks w A n sz off) (k : Nat) : Marks (w.drewN k) A n sz off := h
theorem Own.marks {α : Type} {cells : α → List Value} {e sz off : Nat} {w : World} {B c : Nat} {A : Option Addr} {l : List α} (len : ∀ x, (cells x).length = sz) (h : Own cells e sz w B (.slice A l.length c) l) (hm : ∀ x, ∃ m, (cells x)[off]? = some (.int .u64 m)) : Marks w A l.length sz off := by
  intro hn
  obtain ⟨g, rfl, _, _⟩ := h.at_ hn
  refine ⟨g, rfl, fun k hk => ?_, fun j => h.free j⟩
  obtain ⟨m, hm⟩ := hm l[k]
  exact ⟨m, h.cell len (List.getElem?_eq_getElem hk) hm⟩
theorem Marks.kept {w w' : World} {A : Option Addr} {n sz off : Nat} {row : Option Nat} (h : Marks w A n sz off) (hg : w.grownBy w' row) (hr : ∀ g, 0 < n → A = some ⟨g, 0, none⟩ → g < w.heap.size ∧ some g ≠ row) : Marks w' A n sz off := by
  intro hn
  obtain ⟨g, e, hc, hf⟩ := h hn
  obtain ⟨h1, h2⟩ := hr g hn e
  have hb := hg.block g h1 h2
  have e1 : ∀ j, w'.cell? ⟨g, j, none⟩ = w.cell? ⟨g, j, none⟩ := fun j => by simp only [World.cell?, hb]
  have e2 : ∀ j, w'.frozen? ⟨g, j, none⟩ = w.frozen? ⟨g, j, none⟩ := fun j => by simp only [World.frozen?, hb]
  exact ⟨g, e, fun k hk => by obtain ⟨m, hm⟩ := hc k hk; exact ⟨m, (e1 _).trans hm⟩, fun j => (e2 j).trans (hf j)⟩
theorem grown_setCell (w : World) (p : Addr) (u : Value) : w.grownBy (w.setCell p u) (some p.block) :=
  ⟨rfl, rfl, rfl, by simp [World.setCell], fun k _ hk => Below.heap_setCell _ _ _ _ (fun e => hk (by rw [e]))⟩
set_option maxRecDepth 100000 in
set_option maxHeartbeats 16000000 in
theorem does_any (A B : Option Addr) (n ca m cb : Nat) (l : List Ev) (ws : List Int) (item try_ win z : Int) (w : World) (hl : Rd Ev.cells 6 w w.heap.size A n l) (hw : Rd u64c 1 w w.heap.size B m ws) (hc : n ≤ ca) (hnil : B = none → cb = 0) (hfit : ∀ x ∈ l, x.fit) :
    Calls Try.prog 3 #[.slice A n ca, .slice B m cb, .int .i64 item, .int .i64 try_, .int .i64 win, .int .i64 z] w fun e w' => e = .returned (.bool true) ∧ Below w.heap.size w w' := by
  have HFit := hide hfit
  clear hfit
  go_enter Try.func3, Try.ntmps3
  go_upto_region 3 with (go_at_call 5; refine (live_any _).mono ?_; rintro e w1 ⟨rfl, hb1⟩)
  by_cases hbig : (60 < n ∧ n ≤ 1024 ∨ 1030 < n) ∨ (60 < m ∧ m ≤ 16384 ∨ 16390 < m)
  · rcases hbig with (⟨h1, h2⟩ | h3) | h4
    · have h1' : (60 : Int) < n := by omega
      have h2' : (n : Int) ≤ 1024 := by omega
      go_wp2_with fail
      go_ret
      exact ⟨rfl, hb1⟩
    · have h1' : (60 : Int) < n := by omega
      have h2' : ¬ (n : Int) ≤ 1024 := by omega
      have h3' : (1030 : Int) < n := by omega
      go_wp2_with fail
      go_ret
      exact ⟨rfl, hb1⟩
    · have hm1 : (60 : Int) < m := by omega
      rcases h4 with ⟨_, h5⟩ | h5
      · have hm2 : (m : Int) ≤ 16384 := by omega
        by_cases h6 : (60 : Int) < n
        · by_cases h7 : (n : Int) ≤ 1024
          · go_wp2_with fail
            go_ret
            exact ⟨rfl, hb1⟩
          · by_cases h8 : (1030 : Int) < n
            all_goals
              go_wp2_with fail
              go_ret
              exact ⟨rfl, hb1⟩
        · have h8 : ¬ (1030 : Int) < n := by omega
          go_wp2_with fail
          go_ret
          exact ⟨rfl, hb1⟩
      · have hm2 : ¬ (m : Int) ≤ 16384 := by omega
        have hm3 : (16390 : Int) < m := by omega
        by_cases h6 : (60 : Int) < n
        · by_cases h7 : (n : Int) ≤ 1024
          · go_wp2_with fail
            go_ret
            exact ⟨rfl, hb1⟩
          · by_cases h8 : (1030 : Int) < n
            all_goals
              go_wp2_with fail
              go_ret
              exact ⟨rfl, hb1⟩
        · have h8 : ¬ (1030 : Int) < n := by omega
          go_wp2_with fail
          go_ret
          exact ⟨rfl, hb1⟩
  · have hn3 : ¬ (1030 : Int) < n := by omega
    have hm3 : ¬ (16390 : Int) < m := by omega
    have hn4 : n ≤ 1030 := by omega
    have hm4 : m ≤ 16390 := by omega
    have hcn : (60 : Int) < n ∧ ¬ (n : Int) ≤ 1024 ∨ ¬ (60 : Int) < n := by omega
    have hcm : (60 : Int) < m ∧ ¬ (m : Int) ≤ 16384 ∨ ¬ (60 : Int) < m := by omega
    clear hbig
    rcases hcn with ⟨h1, h2⟩ | h1 <;> rcases hcm with ⟨h4, h5⟩ | h4
    all_goals
      go_upto_region 5 with fail
      have hb0 := hb1
      have hl1 := hl.later hb1
      have hw1 := hw.later hb1
      have hi : ∀ x : Ev, (Ev.cells x).length = 6 := fun _ => rfl
      have hu : ∀ x : Int, (u64c x).length = 1 := fun _ => rfl
      have hlw := hl
      have hww := hw
      clear hl hw
      go_upto_region 6 with (at_builtin; refine wpList_app ekEv _ rfl _ _ rfl w1.heap.size (.slice none 0 0) [] rfl (Own.nil _ _) w1.heap.size A n ca l rfl hl1 (by simp; omega) (Nat.le_refl _) ?_; intro v13 w2 hv13 hg _; rw [List.nil_append] at hv13; have hb2 : Below w1.heap.size w1 w2 := (Own.nil (cells := Ev.cells) (e := 38) (sz := 6) w1 w1.heap.size).app_below (Below.refl _ _) (Nat.le_refl _) hg)
      have hl2 := hl1.later hb2
      have hw2 := hw1.later hb2
      have hc2 := below_two hb0 hb2 hb0.size
      clear hb0 hb1 hl1 hw1 hg
      go_upto_region 7 with (at_builtin; refine wpList_app ekU _ rfl _ _ rfl w2.heap.size (.slice none 0 0) [] rfl (Own.nil _ _) w2.heap.size B m cb ws rfl hw2 (by simp; omega) (Nat.le_refl _) ?_; intro v14 w3 hv14 hg _; rw [List.nil_append] at hv14; have hb3 : Below w2.heap.size w2 w3 := (Own.nil (cells := u64c) (e := 36) (sz := 1) w2 w2.heap.size).app_below (Below.refl _ _) (Nat.le_refl _) hg)
      have hl3 := hl2.later hb3
      have hw3 := hw2.later hb3
      have hc3 := below_two hc2 hb3 hc2.size
      have h13 := hv13.below hb3
      have z3 := hb3.size
      have z03 := hc3.size
      have b13 := hv13.lt
      have b14 := hv14.lt
      clear hb2 hl2 hw2 hg hc2 hv13
      go_upto_region 8 with (go_at_call 6; refine (of_any A n ca l item try_ win _ hl3).mono ?_; rintro e w4 ⟨v15, r15, rfl, hv15, hb4, ha1, ha2⟩)
      have hl4 := hl3.later hb4
      have hw4 := hw3.later hb4
      have hc4 := below_two hc3 hb4 hc3.size
      have h13b := h13.below hb4
      have b15 := hv15.lt
      have h14 := hv14.below hb4
      have z4 := hb4.size
      clear hb4 hl3 hw3 hc3 h13 hv14
      go_upto_region 9 with (go_at_call 7; refine (rof_any A n ca l item try_ win _ hl4).mono ?_; rintro e w5 ⟨v17, r17, rfl, hv17, hb5, hb51, hb52⟩)
      have hl5 := hl4.later hb5
      have hw5 := hw4.later hb5
      have hc5 := below_two hc4 hb5 hc4.size
      have h13c := h13b.below hb5
      have h14b := h14.below hb5
      have h15 := hv15.below hb5
      have z5 := hb5.size
      clear hb5 hl4 hw4 hc4 h13b h14 hv15
      go_upto_region 10 with (go_at_call 8; refine (sparse_any A n ca l _ hl5 HFit.out).mono ?_; rintro e w6 ⟨rfl, hb6⟩)
      have hl6 := hl5.later hb6
      have hw6 := hw5.later hb6
      have hc6 := below_two hc5 hb6 hc5.size
      have h13d := h13c.below hb6
      have h14c := h14b.below hb6
      have h15b := h15.below hb6
      have h17 := hv17.below hb6
      have z6 := hb6.size
      clear hb6 hl5 hw5 hc5 h13c h14b h15 hv17
      go_upto_region 11 with (go_at_call 9; refine (rsparse_any A n ca l _ hl6 hc HFit.out).mono ?_; rintro e w7 ⟨rfl, hb7⟩)
      have hl7 := hl6.later hb7
      have hw7 := hw6.later hb7
      have hc7 := below_two hc6 hb7 hc6.size
      have h13e := h13d.below hb7
      have h14d := h14c.below hb7
      have h15c := h15b.below hb7
      have h17b := h17.below hb7
      have z7 := hb7.size
      clear hb7 hl6 hw6 hc6 h13d h14c h15b h17
      go_upto_region 12 with (go_at_call 10; refine (quiet_any A n ca l z _ hl7).mono ?_; rintro e w8 ⟨rfl, hb8⟩)
      have hl8 := hl7.later hb8
      have hw8 := hw7.later hb8
      have hc8 := below_two hc7 hb8 hc7.size
      have h13f := h13e.below hb8
      have h14e := h14d.below hb8
      have h15d := h15c.below hb8
      have h17c := h17b.below hb8
      have z8 := hb8.size
      clear hb8 hl7 hw7 hc7 h13e h14d h15c h17b
      go_upto_region 13 with (go_at_call 11; refine (rquiet_any A n ca l z _ hl8).mono ?_; rintro e w9 ⟨rfl, hb9⟩)
      have hl9 := hl8.later hb9
      have hw9 := hw8.later hb9
      have hc9 := below_two hc8 hb9 hc8.size
      have h13g := h13f.below hb9
      have h14f := h14e.below hb9
      have h15e := h15d.below hb9
      have h17d := h17c.below hb9
      have z9 := hb9.size
      clear hb9 hl8 hw8 hc8 h13f h14e h15d h17c
      go_upto_region 14 with (go_at_call 12; refine (strike_any A B n ca m cb l ws _ hl9 hw9 hnil).mono ?_; rintro e w10 ⟨v27, rfl, hv27, hb10⟩)
      have hl10 := hl9.later hb10
      have hw10 := hw9.later hb10
      have hc10 := below_two hc9 hb10 hc9.size
      have h13h := h13g.below hb10
      have h14g := h14f.below hb10
      have h15f := h15e.below hb10
      have h17e := h17d.below hb10
      have z10 := hb10.size
      clear hb10 hl9 hw9 hc9 h13g h14f h15e h17d
      go_upto_region 15 with (go_at_call 13; refine (rstrike_any A B n ca m cb l ws _ hl10 hw10).mono ?_; rintro e w11 ⟨v29, rfl, hv29, hb11⟩)
      have hl11 := hl10.later hb11
      have hw11 := hw10.later hb11
      have hc11 := below_two hc10 hb11 hc10.size
      have h13i := h13h.below hb11
      have h14h := h14g.below hb11
      have h15g := h15f.below hb11
      have h17f := h17e.below hb11
      have h27 := hv27.below hb11
      have z11 := hb11.size
      clear hb11 hl10 hw10 hc10 h13h h14g h15f h17e hv27
      have hrr : r15 = r17 := by
        by_cases h : 1024 < n
        · rw [ha1 h, hb51 h]
        · exact Stable.unique (ha2 h) (hb52 h)
      have hrl : r15.length ≤ 1030 := by
        by_cases h : 1024 < n
        · rw [ha1 h]; simp
        · have h1 := (ha2 h).length
          have h2 := List.length_filter_le (Ev.mine item try_ win) l
          have h3 := hl11.1
          omega
      have hsl : (strikeV l ws).length ≤ 16390 := by
        have h1 := strikeV_length l ws
        have h2 := hw11.1
        omega
      subst hrr
      obtain ⟨A15, c15, rfl, k15⟩ := h15g.val
      obtain ⟨A17, c17, rfl, k17⟩ := h17f.val
      obtain ⟨A27, c27, rfl, k27⟩ := h27.val
      obtain ⟨A29, c29, rfl, k29⟩ := hv29.val
      have q15 := (h15g.rd hi).2
      have q17 := (h17f.rd hi).2
      have q27 := (h27.rd hu).2
      have q29 := (hv29.rd hu).2
      clear ha1 ha2 hb51 hb52
      go_upto_region 16 with (first
        | (go_at_call 14; refine (same_any A15 A17 _ _ c15 c17 r15 r15 _ q15 q17 (by omega)).mono ?_; rintro e wa ⟨rfl, nd1, rfl⟩; rw [show decide (r15 = r15) = true from decide_eq_true rfl])
        | (go_at_call 15; refine (sameW_any A27 A29 _ _ c27 c29 (strikeV l ws) (strikeV l ws) (w11.drewN nd1) q27 q29 (by omega)).mono ?_; rintro e wa ⟨rfl, nd2, rfl⟩; rw [show decide (strikeV l ws = strikeV l ws) = true from decide_eq_true rfl])
        | (go_at_call 16; refine (check_any _ _ _ _).mono ?_; rintro e w' ⟨rfl, rfl⟩)
        | (go_at_call 17; refine (rcheck_any _ _ _ _).mono ?_; rintro e w' ⟨rfl, rfl⟩))
      have mk15 := h15g.marks (off := 5) hi (fun x => ⟨_, rfl⟩)
      have mk27 := h27.marks (off := 0) hu (fun x => ⟨_, rfl⟩)
      obtain ⟨wb, hwb⟩ : ∃ wb, wb = w11.drewN (nd1 + nd2) := ⟨_, rfl⟩
      have mk15b : Marks wb A15 r15.length 6 5 := by rw [hwb]; exact mk15
      have mk27b : Marks wb A27 (strikeV l ws).length 1 0 := by rw [hwb]; exact mk27
      have o13 : Own Ev.cells 38 6 wb w1.heap.size v13 l := by rw [hwb]; exact h13i
      have o14 : Own u64c 36 1 wb w2.heap.size v14 ws := by rw [hwb]; exact h14h
      have g15 := h15g.ge
      have g27 := h27.ge
      have b27 := h27.lt
      have hcb : Below w.heap.size w wb := by rw [hwb]; exact below_drewN hc11 _
      have hsb : wb.heap.size = w11.heap.size := by rw [hwb]; rfl
      rw [← hwb]
      clear hwb mk15 mk27 h13i h14h h15g h17f h27 hv29 q15 q17 q27 q29
      go_wp2_with fail
      go_loopw [165] (fun i wi => ∃ k : Nat, k ≤ r15.length ∧ i = .int .i64 k ∧ wb.grownBy wi (Value.slice A15 r15.length c15).ownBlock ∧ Marks wi A15 r15.length 6 5) (fun i _ => r15.length - (intOf i).toNat)
      case atStart => exact ⟨0, Nat.zero_le _, rfl, World.grownBy.refl _ _, mk15b⟩
      case round =>
        obtain ⟨k, hk, rfl, hg, hM⟩ := hrel
        by_cases hkl : k < r15.length
        · obtain ⟨g, rfl, hcl, hfr⟩ := hM (by omega)
          obtain ⟨mv, hmv⟩ := hcl k hkl
          have hfk := hfr (k * 6 + 5)
          have hkl2 : (k : Int) < (r15.length : Int) := by omega
          go_wp2_with fail
          go_roundw
          case rel => exact ⟨k + 1, by omega, by go_num, hg.trans (grown_setCell _ _ _), hM.set_ _ _⟩
          case measure => simp [intOf]; omega
        · have hkl2 : ¬ (k : Int) < (r15.length : Int) := by omega
          have p13 := o13.grown hg (by
            rcases h1 : v13.ownBlock with _ | q
            · exact .inl rfl
            · refine .inr (fun e => ?_)
              have h2 := b13 q h1
              have h3 := g15 q e.symm
              omega)
          have p14 := o14.grown hg (by
            rcases h1 : v14.ownBlock with _ | q
            · exact .inl rfl
            · refine .inr (fun e => ?_)
              have h2 := b14 q h1
              have h3 := g15 q e.symm
              omega)
          have p27 := mk27b.kept hg (fun g _ e => by
            subst e
            have h1 := b27 g rfl
            have h2 := g27 g rfl
            refine ⟨by omega, fun e => ?_⟩
            have h3 := b15 g e.symm
            omega)
          have pcb := hcb.grown hg hcb.size (fun q hq => by have := g15 q hq; omega)
          have hgs := hg.size
          clear hg hM mk15b mk27b hcb o13 o14
          obtain ⟨wd, hwd⟩ : ∃ wd, wd = wr := ⟨_, rfl⟩
          rw [← hwd] at p13 p14 p27 pcb hgs ⊢
          clear hwd
          go_wp2_with fail
          go_loopw [179] (fun i wi => ∃ k : Nat, k ≤ (strikeV l ws).length ∧ i = .int .i64 k ∧ wd.grownBy wi (Value.slice A27 (strikeV l ws).length c27).ownBlock ∧ Marks wi A27 (strikeV l ws).length 1 0) (fun i _ => (strikeV l ws).length - (intOf i).toNat)
          case atStart => exact ⟨0, Nat.zero_le _, rfl, World.grownBy.refl _ _, p27⟩
          case round =>
            obtain ⟨k, hk, rfl, hg, hM⟩ := hrel
            by_cases hkl : k < (strikeV l ws).length
            · obtain ⟨g, rfl, hcl, hfr⟩ := hM (by omega)
              obtain ⟨mv, hmv⟩ := hcl k hkl
              rw [Nat.mul_one, Nat.add_zero] at hmv
              have hfk := hfr k
              have hkl2 : (k : Int) < ((strikeV l ws).length : Int) := by omega
              go_wp2_with fail
              go_roundw
              case rel => exact ⟨k + 1, by omega, by go_num, hg.trans (grown_setCell _ _ _), hM.set_ _ _⟩
              case measure => simp [intOf]; omega
            · have hkl2 : ¬ (k : Int) < ((strikeV l ws).length : Int) := by omega
              have r13 := p13.grown hg (by
                rcases h1 : v13.ownBlock with _ | q
                · exact .inl rfl
                · refine .inr (fun e => ?_)
                  have h2 := b13 q h1
                  have h3 := g27 q e.symm
                  omega)
              have r14 := p14.grown hg (by
                rcases h1 : v14.ownBlock with _ | q
                · exact .inl rfl
                · refine .inr (fun e => ?_)
                  have h2 := b14 q h1
                  have h3 := g27 q e.symm
                  omega)
              have rcb := pcb.grown hg pcb.size (fun q hq => by have := g27 q hq; omega)
              clear hg hM p27 pcb p13 p14
              obtain ⟨A13, c13, rfl, k13⟩ := r13.val
              obtain ⟨A14, c14, rfl, k14⟩ := r14.val
              have q13 := (r13.rd hi).2
              have q14 := (r14.rd hu).2
              have ql := hlw.later rcb
              have qw := hww.later rcb
              obtain ⟨we, hwe⟩ : ∃ we, we = wr := ⟨_, rfl⟩
              rw [← hwe] at q13 q14 ql qw rcb ⊢
              clear hwe r13 r14
              go_wp2_with (first
                | (go_at_call 14; refine (same_any A A13 _ _ ca c13 l l we ql q13 (by omega)).mono ?_; rintro e wa ⟨rfl, nd3, rfl⟩; rw [show decide (l = l) = true from decide_eq_true rfl])
                | (go_at_call 15; refine (sameW_any B A14 _ _ cb c14 ws ws (we.drewN nd3) qw q14 (by omega)).mono ?_; rintro e wa ⟨rfl, nd4, rfl⟩; rw [show decide (ws = ws) = true from decide_eq_true rfl]))
              go_ret
              exact ⟨rfl, below_drewN rcb _⟩
end Go.Proofs.Ytbabdabdohljcaa
