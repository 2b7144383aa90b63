/- brackenref10.Of: the events of a window, in stable order of their ticks. -/
import Derived.Test.YtbabdabdohljcaaOf
import Derived.Deep.DeepCutAuto
import Derived.Deep.CutBlock
namespace Go.Proofs.Ytbabdabdohljcaa
open Go.RowKit
theorem Stable.placed {o r : List Ev} {x : Ev} {q : Nat} (h : Stable o r) (hv : ∀ z ∈ r.drop q, x.tick < z.tick) (hq : q = 0 ∨ ∃ j y, q = j + 1 ∧ r[j]? = some y ∧ y.tick ≤ x.tick) : Stable (o ++ [x]) (r.take q ++ [x] ++ r.drop q) := by
  have h2 : Stable o (r.take q ++ r.drop q) := by rw [List.take_append_drop]; exact h
  have hu : ∀ z ∈ r.take q, z.tick ≤ x.tick := by
    intro z hz
    rcases hq with e | ⟨j, y, e, hy, hle⟩
    · subst e; simp at hz
    · obtain ⟨t, ht, e2⟩ := List.getElem_of_mem hz
      simp at ht
      have hz2 : r[t]? = some z := by rw [← e2, List.getElem_take, List.getElem?_eq_getElem]
      have := sorted_get h.1 hz2 hy (by omega)
      omega
  have := Stable.insert h2 hv hu
  simpa using this
theorem drop_pred {r : List Ev} {x y : Ev} {j : Nat} (hv : ∀ z ∈ r.drop (j + 1), x.tick < z.tick) (hy : r[j]? = some y) (hlt : x.tick < y.tick) : ∀ z ∈ r.drop j, x.tick < z.tick := by
  obtain ⟨hj, e⟩ := List.getElem?_eq_some_iff.1 hy
  rw [List.drop_eq_getElem_cons hj, e]
  intro z hz
  rcases List.mem_cons.1 hz with e | e
  · rw [e]; exact hlt
  · exact hv z e
set_option maxRecDepth 100000 in
set_option maxHeartbeats 8000000 in
theorem rof_any (A : Option Addr) (n ca : Nat) (l : List Ev) (item try_ win : Int) (w : World) (hl : Rd Ev.cells 6 w w.heap.size A n l) :
    Calls Try.prog 7 #[.slice A n ca, .int .i64 item, .int .i64 try_, .int .i64 win] w fun e w' => ∃ v r, e = .returned (.tuple #[v, .int .i64 (chk n)]) ∧ Own Ev.cells 38 6 w' w.heap.size v r ∧ Below w.heap.size w w' ∧ (1024 < n → r = []) ∧ (¬ 1024 < n → Stable (l.filter (Ev.mine item try_ win)) r) := by
  by_cases hn : 1024 < n
  · have hk : chk n = 1 := by unfold chk; rw [if_pos hn]
    rw [hk]
    have HK := hide hk
    clear hk
    go_enter Try.func7, Try.ntmps7
    go_wp2_with (go_at_call 17; refine (rcheck_any _ _ _ _).mono ?_; rintro e w' ⟨rfl, rfl⟩; rw [HK.out])
    go_ret2
    exact ⟨_, [], rfl, Own.nil _ _, Below.refl _ _, fun _ => rfl, fun h => absurd hn h⟩
  · have hk : chk n = 0 := by unfold chk; rw [if_neg hn]
    rw [hk]
    have HK := hide hk
    clear hk
    go_enter Try.func7, Try.ntmps7
    go_wp2_with (go_at_call 17; refine (rcheck_any _ _ _ _).mono ?_; rintro e w' ⟨rfl, rfl⟩; rw [HK.out])
    go_loopw [11, 23] (fun v i wr => ∃ (k : Nat) (r : List Ev), k ≤ n ∧ i = .int .i64 k ∧ Own Ev.cells 38 6 wr w.heap.size v r ∧ Below w.heap.size w wr ∧ Stable ((l.take k).filter (Ev.mine item try_ win)) r) (fun _ i _ => n - (intOf i).toNat)
    case atStart => exact ⟨0, [], Nat.zero_le _, rfl, Own.nil _ _, Below.refl _ _, List.Pairwise.nil, fun _ => rfl⟩
    case round =>
      obtain ⟨k, r, hk, rfl, hv, hb, hS⟩ := hrel
      have HS := hide hS
      clear hS
      by_cases hlt : k < n
      · obtain ⟨a, oa, x, rfl, _, hx, hca⟩ := (hl.below hb).at_ hlt
        obtain ⟨a0, a1, a2, a3, a4, a5⟩ := Ev.at6 hca
        have hf := filter_take_succ (p := Ev.mine item try_ win) hx
        have hlen : ((l.take k).filter (Ev.mine item try_ win)).length ≤ k := Nat.le_trans (List.length_filter_le _ _) (List.length_take_le _ _)
        have hrl : r.length ≤ k := by have := HS.out.length; omega
        have HF := hide hf
        clear hca hx hf hlen
        have hno : x.mine item try_ win = false → (l.take (k + 1)).filter (Ev.mine item try_ win) = (l.take k).filter (Ev.mine item try_ win) := fun h => by rw [HF.out, h]; simp
        have HN := hide hno
        clear hno
        rcases h1 : x.item != item with _ | _
        · rcases h2 : x.try_ != try_ with _ | _
          · rcases h3 : x.win != win with _ | _
            · have H1 := hide (show (l.take (k + 1)).filter (Ev.mine item try_ win) = (l.take k).filter (Ev.mine item try_ win) ++ [x] by
                rw [HF.out]
                have e1 : x.item = item := by simpa using h1
                have e2 : x.try_ = try_ := by simpa using h2
                have e3 : x.win = win := by simpa using h3
                simp [Ev.mine, e1, e2, e3])
              obtain ⟨A1, c1, rfl, hc1⟩ := hv.val
              go_upto_block 2 with fail
              obtain ⟨wx, hwx⟩ : ∃ wx, wx = wr.alloc (.cells #[.int .i64 x.item, .int .i64 x.try_, .int .i64 x.win, .int .i64 x.tick, .int .i64 x.addr, .int .u64 x.mask] 38) := ⟨_, rfl⟩
              have hX : Blk wx wr.heap.size 38 #[.int .i64 x.item, .int .i64 x.try_, .int .i64 x.win, .int .i64 x.tick, .int .i64 x.addr, .int .u64 x.mask] := by rw [hwx]; exact Blk.new _ _ _
              have hvx : Own Ev.cells 38 6 wx w.heap.size (.slice A1 r.length c1) r := by rw [hwx]; exact hv.alloc _
              have hbx : Below w.heap.size w wx := by rw [hwx]; exact hb.alloc hb.size _
              have x0 := hX.cell 0
              have x1 := hX.cell 1
              have x2 := hX.cell 2
              have x3 := hX.cell 3
              have x4 := hX.cell 4
              have x5 := hX.cell 5
              simp at x0 x1 x2 x3 x4 x5
              rw [← hwx]
              clear hwx hv hb a0 a1 a2 a3 a4 a5
              go_cut [14] (fun i wi => ∃ q : Nat, q ≤ r.length ∧ i = .int .i64 q ∧ Own Ev.cells 38 6 wi w.heap.size (.slice A1 r.length c1) r ∧ Below w.heap.size w wi ∧ Blk wi wr.heap.size 38 #[.int .i64 x.item, .int .i64 x.try_, .int .i64 x.win, .int .i64 x.tick, .int .i64 x.addr, .int .u64 x.mask] ∧ wr.heap.size < wi.heap.size ∧ Stable ((l.take (k + 1)).filter (Ev.mine item try_ win)) (r.take q ++ [x] ++ r.drop q))
              case first => as_aux_lemma =>
                go_wp2_with fail
                go_loopw [14] (fun i wi => ∃ q : Nat, q ≤ r.length ∧ i = .int .i64 q ∧ (∃ nd, wi = wx.drewN nd) ∧ ∀ z ∈ r.drop q, x.tick < z.tick) (fun i _ => (intOf i).toNat)
                case atStart => exact ⟨r.length, Nat.le_refl _, rfl, ⟨0, rfl⟩, by simp⟩
                case round => as_aux_lemma =>
                  obtain ⟨q, hq, rfl, ⟨nd, rfl⟩, hz⟩ := hrel
                  have HZ := hide hz
                  clear hz
                  by_cases hq0 : 0 < q
                  · obtain ⟨j, rfl⟩ : ∃ j, q = j + 1 := ⟨q - 1, by omega⟩
                    obtain ⟨y, hy⟩ : ∃ y, r[j]? = some y := ⟨r[j]'(by omega), List.getElem?_eq_getElem _⟩
                    obtain ⟨g, rfl, hg, hgl⟩ := hvx.at_ (by omega)
                    obtain ⟨_, _, _, y3, _, _⟩ := OwnE.at6 hvx hy
                    have Hy := hide hy
                    clear hy
                    have hd : decide (0 < j + 1) = true := by simp
                    have hd2 : decide ((0 : Int) < (j : Int) + 1) = true := by simp <;> omega
                    have hw : IntKind.i64.wrap (j : Int) = (j : Int) := IntWalk.i64_in _ (by omega)
                    have hj1 : (j : Int) < (r.length : Int) := by omega
                    have hj2 : j < r.length := by omega
                    rw [show ((j + 1 : Nat) : Int) = (j : Int) + 1 by omega]
                    go_wp2_with fail
                    go_quiet (fail)
                    by_cases hc : x.tick < y.tick
                    · have HN2 := hide (drop_pred HZ.out Hy.out hc)
                      go_wp2_with fail
                      go_roundw
                      case rel => exact ⟨j, by omega, rfl, ⟨_, rfl⟩, HN2.out⟩
                      case measure => simp [intOf]
                    · have hst := HS.out.placed HZ.out (.inr ⟨j, y, rfl, Hy.out, by omega⟩)
                      rw [← H1.out] at hst
                      have HT := hide hst
                      clear hst
                      go_wp2_with fail
                      go_meet
                      case rel => exact ⟨j + 1, by omega, rfl, (by exact hvx), (by first | exact below_drewN hbx _ | exact below_drewN (below_drewN hbx _) _), (by exact hX), hX.lt, HT.out⟩
                  · have hq1 : q = 0 := by omega
                    subst hq1
                    have hst := HS.out.placed HZ.out (.inl rfl)
                    rw [← H1.out] at hst
                    have HT := hide hst
                    clear hst
                    go_wp2_with fail
                    go_quiet (fail)
                    go_wp2_with fail
                    go_meet
                    case rel => exact ⟨0, by omega, rfl, (by exact hvx), (by first | exact below_drewN hbx _ | exact below_drewN (below_drewN hbx _) _), (by exact hX), hX.lt, HT.out⟩
              case rest =>
                clear hvx hbx hX x0 x1 x2 x3 x4 x5
                obtain ⟨q, hq, rfl, hv, hb, hX, hlt2, hst⟩ := hcut
                rcases hv.cases_ with ⟨rfl, h0, rfl, rfl⟩ | ⟨g, rfl⟩
                · obtain rfl : q = 0 := by simpa using hq
                  simp at hst
                  have HT := hide hst
                  clear hst
                  have hs := hb.size
                  go_upto_region 14 with (at_builtin; refine wpList_app ekEv _ rfl _ _ rfl w.heap.size (.slice none 0 0) [] rfl (Own.nil _ _) 0 _ _ _ [] rfl Rd.nil (by simp) hs ?_; intro v2 w2 hv2 hg2 hat2; rw [List.nil_append] at hv2; have hb2 := (Own.nil (cells := Ev.cells) (e := 38) (sz := 6) wc w.heap.size).app_below hb hs hg2)
                  have hX2 : Blk w2 wr.heap.size 38 _ := hX.grown hg2 (by simp [Value.ownBlock])
                  have x0 := hX2.cell 0
                  have x1 := hX2.cell 1
                  have x2 := hX2.cell 2
                  have x3 := hX2.cell 3
                  have x4 := hX2.cell 4
                  have x5 := hX2.cell 5
                  simp at x0 x1 x2 x3 x4 x5
                  clear hv hb hX hX2 hat2 hg2
                  go_upto_region 15 with (at_builtin; refine wpList_app ekEv _ rfl _ _ rfl w.heap.size v2 [] rfl (hv2.alloc _) _ _ _ _ [x] rfl (Rd.lit w2 x _ rfl) (by simp) (by have := hb2.size; simp; omega) ?_; intro v3 w3 hv3 hg3 hat3; rw [List.nil_append] at hv3; have hb3 := (hv2.alloc _).app_below (hb2.alloc hb2.size _) (by have := hb2.size; simp; omega) hg3)
                  have hs3 := hb3.size
                  clear hv2 hb2 hg3 hat3
                  go_wp2_with (at_builtin; refine wpList_app ekEv _ rfl _ _ rfl w.heap.size v3 [x] rfl hv3 0 _ _ _ [] rfl Rd.nil (by simp) hs3 ?_; intro v4 w4 hv4 hg4 _; rw [List.append_nil] at hv4; have hb4 := hv3.app_below hb3 hs3 hg4)
                  go_roundw
                  case rel => exact ⟨k + 1, _, by omega, by go_num, hv4, hb4, HT.out⟩
                  case measure => simp [intOf]; omega
                · skip
                  have HT := hide hst
                  clear hst
                  have hr1 := (Own.rd (cells := Ev.cells) (fun _ => rfl) hv).2.take hq
                  have hs := hb.size
                  have hcq : q = c1 ∨ q < c1 := by omega
                  have hqi : (q : Int) ≤ (c1 : Int) := by omega
                  go_upto_region 14 with (at_builtin; refine wpList_app ekEv _ rfl _ _ rfl w.heap.size (.slice none 0 0) [] rfl (Own.nil _ _) _ _ _ _ _ rfl hr1 (by simp; omega) hs ?_; intro v2 w2 hv2 hg2 hat2; rw [List.nil_append] at hv2; have hb2 := (Own.nil (cells := Ev.cells) (e := 38) (sz := 6) wc w.heap.size).app_below hb hs hg2)
                  have hX2 : Blk w2 wr.heap.size 38 _ := hX.grown hg2 (by simp [Value.ownBlock])
                  have hvb : Own Ev.cells 38 6 w2 w.heap.size (.slice (some ⟨g, 0, none⟩) r.length c1) r := hv.grown hg2 (by simp [Value.ownBlock])
                  have hap := hv.apart (u := v2) (by rcases hat2 with e | e; exact .inl e; exact .inr e)
                  have x0 := hX2.cell 0
                  have x1 := hX2.cell 1
                  have x2 := hX2.cell 2
                  have x3 := hX2.cell 3
                  have x4 := hX2.cell 4
                  have x5 := hX2.cell 5
                  simp at x0 x1 x2 x3 x4 x5
                  clear hv hb hX hX2 hat2 hg2 hr1
                  have hs2 := hb2.size
                  have hl2 : (r.take q).length ≤ 1024 := by simp; omega
                  go_upto_region 15 with (at_builtin; refine wpList_app ekEv _ rfl _ _ rfl w.heap.size v2 (r.take q) rfl (hv2.alloc _) _ _ _ _ [x] rfl (Rd.lit w2 x _ rfl) (by omega) (by simp; omega) ?_; intro v3 w3 hv3 hg3 hat3; have hb3 := (hv2.alloc _).app_below (hb2.alloc hb2.size _) (by simp; omega) hg3)
                  have hvc : Own Ev.cells 38 6 w3 w.heap.size (.slice (some ⟨g, 0, none⟩) r.length c1) r := (hvb.alloc _).grown hg3 hap
                  have hrc := (Own.rd (cells := Ev.cells) (fun _ => rfl) hvc).2
                  have hr3 : ∀ A', (q < r.length → A' = (some (⟨g, 0, none⟩ : Addr)).map (·.add (q * 6))) → Rd Ev.cells 6 w3 w3.heap.size A' (r.length - q) (r.drop q) := fun A' h => hrc.drop hq A' h
                  have HR3 := hide hr3
                  have hs3 := hb3.size
                  have hl3 : (r.take q ++ [x]).length ≤ 1025 := by simp; omega
                  have hrq : r.length - q ≤ 1024 := by omega
                  have hqn : (q : Int) ≤ (r.length : Int) := by omega
                  clear hvb hap hg3 hat3 hvc hrc hr3 hv2 hb2
                  rcases hcq with hcq | hcq
                  · subst hcq
                    have hdq : [] = r.drop q := by rw [List.drop_of_length_le (by omega)]
                    have hT := HT.out
                    rw [← hdq, List.append_nil] at hT
                    have HT2 := hide hT
                    clear hdq hT
                    go_wp2_with (at_builtin; refine wpList_app ekEv _ rfl _ _ rfl w.heap.size v3 (r.take q ++ [x]) rfl hv3 0 _ _ _ [] rfl Rd.empty (by omega) hs3 ?_; intro v4 w4 hv4 hg4 _; rw [List.append_nil] at hv4; have hb4 := hv3.app_below hb3 hs3 hg4)
                    go_roundw
                    case rel => exact ⟨k + 1, _, by omega, by go_num, hv4, hb4, HT2.out⟩
                    case measure => simp [intOf]; omega
                  · go_wp2_with (at_builtin; refine wpList_app ekEv _ rfl _ _ rfl w.heap.size v3 (r.take q ++ [x]) rfl hv3 _ _ _ _ (r.drop q) rfl (HR3.out _ (fun h => by simp [go_sem])) (by omega) hs3 ?_; intro v4 w4 hv4 hg4 _; have hb4 := hv3.app_below hb3 hs3 hg4)
                    go_roundw
                    case rel => exact ⟨k + 1, _, by omega, by go_num, hv4, hb4, HT.out⟩
                    case measure => simp [intOf]; omega
            · have H1 := hide (show x.mine item try_ win = false by simp [Ev.mine]; intros; simpa using h3)
              go_wp2_with fail
              go_roundw
              case rel => exact ⟨k + 1, r, by omega, by go_num, hv.alloc _, hb.alloc hb.size _, by rw [HN.out H1.out]; exact HS.out⟩
              case measure => simp [intOf]; omega
          · have H1 := hide (show x.mine item try_ win = false by have e2 : ¬ x.try_ = try_ := by simpa using h2
                                                                  simp [Ev.mine, e2])
            go_wp2_with fail
            go_roundw
            case rel => exact ⟨k + 1, r, by omega, by go_num, hv.alloc _, hb.alloc hb.size _, by rw [HN.out H1.out]; exact HS.out⟩
            case measure => simp [intOf]; omega
        · have H1 := hide (show x.mine item try_ win = false by have e1 : ¬ x.item = item := by simpa using h1
                                                                simp [Ev.mine, e1])
          go_wp2_with fail
          go_roundw
          case rel => exact ⟨k + 1, r, by omega, by go_num, hv.alloc _, hb.alloc hb.size _, by rw [HN.out H1.out]; exact HS.out⟩
          case measure => simp [intOf]; omega
      · have hkn : k = n := by omega
        subst hkn
        have hS := HS.out
        rw [List.take_of_length_le (by rw [hl.1]; omega)] at hS
        have HT := hide hS
        clear hS
        go_wp2_with fail
        go_ret2
        exact ⟨_, r, rfl, hv, hb, fun h => absurd h hn, fun _ => HT.out⟩
end Go.Proofs.Ytbabdabdohljcaa
