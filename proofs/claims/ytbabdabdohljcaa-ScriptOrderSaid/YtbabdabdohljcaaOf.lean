/- script.Of: the events of a window, in stable order of their ticks. -/
import Derived.Test.YtbabdabdohljcaaStable
namespace Go.Proofs.Ytbabdabdohljcaa
open Go.RowKit
theorem ins_none (v f : Value) (w : World) : Calls Try.prog 30 #[v, .int .i64 0, .int .i64 0, f] w fun e w' => e = .returned (.tuple #[]) ∧ w = w' := by
  go_enter Try.func30, Try.ntmps30
  go_wp2_with fail
  go_loop [8] (fun i => i = .int .i64 1) (fun _ => 0)
  case atStart => rfl
  case round =>
    subst hrel
    go_wp2_with fail
    go_end0
    exact ⟨rfl, rfl⟩
theorem stable_none (v f : Value) (w : World) : Calls Try.prog 26 #[v, .int .i64 0, f] w fun e w' => e = .returned (.tuple #[]) ∧ w = w' := by
  go_enter Try.func26, Try.ntmps26
  go_wp2_with fail
  go_loop [7, 8] (fun i j => i = .int .i64 0 ∧ j = .int .i64 20) (fun _ _ => 0)
  case atStart => exact ⟨rfl, rfl⟩
  case round =>
    obtain ⟨rfl, rfl⟩ := hrel
    go_wp2_with (go_at_call 30; refine (ins_none _ _ _).mono ?_; rintro e w2 ⟨rfl, rfl⟩)
    go_loop [6] (fun i => i = .int .i64 20) (fun _ => 0)
    case atStart => rfl
    case round =>
      subst hrel
      go_wp2_with fail
      go_end0
      exact ⟨rfl, rfl⟩
theorem sortStable_any (B n cap : Nat) (A : Option Addr) (l : List Ev) (w : World) (hown : Own Ev.cells 38 6 w B (.slice A n cap) l) (hn : n < 100000) :
    Calls Try.prog 18 #[.slice A n cap, .func (.func 19) #[] #[]] w
      fun e w' => e = .returned (.tuple #[]) ∧ ∃ l', Own Ev.cells 38 6 w' B (.slice A n cap) l' ∧ Below B w w' ∧ Stable l l' := by
  rcases Nat.eq_zero_or_pos n with h0 | h0
  · have hl : l = [] := List.eq_nil_of_length_eq_zero (by rw [← (Own.rd (cells := Ev.cells) (fun _ => rfl) hown).1]; exact h0)
    subst h0
    subst hl
    go_enter Try.func18, Try.ntmps18
    go_wp2_with (go_at_call 26; refine (stable_none _ _ _).mono ?_; rintro e w2 ⟨rfl, rfl⟩)
    go_end0
    exact ⟨rfl, [], hown, Below.refl _ _, List.Pairwise.nil, fun _ => rfl⟩
  · obtain ⟨g, rfl, hg, _⟩ := hown.at_ h0
    go_enter Try.func18, Try.ntmps18
    go_wp2_with (go_at_call 26; refine (stableCmp_any B g n cap l _ _ hown rfl hn).mono ?_; rintro e w2 ⟨rfl, l2, hc2, hg2, hs2⟩)
    go_end0
    have hlt := hown.lt g rfl
    exact ⟨rfl, l2, hc2, ⟨hg2.os, hg2.tape, hg2.output, hg2.size, fun k hk => hg2.block k (by omega) (fun e => by injection e with e; omega)⟩, hs2⟩

def Ev.mine (item try_ win : Int) (e : Ev) : Bool := e.item == item && e.try_ == try_ && e.win == win
theorem ret2_val {a : Value} {c d : Int} (k : c = d) : Ending.returned (.tuple #[a, .int .i64 c]) = .returned (.tuple #[a, .int .i64 d]) := by rw [k]
theorem filter_take_succ {α : Type} {l : List α} {k : Nat} {x : α} {p : α → Bool} (hx : l[k]? = some x) : (l.take (k + 1)).filter p = (l.take k).filter p ++ (if p x then [x] else []) := by
  rw [List.take_add_one, hx, List.filter_append]
  cases h : p x <;> simp [h]
theorem Rd.lit (w : World) (x : Ev) (g : Nat) (hg : g = w.heap.size) : Rd Ev.cells 6 (w.alloc (.cells #[.int .i64 x.item, .int .i64 x.try_, .int .i64 x.win, .int .i64 x.tick, .int .i64 x.addr, .int .u64 x.mask] 38)) (g + 1) (some ⟨g, 0, none⟩) 1 [x] := by
  subst hg
  have h := Rd.one (cells := Ev.cells) (sz := 6) (w := w.alloc (.cells #[.int .i64 x.item, .int .i64 x.try_, .int .i64 x.win, .int .i64 x.tick, .int .i64 x.addr, .int .u64 x.mask] 38)) (g := w.heap.size) (x := x) (by simp) (fun j u hu => by
    have h := (Blk.new w 38 #[.int .i64 x.item, .int .i64 x.try_, .int .i64 x.win, .int .i64 x.tick, .int .i64 x.addr, .int .u64 x.mask]).cell j
    rw [h, ← hu]
    simp [Ev.cells])
  simpa using h
set_option maxHeartbeats 8000000 in
theorem of_any (A : Option Addr) (n ca : Nat) (l : List Ev) (item try_ win : Int) (w : World) (hl : Rd Ev.cells 6 w w.heap.size A n l) :
    Calls Try.prog 6 #[.slice A n ca, .int .i64 item, .int .i64 try_, .int .i64 win] w fun e w' => ∃ v r, e = .returned (.tuple #[v, .int .i64 (chk n)]) ∧ Own Ev.cells 38 6 w' w.heap.size v r ∧ Below w.heap.size w w' ∧ (1024 < n → r = []) ∧ (¬ 1024 < n → Stable (l.filter (Ev.mine item try_ win)) r) := by
  by_cases hn : 1024 < n
  · have hk : chk n = 1 := by unfold chk; rw [if_pos hn]
    rw [hk]
    have HK := hide hk
    clear hk
    go_enter Try.func6, Try.ntmps6
    go_wp2_with (go_at_call 16; refine (check_any _ _ _ _).mono ?_; rintro e w' ⟨rfl, rfl⟩; rw [HK.out])
    go_ret2
    exact ⟨_, [], rfl, Own.nil _ _, Below.refl _ _, fun _ => rfl, fun h => absurd hn h⟩
  · have hk : chk n = 0 := by unfold chk; rw [if_neg hn]
    rw [hk]
    have HK := hide hk
    clear hk
    go_enter Try.func6, Try.ntmps6
    go_wp2_with (go_at_call 16; refine (check_any _ _ _ _).mono ?_; rintro e w' ⟨rfl, rfl⟩; rw [HK.out])
    go_loopw [11, 21] (fun v i wr => ∃ k : Nat, k ≤ n ∧ i = .int .i64 k ∧ Own Ev.cells 38 6 wr w.heap.size v ((l.take k).filter (Ev.mine item try_ win)) ∧ Below w.heap.size w wr) (fun _ i _ => n - (intOf i).toNat)
    case atStart => exact ⟨0, Nat.zero_le _, rfl, Own.nil _ _, Below.refl _ _⟩
    case round =>
      obtain ⟨k, hk, rfl, hv, hb⟩ := hrel
      by_cases hlt : k < n
      · obtain ⟨a, oa, x, rfl, _, hx, hca⟩ := (hl.below hb).at_ hlt
        obtain ⟨a0, a1, a2, a3, a4, a5⟩ := Ev.at6 hca
        have hf := filter_take_succ (p := Ev.mine item try_ win) hx
        have hlen : ((l.take k).filter (Ev.mine item try_ win)).length ≤ k := Nat.le_trans (List.length_filter_le _ _) (List.length_take_le _ _)
        have HF := hide hf
        clear hca hx hf
        have hno : x.mine item try_ win = false → (l.take (k + 1)).filter (Ev.mine item try_ win) = (l.take k).filter (Ev.mine item try_ win) := fun h => by rw [HF.out, h]; simp
        have HN := hide hno
        clear hno
        rcases h1 : x.item == item with _ | _
        · have H1 := hide (show x.mine item try_ win = false by simp [Ev.mine, h1])
          go_wp2_with fail
          go_roundw
          case rel => exact ⟨k + 1, by omega, by go_num, by rw [HN.out H1.out]; exact hv.alloc _, hb.alloc hb.size _⟩
          case measure => simp [intOf]; omega
        · rcases h2 : x.try_ == try_ with _ | _
          · have H1 := hide (show x.mine item try_ win = false by simp [Ev.mine, h2])
            go_wp2_with fail
            go_roundw
            case rel => exact ⟨k + 1, by omega, by go_num, by rw [HN.out H1.out]; exact hv.alloc _, hb.alloc hb.size _⟩
            case measure => simp [intOf]; omega
          · rcases h3 : x.win == win with _ | _
            · have H1 := hide (show x.mine item try_ win = false by simp [Ev.mine, h3])
              go_wp2_with fail
              go_roundw
              case rel => exact ⟨k + 1, by omega, by go_num, by rw [HN.out H1.out]; exact hv.alloc _, hb.alloc hb.size _⟩
              case measure => simp [intOf]; omega
            · have H1 := hide (show (l.take (k + 1)).filter (Ev.mine item try_ win) = (l.take k).filter (Ev.mine item try_ win) ++ [x] by rw [HF.out]; simp [Ev.mine, h1, h2, h3])
              have hv1 := (hv.alloc (.cells #[.int .i64 x.item, .int .i64 x.try_, .int .i64 x.win, .int .i64 x.tick, .int .i64 x.addr, .int .u64 x.mask] 38)).alloc (.cells #[.int .i64 x.item, .int .i64 x.try_, .int .i64 x.win, .int .i64 x.tick, .int .i64 x.addr, .int .u64 x.mask] 38)
              have hb1 := (hb.alloc hb.size (.cells #[.int .i64 x.item, .int .i64 x.try_, .int .i64 x.win, .int .i64 x.tick, .int .i64 x.addr, .int .u64 x.mask] 38)).alloc (by have := hb.size; simp; omega) (.cells #[.int .i64 x.item, .int .i64 x.try_, .int .i64 x.win, .int .i64 x.tick, .int .i64 x.addr, .int .u64 x.mask] 38)
              have hr1 := Rd.lit (wr.alloc (.cells #[.int .i64 x.item, .int .i64 x.try_, .int .i64 x.win, .int .i64 x.tick, .int .i64 x.addr, .int .u64 x.mask] 38)) x (wr.heap.size + 1) (by simp)
              go_wp2_with (at_builtin; refine wpList_app ekEv _ rfl _ _ rfl w.heap.size _ _ rfl hv1 _ _ _ _ [x] rfl hr1 (by have := hlen; omega) (by have := hb1.size; exact this) ?_; intro v2 w2 hv2 hg2 _; have hb2 := hv1.app_below hb1 hb1.size hg2; rw [← H1.out] at hv2)
              go_roundw
              case rel => exact ⟨k + 1, by omega, by go_num, hv2, hb2⟩
              case measure => simp [intOf]; omega
      · have hkn : k = n := by omega
        subst hkn
        rw [List.take_of_length_le (by rw [hl.1]; omega)] at hv
        obtain ⟨A1, c1, rfl, _⟩ := hv.val
        have hfl : (l.filter (Ev.mine item try_ win)).length ≤ 1024 := by
          have := List.length_filter_le (Ev.mine item try_ win) l
          have := hl.1
          omega
        go_wp2_with (go_at_call 18; refine (sortStable_any _ _ _ _ _ _ hv (by omega)).mono ?_; rintro e w2 ⟨rfl, l2, hv2, hb2, hs2⟩)
        have HS := hide hs2
        clear hs2
        go_wp2_with fail
        go_ret2
        exact ⟨_, l2, rfl, hv2, hb.trans hb2, fun h => absurd h hn, fun _ => HS.out⟩
end Go.Proofs.Ytbabdabdohljcaa
