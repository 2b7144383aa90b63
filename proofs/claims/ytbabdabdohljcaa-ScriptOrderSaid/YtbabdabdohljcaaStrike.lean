/- slices.Clone over words; script.Strike and brackenref10.Strike: what events make of words. -/
import Derived.Test.YtbabdabdohljcaaQuiet
import Derived.Test.YtbabdabdohljcaaOwn
import Derived.WalkSpells
import Derived.StillTailTactics
namespace Go.Proofs.Ytbabdabdohljcaa
open Go.RowKit
theorem ekEv : EK Try.prog 22 38 6 48 Ev.cells :=
  EK.mk' Try.underlying22 (z := .agg #[.int .i64 0, .int .i64 0, .int .i64 0, .int .i64 0, .int .i64 0, .int .u64 0]) (by kernel_rfl) rfl (by omega) (by omega) (fun _ => rfl) (fun x u hu => by simp [Ev.cells] at hu; rcases hu with rfl | rfl | rfl | rfl | rfl | rfl <;> rfl)
theorem ekU : EK Try.prog 23 36 1 8 u64c :=
  EK.mk' Try.underlying23 (z := .int .u64 0) (by kernel_rfl) rfl (by omega) (by omega) (fun _ => rfl) (fun x u hu => by simp [u64c] at hu; subst hu; rfl)
theorem ret_val {a b : Value} (h : a = b) : Ending.returned a = .returned b := by rw [h]
set_option maxHeartbeats 400000 in
theorem clone_any (A : Option Addr) (n c : Nat) (l : List Int) (w : World) (hl : Rd u64c 1 w w.heap.size A n l) (hn : n * 8 ≤ 140737488355328) (hnil : A = none → c = 0) :
    Calls Try.prog 25 #[.slice A n c] w fun e w' => ∃ v, e = .returned v ∧ Own u64c 36 1 w' w.heap.size v l ∧ Below w.heap.size w w' := by
  have qT : ∀ (w : World) (a : Option Addr) (n c n' c' : Nat), (binOp .eql 23 (.slice a n c) (.slice none n' c')).run Try.prog w = .ok (.bool a.isNone) w := fun w a n c n' c' => Lib.run_eql_slice_nil w _ _ a n c n' c' Try.underlying23
  rcases A with _ | ad
  · have hn0 : n = 0 := by
      rcases Nat.eq_zero_or_pos n with h | h
      · exact h
      · obtain ⟨g, o, h', _⟩ := hl.2 h
        cases h'
    have hl0 : l = [] := List.eq_nil_of_length_eq_zero (hl.1.trans hn0)
    subst hl0
    subst hn0
    have hc := hnil rfl
    subst hc
    go_enter Try.func25, Try.ntmps25
    go_wp2
    go_ret
    exact ⟨_, rfl, Own.nil _ _, Below.refl _ _⟩
  · clear hnil
    go_enter Try.func25, Try.ntmps25
    go_wp2_with (at_builtin; refine wpList_app ekU _ rfl _ _ rfl w.heap.size _ [] rfl (World.ownsRow_lit w #[] 0 (Nat.le_refl _) (by simp [maxLen]) (by simp)) (w.heap.size + 1) (some ad) n c l rfl ?_ ?_ ?_ ?_)
    · exact hl.alloc _
    · simp; omega
    · simp
    · intro v' w' hown hg _
      have hb : Below w.heap.size w w' := ((Below.refl _ _).alloc (Nat.le_refl _) _).grown hg (by simp) (fun k hk => by simp [Value.ownBlock] at hk; omega)
      go_wp2
      go_ret
      exact ⟨_, rfl, hown, hb⟩
/-- What the machine's '^' makes of two words. -/
def xr (a b : Int) : Int := bits .xor .u64 a b
def strike1 (ws : List Int) (e : Ev) : List Int := if e.nothing ws.length then ws else ws.set e.addr.toNat (xr (ws.getD e.addr.toNat 0) e.mask)
def strikes (l : List Ev) (ws : List Int) : List Int := l.foldl strike1 ws
theorem strike1_length (ws : List Int) (e : Ev) : (strike1 ws e).length = ws.length := by unfold strike1; split <;> simp
theorem strikes_length (l : List Ev) : ∀ ws : List Int, (strikes l ws).length = ws.length := by
  induction l with
  | nil => intro ws; rfl
  | cons e l ih => intro ws; show (strikes l (strike1 ws e)).length = _; rw [ih, strike1_length]
theorem strikes_succ {l : List Ev} {k : Nat} {x : Ev} (hx : l[k]? = some x) (ws : List Int) : strikes (l.take (k + 1)) ws = strike1 (strikes (l.take k) ws) x := by
  unfold strikes
  rw [List.take_add_one, hx]
  simp
theorem something {e : Ev} {n : Int} (h : e.nothing n = false) : 0 ≤ e.addr ∧ e.addr < n := by
  simp [Ev.nothing] at h
  omega
def strikeE (l n : Nat) : Int := if 1024 < l then 1 else if 16384 < n then 1 else 0
def strikeV (l : List Ev) (ws : List Int) : List Int := if 1024 < l.length then [] else if 16384 < ws.length then [] else strikes l ws

set_option maxHeartbeats 1000000 in
theorem strike_any (A B : Option Addr) (n ca m cb : Nat) (l : List Ev) (ws : List Int) (w : World) (hl : Rd Ev.cells 6 w w.heap.size A n l) (hw : Rd u64c 1 w w.heap.size B m ws) (hnil : B = none → cb = 0) :
    Calls Try.prog 12 #[.slice A n ca, .slice B m cb] w fun e w' => ∃ v, e = .returned (.tuple #[v, .int .i64 (strikeE n m)]) ∧ Own u64c 36 1 w' w.heap.size v (strikeV l ws) ∧ Below w.heap.size w w' := by
  obtain rfl := hw.1
  by_cases hn : 1024 < n
  · have e1 : strikeE n ws.length = 1 := by unfold strikeE; rw [if_pos hn]
    have e2 : strikeV l ws = [] := by unfold strikeV; rw [if_pos (by rw [hl.1]; exact hn)]
    have e3 : chk n = 1 := by unfold chk; rw [if_pos hn]
    rw [e1, e2]
    have HK := hide e3
    clear e1 e2 e3
    go_enter Try.func12, Try.ntmps12
    go_wp2_with (go_at_call 16; refine (check_any _ _ _ _).mono ?_; rintro e w' ⟨rfl, rfl⟩; rw [HK.out])
    go_ret2
    exact ⟨_, rfl, Own.nil _ _, Below.refl _ _⟩
  · have e3 : chk n = 0 := by unfold chk; rw [if_neg hn]
    by_cases hm : 16384 < ws.length
    · have e1 : strikeE n ws.length = 1 := by unfold strikeE; rw [if_neg hn, if_pos hm]
      have e2 : strikeV l ws = [] := by unfold strikeV; rw [if_neg (by rw [hl.1]; exact hn), if_pos hm]
      rw [e1, e2]
      have HK := hide e3
      clear e1 e2 e3
      go_enter Try.func12, Try.ntmps12
      go_wp2_with (go_at_call 16; refine (check_any _ _ _ _).mono ?_; rintro e w' ⟨rfl, rfl⟩; rw [HK.out])
      go_ret2
      exact ⟨_, rfl, Own.nil _ _, Below.refl _ _⟩
    · have e1 : strikeE n ws.length = 0 := by unfold strikeE; rw [if_neg hn, if_neg hm]
      have e2 : strikeV l ws = strikes l ws := by unfold strikeV; rw [if_neg (by rw [hl.1]; exact hn), if_neg hm]
      rw [e1, e2]
      have HK := hide e3
      clear e1 e2 e3
      go_enter Try.func12, Try.ntmps12
      go_wp2_with (first | (go_at_call 16; refine (check_any _ _ _ _).mono ?_; rintro e w' ⟨rfl, rfl⟩; rw [HK.out]) | (go_at_call 25; refine (clone_any _ _ _ _ _ hw (by omega) hnil).mono ?_; rintro e w1 ⟨v, rfl, hv, hb1⟩))
      obtain ⟨A1, c1, rfl, _⟩ := hv.val
      go_loopw [22] (fun i wr => ∃ k : Nat, k ≤ n ∧ i = .int .i64 k ∧ Own u64c 36 1 wr w.heap.size (.slice A1 ws.length c1) (strikes (l.take k) ws) ∧ Below w.heap.size w wr) (fun i _ => n - (intOf i).toNat)
      case atStart => exact ⟨0, Nat.zero_le _, rfl, hv, hb1⟩
      case round =>
        obtain ⟨k, hk, rfl, ht, hb⟩ := hrel
        have hsl := strikes_length (l.take k) ws
        by_cases hlt : k < n
        · obtain ⟨a, oa, x, rfl, _, hx, hca⟩ := (hl.below hb).at_ hlt
          obtain ⟨a0, a1, a2, a3, a4, a5⟩ := Ev.at6 hca
          have Hx := hide hx
          clear hca hx
          rcases hp : x.nothing ws.length with _ | _
          · have HP := hide hp
            obtain ⟨ha0, ha1⟩ := something hp
            have hi : x.addr.toNat < (strikes (l.take k) ws).length := by omega
            have hS : strikes (l.take (k + 1)) ws = (strikes (l.take k) ws).set x.addr.toNat (xr ((strikes (l.take k) ws).getD x.addr.toNat 0) x.mask) := by
              rw [strikes_succ Hx.out, strike1, hsl, hp]; rfl
            have HS := hide hS
            have hsl' := Nat.le_of_eq hsl.symm
            clear hp hS hsl
            go_wp2_with (go_at_call 23; refine (nothing_any _ _ _ _ _ _ _ _).mono ?_; rintro e w2 ⟨rfl, hb2⟩; rw [HP.out])
            have hX : Blk w2 wr.heap.size 38 _ := (Blk.new _ _ _).below hb2 (by simp)
            have f4 := hX.cell 4
            have f5 := hX.cell 5
            simp at f4 f5
            have hown2 := (ht.alloc _).below hb2
            obtain ⟨g, rfl, hg, hgl⟩ := hown2.at_ (by omega)
            have c1 := hown2.cell1 (List.getElem?_eq_getElem hi)
            have c2 := hown2.free x.addr.toNat
            clear hX
            go_still_tail 9, (by kernel_rfl)
            go_wp2
            go_roundw
            case rel =>
              refine ⟨k + 1, by omega, by go_num, ?_, ?_⟩
              · rw [HS.out, List.getD_eq_getElem?_getD, List.getElem?_eq_getElem hi]
                exact Own.drewN (Own.set1 (c := fun x => .int .u64 x) hown2 _ _) 1
              · exact ((below_two (hb.alloc hb.size _) hb2 (by have := hb.size; simp; omega)).setCell hg _).drew
            case measure => simp [intOf]; omega
          · have HP := hide hp
            have hS : strikes (l.take (k + 1)) ws = strikes (l.take k) ws := by
              rw [strikes_succ Hx.out, strike1, hsl, hp]; rfl
            have HS := hide hS
            clear hp hS hsl
            go_wp2_with (go_at_call 23; refine (nothing_any _ _ _ _ _ _ _ _).mono ?_; rintro e w2 ⟨rfl, hb2⟩; rw [HP.out])
            go_roundw
            case rel =>
              refine ⟨k + 1, by omega, by go_num, ?_, ?_⟩
              · rw [HS.out]
                exact (ht.alloc _).below hb2
              · exact below_two (hb.alloc hb.size _) hb2 (by have := hb.size; simp; omega)
            case measure => simp [intOf]; omega
        · have hkn : k = n := by omega
          subst hkn
          rw [List.take_of_length_le (by rw [hl.1]; omega)] at ht
          clear hsl
          go_wp2
          go_ret2
          exact ⟨_, rfl, ht, hb⟩
set_option maxHeartbeats 1000000 in
theorem rstrike_any (A B : Option Addr) (n ca m cb : Nat) (l : List Ev) (ws : List Int) (w : World) (hl : Rd Ev.cells 6 w w.heap.size A n l) (hw : Rd u64c 1 w w.heap.size B m ws) :
    Calls Try.prog 13 #[.slice A n ca, .slice B m cb] w fun e w' => ∃ v, e = .returned (.tuple #[v, .int .i64 (strikeE n m)]) ∧ Own u64c 36 1 w' w.heap.size v (strikeV l ws) ∧ Below w.heap.size w w' := by
  obtain rfl := hw.1
  by_cases hn : 1024 < n
  · have e1 : strikeE n ws.length = 1 := by unfold strikeE; rw [if_pos hn]
    have e2 : strikeV l ws = [] := by unfold strikeV; rw [if_pos (by rw [hl.1]; exact hn)]
    have e3 : chk n = 1 := by unfold chk; rw [if_pos hn]
    rw [e1, e2]
    have HK := hide e3
    clear e1 e2 e3
    go_enter Try.func13, Try.ntmps13
    go_wp2_with (go_at_call 17; refine (rcheck_any _ _ _ _).mono ?_; rintro e w' ⟨rfl, rfl⟩; rw [HK.out])
    go_ret2
    exact ⟨_, rfl, Own.nil _ _, Below.refl _ _⟩
  · have e3 : chk n = 0 := by unfold chk; rw [if_neg hn]
    by_cases hm : 16384 < ws.length
    · have e1 : strikeE n ws.length = 1 := by unfold strikeE; rw [if_neg hn, if_pos hm]
      have e2 : strikeV l ws = [] := by unfold strikeV; rw [if_neg (by rw [hl.1]; exact hn), if_pos hm]
      rw [e1, e2]
      have HK := hide e3
      clear e1 e2 e3
      go_enter Try.func13, Try.ntmps13
      go_wp2_with (go_at_call 17; refine (rcheck_any _ _ _ _).mono ?_; rintro e w' ⟨rfl, rfl⟩; rw [HK.out])
      go_ret2
      exact ⟨_, rfl, Own.nil _ _, Below.refl _ _⟩
    · have e1 : strikeE n ws.length = 0 := by unfold strikeE; rw [if_neg hn, if_neg hm]
      have e2 : strikeV l ws = strikes l ws := by unfold strikeV; rw [if_neg (by rw [hl.1]; exact hn), if_neg hm]
      rw [e1, e2]
      have HK := hide e3
      clear e1 e2 e3
      go_enter Try.func13, Try.ntmps13
      go_wp2_with (first | (go_at_call 17; refine (rcheck_any _ _ _ _).mono ?_; rintro e w' ⟨rfl, rfl⟩; rw [HK.out]) | (at_builtin; refine wpList_app ekU _ rfl _ _ rfl w.heap.size _ [] rfl (Own.nil _ _) w.heap.size B ws.length cb ws rfl hw (by simp; omega) (Nat.le_refl _) ?_; intro v w1 hv hg1 _; rw [List.nil_append] at hv; have hb1 : Below w.heap.size w w1 := (Own.nil (cells := u64c) (e := 36) (sz := 1) w w.heap.size).app_below (Below.refl _ _) (Nat.le_refl _) hg1))
      obtain ⟨A1, c1, rfl, _⟩ := hv.val
      go_loopw [22] (fun i wr => ∃ k : Nat, k ≤ n ∧ i = .int .i64 k ∧ Own u64c 36 1 wr w.heap.size (.slice A1 ws.length c1) (strikes (l.take k) ws) ∧ Below w.heap.size w wr) (fun i _ => n - (intOf i).toNat)
      case atStart => exact ⟨0, Nat.zero_le _, rfl, hv, hb1⟩
      case round =>
        obtain ⟨k, hk, rfl, ht, hb⟩ := hrel
        have hsl := strikes_length (l.take k) ws
        by_cases hlt : k < n
        · obtain ⟨a, oa, x, rfl, _, hx, hca⟩ := (hl.below hb).at_ hlt
          obtain ⟨a0, a1, a2, a3, a4, a5⟩ := Ev.at6 hca
          have Hx := hide hx
          clear hca hx
          rcases hp : x.nothing ws.length with _ | _
          · have HP := hide hp
            obtain ⟨ha0, ha1⟩ := something hp
            have hi : x.addr.toNat < (strikes (l.take k) ws).length := by omega
            have hS : strikes (l.take (k + 1)) ws = (strikes (l.take k) ws).set x.addr.toNat (xr ((strikes (l.take k) ws).getD x.addr.toNat 0) x.mask) := by
              rw [strikes_succ Hx.out, strike1, hsl, hp]; rfl
            have HS := hide hS
            have hsl' := Nat.le_of_eq hsl.symm
            clear hp hS hsl
            go_wp2_with (go_at_call 24; refine (rnothing_any _ _ _ _ _ _ _ _).mono ?_; rintro e w2 ⟨rfl, hb2⟩; rw [HP.out])
            have hX : Blk w2 wr.heap.size 38 _ := (Blk.new _ _ _).below hb2 (by simp)
            have f4 := hX.cell 4
            have f5 := hX.cell 5
            simp at f4 f5
            have hown2 := (ht.alloc _).below hb2
            obtain ⟨g, rfl, hg, hgl⟩ := hown2.at_ (by omega)
            have c1 := hown2.cell1 (List.getElem?_eq_getElem hi)
            have c2 := hown2.free x.addr.toNat
            clear hX
            go_still_tail 9, (by kernel_rfl)
            go_wp2
            go_roundw
            case rel =>
              refine ⟨k + 1, by omega, by go_num, ?_, ?_⟩
              · rw [HS.out, List.getD_eq_getElem?_getD, List.getElem?_eq_getElem hi]
                exact Own.drewN (Own.set1 (c := fun x => .int .u64 x) hown2 _ _) 1
              · exact ((below_two (hb.alloc hb.size _) hb2 (by have := hb.size; simp; omega)).setCell hg _).drew
            case measure => simp [intOf]; omega
          · have HP := hide hp
            have hS : strikes (l.take (k + 1)) ws = strikes (l.take k) ws := by
              rw [strikes_succ Hx.out, strike1, hsl, hp]; rfl
            have HS := hide hS
            clear hp hS hsl
            go_wp2_with (go_at_call 24; refine (rnothing_any _ _ _ _ _ _ _ _).mono ?_; rintro e w2 ⟨rfl, hb2⟩; rw [HP.out])
            go_roundw
            case rel =>
              refine ⟨k + 1, by omega, by go_num, ?_, ?_⟩
              · rw [HS.out]
                exact (ht.alloc _).below hb2
              · exact below_two (hb.alloc hb.size _) hb2 (by have := hb.size; simp; omega)
            case measure => simp [intOf]; omega
        · have hkn : k = n := by omega
          subst hkn
          rw [List.take_of_length_le (by rw [hl.1]; omega)] at ht
          clear hsl
          go_wp2
          go_ret2
          exact ⟨_, rfl, ht, hb⟩
end Go.Proofs.Ytbabdabdohljcaa
