/- Plain laws: the events from a place on, around and the other way round, are the same events in another order; what does not hang on the order. -/
import Derived.Test.YtbabdabdohljcaaLive
import Derived.Test.YtbabdabdohljcaaOf
namespace Go.Proofs.Ytbabdabdohljcaa
def around (n k i : Nat) : Nat := (k + n - i) % n
theorem around_le {n k i : Nat} (hk : k < n) (hi : i ≤ k) : around n k i = k - i := by
  unfold around
  rw [Nat.mod_eq_sub_mod (by omega), show k + n - i - n = k - i by omega, Nat.mod_eq_of_lt (by omega)]
theorem around_gt {n k i : Nat} (hi : k < i) (hn : i < n) : around n k i = k + n - i := by
  unfold around
  rw [Nat.mod_eq_of_lt (by omega)]
theorem around_lt {n k i : Nat} (hk : k < n) (hi : i < n) : around n k i < n := by
  rcases Nat.lt_or_ge k i with h | h
  · rw [around_gt h hi]; omega
  · rw [around_le hk h]; omega
theorem around_twice {n k i : Nat} (hk : k < n) (hi : i < n) : around n k (around n k i) = i := by
  rcases Nat.lt_or_ge k i with h | h
  · rw [around_gt h hi, around_gt (by omega) (by omega)]; omega
  · rw [around_le hk h, around_le hk (by omega)]; omega
def noEv : Ev := ⟨0, 0, 0, 0, 0, 0⟩
def turned (l : List Ev) (k m : Nat) : List Ev := (List.range m).map fun i => l.getD (around l.length k i) noEv
theorem turned_perm {l : List Ev} {k : Nat} (hk : k < l.length) : (turned l k l.length).Perm l := by
  have h1 : ((List.range l.length).map (around l.length k)).Perm (List.range l.length) := by
    rw [List.perm_iff_count]
    intro a
    have hn : ((List.range l.length).map (around l.length k)).Nodup := by
      rw [List.nodup_iff_pairwise_ne, List.pairwise_map]
      refine List.Pairwise.imp_of_mem ?_ (List.nodup_iff_pairwise_ne.1 List.nodup_range)
      intro x y hx hy hne e
      simp at hx hy
      apply hne
      rw [← around_twice hk hx, e, around_twice hk hy]
    rw [hn.count, List.nodup_range.count]
    congr 1
    simp only [List.mem_map, List.mem_range, eq_iff_iff]
    constructor
    · rintro ⟨i, hi, rfl⟩
      exact around_lt hk hi
    · intro ha
      exact ⟨around l.length k a, around_lt hk ha, around_twice hk ha⟩
  have h2 := h1.map (fun j => l.getD j noEv)
  rw [List.map_map] at h2
  have h3 : (List.range l.length).map (fun j => l.getD j noEv) = l := by
    apply List.ext_getElem (by simp)
    intro i h1 h2
    simp [List.getD_eq_getElem?_getD, h2]
  rw [h3] at h2
  exact h2
theorem xr_nat (a b : Int) : xr a b = ((BitVec.ofInt 64 a ^^^ BitVec.ofInt 64 b).toNat : Int) := by
  show IntKind.u64.wrap ((BitVec.ofInt 64 a ^^^ BitVec.ofInt 64 b).toNat : Int) = _
  rw [IntKind.wrap_u64]
  have := (BitVec.ofInt 64 a ^^^ BitVec.ofInt 64 b).isLt
  omega
theorem xr_right (v a b : Int) : xr (xr v a) b = xr (xr v b) a := by
  rw [xr_nat (xr v a) b, xr_nat (xr v b) a, xr_nat v a, xr_nat v b, BitVec.ofInt_natCast, BitVec.ofInt_natCast, BitVec.ofNat_toNat, BitVec.ofNat_toNat, BitVec.setWidth_eq, BitVec.setWidth_eq, BitVec.xor_assoc, BitVec.xor_comm (BitVec.ofInt 64 a), ← BitVec.xor_assoc]
theorem strike1_comm (ws : List Int) (x y : Ev) : strike1 (strike1 ws x) y = strike1 (strike1 ws y) x := by
  rcases hx : x.nothing ws.length with _ | _ <;> rcases hy : y.nothing ws.length with _ | _
  · have ex := something hx
    have ey := something hy
    have e1 : strike1 ws x = ws.set x.addr.toNat (xr (ws.getD x.addr.toNat 0) x.mask) := by unfold strike1; rw [hx]; rfl
    have e2 : strike1 ws y = ws.set y.addr.toNat (xr (ws.getD y.addr.toNat 0) y.mask) := by unfold strike1; rw [hy]; rfl
    rw [e1, e2]
    unfold strike1
    rw [List.length_set, List.length_set, hx, hy]
    simp only [Bool.false_eq_true, if_false]
    have hxl : x.addr.toNat < ws.length := by omega
    have hyl : y.addr.toNat < ws.length := by omega
    by_cases h : x.addr.toNat = y.addr.toNat
    · rw [h]
      simp only [List.set_set, List.getD_eq_getElem?_getD, List.getElem?_set_self hyl, Option.getD_some]
      rw [xr_right]
    · simp only [List.getD_eq_getElem?_getD, List.getElem?_set_ne h, List.getElem?_set_ne (fun e => h e.symm)]
      exact List.set_comm _ _ h
  all_goals
    have hl := strike1_length ws
    unfold strike1 at hl ⊢
    simp [hx, hy]
theorem strikes_perm {l r : List Ev} (h : l.Perm r) (ws : List Int) : strikes l ws = strikes r ws :=
  h.foldl_eq' (fun x _ y _ z => strike1_comm z x y) ws
theorem strikeV_perm {l r : List Ev} (h : l.Perm r) (ws : List Int) : strikeV l ws = strikeV r ws := by
  unfold strikeV
  rw [h.length_eq, strikes_perm h]
theorem near_symm (x y : Ev) : x.near y = y.near x := by
  unfold Ev.near
  rw [Int.max_comm, Int.min_comm]
  have h1 : (x.item == y.item) = (y.item == x.item) := Bool.beq_comm
  have h2 : (x.try_ == y.try_) = (y.try_ == x.try_) := Bool.beq_comm
  rw [h1, h2]
theorem far_perm {l r : List Ev} (h : l.Perm r) : FarIn l ↔ FarIn r :=
  h.pairwise_iff (fun {x y} e => by rw [near_symm]; exact e)
theorem sparse_perm {l r : List Ev} (h : l.Perm r) : sparse l = sparse r := by
  unfold sparse
  rw [h.length_eq]
  split
  · rfl
  · exact decide_eq_decide.2 (far_perm h)
theorem quiet_perm {l r : List Ev} (h : l.Perm r) (n : Int) : quiet l n = quiet r n := by
  unfold quiet
  rw [h.length_eq, h.all_eq]
theorem Stable.perm {x y : List Ev} (h : Stable x y) : y.Perm x := by
  rw [List.perm_iff_count]
  intro a
  have e : ∀ z : List Ev, z.count a = (z.filter (fun e => e.tick == a.tick)).count a := by
    intro z
    rw [List.count_filter (by simp)]
  rw [e y, e x, h.2]
theorem Stable.ticks {x x' y y' : List Ev} (h : Stable x y) (h' : Stable x' y') (hp : x.Perm x') : y.map Ev.tick = y'.map Ev.tick := by
  have h1 : y.Perm y' := h.perm.trans (hp.trans h'.perm.symm)
  refine List.Perm.eq_of_pairwise (le := fun a b => a ≤ b) (fun a b _ _ h1 h2 => Int.le_antisymm h1 h2) ?_ ?_ (h1.map _)
  · rw [List.pairwise_map]; exact h.1
  · rw [List.pairwise_map]; exact h'.1
end Go.Proofs.Ytbabdabdohljcaa
