/- A map keyed by two numbers (script.try), its elements slices of numbers: the operations on it. -/
import Derived.Test.YtbabdabdohljcaaNear
import Derived.MapKept
import Derived.Laws.IdiomRangeMap
namespace Go.Proofs.Ytbabdabdohljcaa
open Go.RowKit
open Go.ChangeMaps (setBlock heap_setBlock_same heap_setBlock_other)
structure G where
  a : Int
  b : Int
  v : Value
  l : List Int
def keyV (a b : Int) : Value := .agg #[.int .i64 a, .int .i64 b]
def ents : Nat → List G → List MapEntry
  | _, [] => []
  | s, g :: gs => { key := keyV g.a g.b, val := g.v, born := s } :: ents (s + 1) gs
/-- The block b is the map whose entries are gs, in the order that they were made. -/
def Tab (w : World) (b : Nat) (gs : List G) : Prop := w.heap[b]? = some (.map (ents 0 gs).toArray gs.length)
theorem ents_length : ∀ (s : Nat) (gs : List G), (ents s gs).length = gs.length
  | _, [] => rfl
  | s, g :: gs => by simp [ents, ents_length (s + 1) gs]
theorem ents_at : ∀ (s : Nat) (gs : List G) (i : Nat), (ents s gs)[i]? = (gs[i]?).map fun g => { key := keyV g.a g.b, val := g.v, born := s + i }
  | _, [], i => by simp [ents]
  | s, g :: gs, 0 => by simp [ents]
  | s, g :: gs, i + 1 => by simp [ents, ents_at (s + 1) gs i]; cases gs[i]? <;> simp; omega
theorem ents_app : ∀ (s : Nat) (gs : List G) (g : G), ents s (gs ++ [g]) = ents s gs ++ [{ key := keyV g.a g.b, val := g.v, born := s + gs.length }]
  | s, [], g => by simp [ents]
  | s, h :: gs, g => by simp [ents, ents_app (s + 1) gs g]; omega
theorem key_check (w : World) (a b : Int) : (Instr.checkKey false 10000 46 (keyV a b)).run Try.prog w = .ok () w := by
  unfold Instr.checkKey keyV
  simp [go_sem]
  rw [MapKept.run_checkKey (d := .int .i64) (by kernel_rfl) (by simp [MapKept.IsKey]) false 9998]
  simp only [Result.andThen]
  rw [MapKept.run_checkKey (d := .int .i64) (by kernel_rfl) (by simp [MapKept.IsKey]) false 9998]
theorem key_equal (w : World) (a b c d : Int) : (Op.equal 46 (keyV a b) (keyV c d)).run Try.prog w = .ok (decide (a = c) && decide (b = d)) w := by
  unfold Op.equal
  simp only [Op.maxDepth]
  rw [show (10000 : Nat) = 9998 + 1 + 1 by rfl]
  rw [keyV, keyV, run_equalIn_struct (P := Try.prog) w 9999 46 _ _ (by kernel_rfl) (by kernel_rfl)]
  simp [go_sem]
  by_cases h1 : a = c <;> by_cases h2 : b = d <;> simp [*]
theorem key_stays (w : World) (a b : Int) : (Instr.keyThatStays (keyV a b) (keyV a b)).run Try.prog w = .ok (keyV a b) w := by
  simp [Instr.keyThatStays, Instr.sameBits, keyV]
def hasK (a b : Int) (g : G) : Bool := decide (a = g.a) && decide (b = g.b)
theorem key_find (w : World) (a b : Int) : ∀ (gs : List G) (s i : Nat), (Instr.findAsking 46 (keyV a b) (ents s gs) i).run Try.prog w = .ok ((gs.findIdx? (hasK a b)).map fun j => (i + j, ((gs[j]?).map (·.v)).getD undef)) w
  | [], s, i => by simp [ents, Instr.findAsking]
  | g :: gs, s, i => by
    simp only [ents, Instr.findAsking, Sem.run_bind, key_equal, Result.andThen, List.findIdx?_cons]
    have ih := key_find w a b gs (s + 1) (i + 1)
    rcases h : hasK a b g with _ | _
    · have h2 : (decide (a = g.a) && decide (b = g.b)) = false := h
      simp only [h2]
      simp only [Bool.false_eq_true, if_false, ih]
      rcases gs.findIdx? (hasK a b) with _ | j
      · simp
      · simp; omega
    · have h2 : (decide (a = g.a) && decide (b = g.b)) = true := h
      simp [h2]
theorem key_findKey (w : World) (a b : Int) (gs : List G) : (Instr.findKey 46 (keyV a b) (ents 0 gs)).run Try.prog w = .ok ((gs.findIdx? (hasK a b)).map fun j => (j, ((gs[j]?).map (·.v)).getD undef)) w := by
  unfold Instr.findKey
  have hd : (Try.prog.underlying 46).map (fun d => match d with | .struct _ => true | _ => false) = some true := by kernel_rfl
  obtain ⟨d, hd1, hd2⟩ := Option.map_eq_some_iff.1 hd
  simp only [Sem.run_bind, run_underlying hd1, Result.andThen]
  rcases gs with _ | ⟨g, gs⟩
  · simp [ents, Instr.findNow]
  · have : Instr.findNow d (keyV a b) (ents 0 (g :: gs)) 0 = none := by
      cases d <;> simp at hd2
      simp [ents, Instr.findNow, Instr.sameNow]
    rw [this]
    have := key_find w a b (g :: gs) 0 0
    simpa using this
theorem setBlock_same {w : World} {b : Nat} {o : Obj} (h : w.heap[b]? = some o) : setBlock w b o = w := by
  have : w.heap.setIfInBounds b o = w.heap := by
    apply Array.ext_getElem?
    intro i
    rcases Nat.decEq b i with hne | rfl
    · rw [Array.getElem?_setIfInBounds_ne hne]
    · have hlt := (Array.getElem?_eq_some_iff.1 h).1
      rw [Array.getElem?_setIfInBounds_self_of_lt hlt, h]
  unfold setBlock
  rw [this]
theorem ents_modify_same {α : Type} (f : α → α) (es : Array α) (i : Nat) (h : ∀ e, es[i]? = some e → f e = e) : es.modify i f = es := by
  apply Array.ext_getElem?
  intro j
  rw [Array.getElem?_modify]
  split
  · rename_i hij
    subst hij
    rcases he : es[i]? with _ | e
    · rfl
    · simp [h e he]
  · rfl
/-- 'm[k]' ahead of a store into it, the key there. -/
theorem run_entry_there {w : World} {m : Nat} {gs : List G} (h : Tab w m gs) {a b : Int} {i : Nat} {g : G} (hf : gs.findIdx? (hasK a b) = some i) (hg : gs[i]? = some g) :
    (Instr.mapEntry 44 (.map (some m)) (keyV a b)).run Try.prog w = .ok (.tuple #[g.v, .int .i64 i]) w := by
  have ht : Try.prog.underlying 44 = some (.map 46 47) := by kernel_rfl
  have hk : hasK a b g = true := by
    obtain ⟨h1, h2, _⟩ := List.findIdx?_eq_some_iff_getElem.1 hf
    rw [List.getElem?_eq_getElem h1] at hg
    injection hg with hg
    rw [← hg]; exact h2
  have hab : a = g.a ∧ b = g.b := by simpa [hasK] using hk
  obtain ⟨rfl, rfl⟩ := hab
  have he : (ents 0 gs).toArray[i]? = some { key := keyV g.a g.b, val := g.v, born := i } := by simp [ents_at, hg]
  unfold Instr.mapEntry
  simp only [Sem.run_bind, run_underlying ht, Result.andThen, MapKept.run_getObj_map h, key_check, key_findKey, hf, Option.map_some, hg, Option.getD_some, he, key_stays]
  rw [ents_modify_same _ _ _ (by intro e h2; rw [he] at h2; injection h2 with h2; subst h2; rfl)]
  rw [MapKept.run_setObj_map _ h]
  simp only [goInt]
  have := setBlock_same h
  unfold setBlock at this
  rw [this]
  rfl
/-- Another key: a new entry, its element nil. -/
theorem run_entry_new {w : World} {m : Nat} {gs : List G} (h : Tab w m gs) {a b : Int} (hf : gs.findIdx? (hasK a b) = none) :
    (Instr.mapEntry 44 (.map (some m)) (keyV a b)).run Try.prog w = .ok (.tuple #[.slice none 0 0, .int .i64 gs.length]) (setBlock w m (.map (ents 0 (gs ++ [⟨a, b, .slice none 0 0, []⟩])).toArray (gs ++ [(⟨a, b, .slice none 0 0, []⟩ : G)]).length)) := by
  have ht : Try.prog.underlying 44 = some (.map 46 47) := by kernel_rfl
  unfold Instr.mapEntry
  simp only [Sem.run_bind, run_underlying ht, Result.andThen, MapKept.run_getObj_map h, key_check, key_findKey, hf, Option.map_none, Try.zeroValue47]
  rw [MapKept.run_setObj_map _ h]
  simp only [goInt]
  rw [ents_app]
  simp [setBlock]
theorem ents_idx (gs : List G) {i : Nat} (hi : i < gs.length) : (ents 0 gs).toArray.findIdx? (fun e => (e.born : Int) == (i : Int)) = some i := by
  rw [List.findIdx?_toArray, List.findIdx?_eq_some_iff_getElem]
  refine ⟨by rw [ents_length]; exact hi, ?_, ?_⟩
  · have := ents_at 0 gs i
    rw [List.getElem?_eq_getElem (by rw [ents_length]; exact hi), List.getElem?_eq_getElem hi] at this
    injection this with this
    rw [this]
    simp
  · intro j hj
    have := ents_at 0 gs j
    rw [List.getElem?_eq_getElem (by rw [ents_length]; omega), List.getElem?_eq_getElem (by omega)] at this
    injection this with this
    rw [this]
    simp
    omega
theorem ents_set (gs : List G) {i : Nat} {g : G} (hg : gs[i]? = some g) (v : Value) (l : List Int) : (ents 0 gs).toArray.modify i (fun e => { e with val := v }) = (ents 0 (gs.set i ⟨g.a, g.b, v, l⟩)).toArray := by
  apply Array.ext_getElem?
  intro j
  rw [Array.getElem?_modify]
  simp only [List.getElem?_toArray, ents_at, List.getElem?_set]
  split
  · rename_i hij
    subst hij
    have hlt := (List.getElem?_eq_some_iff.1 hg).1
    have e := (List.getElem?_eq_some_iff.1 hg).2
    simp [hlt, e]
  · rfl
/-- The store of the element that 'm[k]' handed out. -/
theorem run_entry_store {w : World} {m : Nat} {gs : List G} (h : Tab w m gs) {i : Nat} {g : G} (hg : gs[i]? = some g) (v : Value) (l : List Int) :
    (Instr.entryStore 44 (.map (some m)) (.int .i64 i) v).run Try.prog w = .ok () (setBlock w m (.map (ents 0 (gs.set i ⟨g.a, g.b, v, l⟩)).toArray gs.length)) := by
  unfold Instr.entryStore
  have hlt := (List.getElem?_eq_some_iff.1 hg).1
  have hi : (asInt (.int .i64 (i : Int))).run Try.prog w = .ok (i : Int) w := by simp [asInt, asIntOf]
  simp only [Sem.run_bind, MapKept.run_getObj_map h, Result.andThen, hi, ents_idx gs hlt]
  rw [MapKept.run_setObj_map _ h, ents_set gs hg v l]
  rfl
/-- The iterator at block r, its seen stamps. -/
def Iter (w : World) (r m n : Nat) (seen : List Nat) : Prop := w.heap[r]? = some (.mapIter (some m) n seen.toArray n)
theorem run_next_any {w : World} {m r : Nat} {gs : List G} {seen : List Nat} (h : Tab w m gs) (hr : Iter w r m gs.length seen) (ty : TypeId) :
    ((∀ i, i < gs.length → i ∈ seen) ∧ (Instr.next (.pointer (some ⟨r, 0, none⟩)) false ty).run Try.prog w = .ok (.tuple #[.bool false]) w) ∨
    ∃ i g n, gs[i]? = some g ∧ i ∉ seen ∧ (Instr.next (.pointer (some ⟨r, 0, none⟩)) false ty).run Try.prog w = .ok (.tuple #[.bool true, keyV g.a g.b, g.v]) (setBlock (w.drewN n) r (.mapIter (some m) gs.length (seen ++ [i]).toArray gs.length)) := by
  have hold : ∀ x ∈ (ents 0 gs).toArray.toList, x.born < gs.length := by
    intro x hx
    obtain ⟨i, hi, e⟩ := List.getElem_of_mem hx
    have := ents_at 0 gs i
    rw [List.getElem?_eq_getElem hi] at this
    simp at hi
    rw [ents_length] at hi
    rw [List.getElem?_eq_getElem hi] at this
    injection this with this
    simp at e
    rw [← e, this]
    simp
    exact hi
  have hh := h
  have hrr := hr
  unfold Tab at h
  unfold Iter at hr
  simp only [Instr.next, getObj, Sem.run_bind, Sem.run, hr, h, Result.andThen, next_test_false seen.toArray _ gs.length gs.length hold (Nat.le_refl _), Bool.false_eq_true, if_false]
  have hmem : ∀ x ∈ (Array.filter (fun e => !seen.toArray.contains e.born) (ents 0 gs).toArray).toList, x.born < gs.length := fun x hx => hold x (by simp at hx ⊢; exact hx.1)
  have hback : ∀ x ∈ (Array.filter (fun e => !seen.toArray.contains e.born) (ents 0 gs).toArray), ∃ g, gs[x.born]? = some g ∧ x.born ∉ seen ∧ x = { key := keyV g.a g.b, val := g.v, born := x.born } := by
    intro x hx
    simp at hx
    obtain ⟨h1, h2⟩ := hx
    obtain ⟨i, hi, e⟩ := List.getElem_of_mem h1
    have := ents_at 0 gs i
    rw [List.getElem?_eq_getElem hi, e] at this
    rcases hgi : gs[i]? with _ | g
    · rw [hgi] at this; cases this
    · rw [hgi] at this
      simp at this
      have hb : x.born = i := by rw [this]
      exact ⟨g, by rw [hb]; exact hgi, h2, by rw [this]⟩
  have hall : (Array.filter (fun e => !seen.toArray.contains e.born) (ents 0 gs).toArray) = #[] → ∀ i, i < gs.length → i ∈ seen := by
    intro he i hi
    rw [Array.filter_eq_empty_iff] at he
    have := ents_at 0 gs i
    rw [List.getElem?_eq_getElem (by rw [ents_length]; exact hi), List.getElem?_eq_getElem hi] at this
    injection this with this
    have h3 := he ((ents 0 gs)[i]'(by rw [ents_length]; exact hi)) (by simp)
    rw [this] at h3
    simpa using h3
  generalize Array.filter (fun e => !seen.toArray.contains e.born) (ents 0 gs).toArray = L at hmem hback hall ⊢
  have e1 : L.filter (fun x => decide (x.born < gs.length)) = L := Array.filter_eq_self.2 (fun x hx => by simpa using hmem x (by simpa using hx))
  have e2 : L.filter (fun x => decide (x.born ≥ gs.length)) = #[] := by
    rw [Array.filter_eq_empty_iff]
    intro x hx
    have := hmem x (by simpa using hx)
    simp
    omega
  simp only [e1, e2, Array.append_empty]
  by_cases h0 : L.size = 0
  · left
    have : L = #[] := Array.eq_empty_of_size_eq_zero h0
    subst this
    refine ⟨hall rfl, ?_⟩
    simp [choose, Sem.run, Question.forced]
  · right
    have hne : L.isEmpty = false := by simp [Array.isEmpty, h0]
    simp only [hne, Bool.false_eq_true, if_false, Array.empty_append, Array.size_map]
    have hch : ∃ (j n : Nat), j < L.size ∧ (choose (Question.mapNext L.size)).run Try.prog w = .ok j (w.drewN n) := by
      by_cases hf : L.size ≤ 1
      · exact ⟨0, 0, by omega, by simp [choose, Sem.run, Question.forced, hf, World.drewN]⟩
      · exact ⟨_, 1, Nat.mod_lt _ (by omega), by
          simp only [choose, Sem.run, Question.forced, decide_eq_true_eq, hf, if_false, Question.cut]
          rfl⟩
    obtain ⟨j, n, hj, hrun⟩ := hch
    obtain ⟨g, hg, hns, he⟩ := hback L[j] (by simp)
    refine ⟨L[j].born, g, n, hg, hns, ?_⟩
    have hset : ∀ (o' : Obj), (setObj r o').run Try.prog (w.drewN n) = .ok () (setBlock (w.drewN n) r o') := fun o' => by
      have : (w.drewN n).heap[r]? = some (.mapIter (some m) gs.length seen.toArray gs.length) := hr
      simp only [setObj, Sem.run, this]
      rfl
    simp only [hrun, Array.getElem?_map, Array.getElem?_eq_getElem hj, Option.map_some, Sem.run_bind, hset, Result.andThen]
    rw [← show L[j].key = keyV g.a g.b by rw [he], ← show L[j].val = g.v by rw [he]]
    simp
theorem run_entry_any {w : World} {m r i : Nat} {gs : List G} {seen : List Nat} {g : G} (h : Tab w m gs) (hr : Iter w r m gs.length (seen ++ [i])) (hg : gs[i]? = some g) :
    (Instr.entry (.pointer (some ⟨r, 0, none⟩))).run Try.prog w = .ok (.tuple #[keyV g.a g.b, g.v]) w := by
  have hlt := (List.getElem?_eq_some_iff.1 hg).1
  have hf : (ents 0 gs).toArray.find? (·.born == i) = some { key := keyV g.a g.b, val := g.v, born := i } := by
    rw [List.find?_toArray, List.find?_eq_some_iff_getElem]
    refine ⟨by simp, i, by rw [ents_length]; exact hlt, ?_, ?_⟩
    · have := ents_at 0 gs i
      rw [List.getElem?_eq_getElem (by rw [ents_length]; exact hlt), hg] at this
      injection this with this
      rw [this]
      simp
    · intro j hj
      have := ents_at 0 gs j
      rw [List.getElem?_eq_getElem (by rw [ents_length]; omega), List.getElem?_eq_getElem (by omega)] at this
      injection this with this
      rw [this]
      simp
      omega
  unfold Tab at h
  unfold Iter at hr
  simp only [Instr.entry, getObj, Sem.run_bind, Sem.run, hr, Result.andThen]
  simp [Sem.run, h, hf, Result.andThen]
end Go.Proofs.Ytbabdabdohljcaa
