/-
  CACHE: what lies in memory where a cache is, and how an entry is let go.
-/
import Derived.Test.YtgjjmngcmbpjjaaCacheUse
set_option linter.unusedSimpArgs false
set_option linter.unusedVariables false
set_option maxRecDepth 100000
namespace Go.Am.Cache
open Go Go.Am Go.Proofs

/-! ### the map -/
abbrev MEnt := List UInt8 × Nat × Nat
def mcell (t : MEnt) : AVal × AVal × Nat := (.str t.1, .ptr t.2.1 0, t.2.2)
theorem find_none {k : List UInt8} : ∀ {es : List MEnt} {i : Nat}, (∀ t ∈ es, t.1 ≠ k) → findA .string (.str k) (es.map mcell) i = some none := by
  intro es
  induction es with
  | nil => intro i _; rfl
  | cons t es ih =>
    intro i h
    have h1 : (k == t.1) = false := by have := h t List.mem_cons_self; simpa using fun e => this e.symm
    simp only [List.map_cons, findA, mcell, sameKeyA, Option.bind_eq_bind, Option.bind_some, h1, Bool.false_eq_true, if_false]
    exact ih fun x hx => h x (List.mem_cons_of_mem _ hx)
theorem find_some {k : List UInt8} {p b : Nat} {d : List MEnt} : ∀ {a : List MEnt} {i : Nat}, (∀ t ∈ a, t.1 ≠ k) → findA .string (.str k) ((a ++ (k, p, b) :: d).map mcell) i = some (some (i + a.length, .ptr p 0, b)) := by
  intro a
  induction a with
  | nil => intro i _; simp [findA, mcell, sameKeyA]
  | cons t a ih =>
    intro i h
    have h1 : (k == t.1) = false := by have := h t List.mem_cons_self; simpa using fun e => this e.symm
    have := ih (i := i + 1) fun x hx => h x (List.mem_cons_of_mem _ hx)
    simp only [List.cons_append, List.map_cons, findA, sameKeyA, Option.bind_eq_bind, Option.bind_some, h1, Bool.false_eq_true, if_false, List.length_cons]
    simp only [mcell, sameKeyA, Option.bind_some, h1, Bool.false_eq_true, if_false]
    rw [show i + (a.length + 1) = i + 1 + a.length from by omega]; exact this

def MapP (h : AHeap) (mv : AVal) (L : List (List UInt8 × Nat)) : Prop := (mv = .nilMap ∧ L = []) ∨
  ∃ (mid : Nat) (es : List MEnt) (clk : Nat), mv = .map mid ∧ h.get mid = some (.map (es.map mcell) clk) ∧ (es.map fun t => (t.1, t.2.1)).Perm L
def mapId : AVal → List Nat
  | .map i => [i]
  | _ => []
theorem MapP.congr {h h' : AHeap} {v : AVal} {L : List (List UInt8 × Nat)} (hv : MapP h v L) (he : ∀ i ∈ mapId v, h'.get i = h.get i) : MapP h' v L := by
  rcases hv with ⟨rfl, rfl⟩ | ⟨mid, es, clk, rfl, hg, hp⟩
  · exact .inl ⟨rfl, rfl⟩
  · exact .inr ⟨mid, es, clk, rfl, by rw [he mid (by simp [mapId])]; exact hg, hp⟩
theorem MapP.isCell {h : AHeap} {v : AVal} {L : List (List UInt8 × Nat)} (hv : MapP h v L) : v.isCell = true := by
  rcases hv with ⟨rfl, _⟩ | ⟨oi, cells, _, rfl, _⟩ <;> rfl

theorem lk51 (h : AHeap) (x k : AVal) : alookup Try.prog h 51 x k false = if plainKey .string k then (mapEntries h x).bind fun es => (findA .string k es 0).bind fun r => (match r with
    | some (_, v, _) => some v
    | none => some .nilPtr) else none := by kernel_rfl
theorem de51 (h : AHeap) (x k : AVal) : adelete Try.prog h 51 x k = if plainKey .string k then (match x with
    | .nilMap => some h
    | .map id => match h.get id with
      | some (.map es clock) => (findA .string k es 0).bind fun r => match r with
        | some (i, _, _) => some (h.set id (some (.map (es.eraseIdx i) clock)))
        | none => some h
      | _ => none
    | _ => none) else none := by kernel_rfl
theorem mu51 (h : AHeap) (id : Nat) (k v : AVal) : amapUpdate Try.prog h 51 (.map id) k v = match h.get id with
    | some (.map es clock) => if plainKey .string k && v.boxable then (findA .string k es 0).bind fun r => (match r with
        | some (i, _, born) => some (h.set id (some (.map (es.set i (k, v, born)) clock)))
        | none => some (h.set id (some (.map (es ++ [(k, v, clock)]) (clock + 1))))) else none
    | _ => none := by kernel_rfl

/-- of a map's entries, the one of a key -/
theorem perm_split {es : List MEnt} {L : List (List UInt8 × Nat)} (hp : (es.map fun t => (t.1, t.2.1)).Perm L) (hk : (L.map Prod.fst).Nodup) {k : List UInt8} {p : Nat} {pre post : List (List UInt8 × Nat)} (hL : L = pre ++ (k, p) :: post) :
    ∃ a b d, es = a ++ (k, p, b) :: d ∧ (∀ t ∈ a, t.1 ≠ k) ∧ ((a ++ d).map fun t => (t.1, t.2.1)).Perm (pre ++ post) := by
  have hm : (k, p) ∈ es.map fun t => (t.1, t.2.1) := hp.mem_iff.2 (by rw [hL]; simp)
  obtain ⟨t, ht, he⟩ := List.mem_map.1 hm
  obtain ⟨a, d, rfl⟩ := List.append_of_mem ht
  obtain ⟨t1, t2, t3⟩ := t
  simp only [Prod.mk.injEq] at he
  obtain ⟨rfl, rfl⟩ := he
  have hkn : ((a ++ (t1, t2, t3) :: d).map fun t => t.1).Nodup := by
    have h2 := (hp.map Prod.fst).nodup_iff.2 hk
    rw [List.map_map] at h2
    exact h2
  refine ⟨a, t3, d, rfl, fun t ht e => ?_, ?_⟩
  · rw [List.map_append, List.map_cons, List.nodup_append] at hkn
    exact hkn.2.2 _ (List.mem_map_of_mem ht) t1 (List.mem_cons_self) e
  · have h3 : ((t1, t2) :: ((a ++ d).map fun t => (t.1, t.2.1))).Perm ((t1, t2) :: (pre ++ post)) := by
      refine List.Perm.trans ?_ (hp.trans ?_)
      · simp only [List.map_append, List.map_cons]
        exact List.perm_middle.symm
      · rw [hL]; exact List.perm_middle
    exact h3.cons_inv

theorem lookup_some {h : AHeap} {mv : AVal} {L : List (List UInt8 × Nat)} (hv : MapP h mv L) (hk : (L.map Prod.fst).Nodup) {k : List UInt8} {p : Nat} (hm : (k, p) ∈ L) : alookup Try.prog h 51 mv (.str k) false = some (.ptr p 0) := by
  obtain ⟨pre, post, hL⟩ := List.append_of_mem hm
  rcases hv with ⟨_, rfl⟩ | ⟨mid, es, clk, rfl, hg, hp⟩
  · cases hm
  · obtain ⟨a, b, d, rfl, ha, _⟩ := perm_split hp hk hL
    simp only [lk51, plainKey, if_true, mapEntries, hg, Option.bind_some, find_some ha]
theorem lookup_none {h : AHeap} {mv : AVal} {L : List (List UInt8 × Nat)} (hv : MapP h mv L) {k : List UInt8} (hm : k ∉ L.map Prod.fst) : alookup Try.prog h 51 mv (.str k) false = some .nilPtr := by
  rcases hv with ⟨rfl, rfl⟩ | ⟨mid, es, clk, rfl, hg, hp⟩
  · rw [lk51]; rfl
  · have : ∀ t ∈ es, t.1 ≠ k := fun t ht e => hm (by
      have h2 : t.1 ∈ (es.map fun t => (t.1, t.2.1)).map Prod.fst := List.mem_map.2 ⟨(t.1, t.2.1), List.mem_map.2 ⟨t, ht, rfl⟩, rfl⟩
      rw [← e]; exact (hp.map Prod.fst).mem_iff.1 h2)
    simp only [lk51, plainKey, if_true, mapEntries, hg, Option.bind_some, find_none this]
theorem delete_some {h : AHeap} {mv : AVal} {L : List (List UInt8 × Nat)} (hv : MapP h mv L) (hk : (L.map Prod.fst).Nodup) {k : List UInt8} {p : Nat} {pre post : List (List UInt8 × Nat)} (hL : L = pre ++ (k, p) :: post) :
    ∃ h', adelete Try.prog h 51 mv (.str k) = some h' ∧ MapP h' mv (pre ++ post) ∧ h'.next = h.next ∧ ∀ j, j ∉ mapId mv → h'.get j = h.get j := by
  rcases hv with ⟨_, rfl⟩ | ⟨mid, es, clk, rfl, hg, hp⟩
  · simp at hL
  · obtain ⟨a, b, d, rfl, ha, hp2⟩ := perm_split hp hk hL
    refine ⟨h.set mid (some (.map ((a ++ d).map mcell) clk)), ?_, .inr ⟨mid, a ++ d, clk, rfl, Heap.get_set_eq, hp2⟩, rfl, fun j hj => Heap.get_set_ne (by simpa [mapId] using hj)⟩
    simp only [de51, plainKey, if_true, hg, find_some ha, Option.bind_some, Nat.zero_add]
    congr 4
    rw [List.map_append, List.map_append, List.map_cons, List.eraseIdx_append_of_length_le (by simp)]
    simp
theorem update_new {h : AHeap} {mid : Nat} {L : List (List UInt8 × Nat)} (hv : MapP h (.map mid) L) {k : List UInt8} (hm : k ∉ L.map Prod.fst) (p : Nat) :
    ∃ h', amapUpdate Try.prog h 51 (.map mid) (.str k) (.ptr p 0) = some h' ∧ MapP h' (.map mid) (L ++ [(k, p)]) ∧ h'.next = h.next ∧ ∀ j, j ≠ mid → h'.get j = h.get j := by
  rcases hv with ⟨h0, _⟩ | ⟨mid', es, clk, e, hg, hp⟩
  · cases h0
  · cases e
    have : ∀ t ∈ es, t.1 ≠ k := fun t ht e => hm (by
      have h2 : t.1 ∈ (es.map fun t => (t.1, t.2.1)).map Prod.fst := List.mem_map.2 ⟨(t.1, t.2.1), List.mem_map.2 ⟨t, ht, rfl⟩, rfl⟩
      rw [← e]; exact (hp.map Prod.fst).mem_iff.1 h2)
    refine ⟨h.set mid (some (.map ((es ++ [(k, p, clk)]).map mcell) (clk + 1))), ?_, .inr ⟨mid, es ++ [(k, p, clk)], clk + 1, rfl, Heap.get_set_eq, ?_⟩, rfl, fun j hj => Heap.get_set_ne hj⟩
    · simp only [mu51, hg, plainKey, AVal.boxable, AVal.isCell, Bool.and_self, if_true, find_none this, Option.bind_some, List.map_append, List.map_cons, List.map_nil, mcell]
    · simp only [List.map_append, List.map_cons, List.map_nil]
      exact hp.append_right _
end Go.Am.Cache
