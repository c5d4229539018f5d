/-
  CACHE: an argument of the type Result, xs content; and the row of CacheNil.
-/
import Derived.Test.YtgjjmngcmbpjjaaCacheNil
import Derived.Test.YtgjjmngcmbpjjaaAmCont
import Derived.Test.YtgjjmngcmbpjjaaRows
import Derived.ProofKit
import Derived.OpenShut
import Derived.ShutString
import Derived.JoinedCond
set_option linter.unusedVariables false
set_option linter.unusedSimpArgs false
set_option maxRecDepth 100000
namespace Go.Am.Cache
open Go Go.Am Go.Proofs

theorem list_of {α β : Type} {f : α → β} {p : α → Prop} : ∀ (css : List β), (∀ c ∈ css, ∃ a, c = f a ∧ p a) → ∃ xs : List α, css = xs.map f ∧ ∀ a ∈ xs, p a := by
  intro css
  induction css with
  | nil => intro _; exact ⟨[], rfl, fun a h => by cases h⟩
  | cons c css ih =>
    intro h
    obtain ⟨a, rfl, hp⟩ := h c List.mem_cons_self
    obtain ⟨xs, rfl, hq⟩ := ih fun x hx => h x (List.mem_cons_of_mem _ hx)
    exact ⟨a :: xs, rfl, fun x hx => by
      rcases List.mem_cons.1 hx with rfl | hx
      · exact hp
      · exact hq x hx⟩

theorem cont_str {n : Nat} {xs : List AVal} (h : Cont Try.prog n 9 xs) : ∃ s : List UInt8, xs = [.str s] := by
  cases n with
  | zero => exact h.elim
  | succ n => simp only [Cont, Try.underlying9] at h; obtain ⟨s, h, _⟩ := h; exact ⟨s, h⟩
theorem cont_int3 {n : Nat} {xs : List AVal} (h : Cont Try.prog n 3 xs) : ∃ i, xs = [.int .i64 i] := by
  cases n with
  | zero => exact h.elim
  | succ n => simp only [Cont, Try.underlying3] at h; obtain ⟨s, h, _⟩ := h; exact ⟨s, h⟩
theorem cont_int2 {n : Nat} {xs : List AVal} (h : Cont Try.prog n 2 xs) : ∃ i, xs = [.int .i64 i] := by
  cases n with
  | zero => exact h.elim
  | succ n => simp only [Cont, Try.underlying2] at h; obtain ⟨s, h, _⟩ := h; exact ⟨s, h⟩
theorem cells80 : Try.prog.cellsOf 80 = 3 := by kernel_rfl
theorem cells9 : Try.prog.cellsOf 9 = 1 := by kernel_rfl
theorem cells77 : Try.prog.cellsOf 77 = 1 := by kernel_rfl
theorem strs_flat (ss : List (List UInt8)) : (ss.map fun s => [AVal.str s]).flatten = ss.map .str := by
  induction ss with
  | nil => rfl
  | cons s ss ih => simp only [List.map_cons, List.flatten_cons, List.cons_append, List.nil_append, ih]
theorem strs_sum (ss : List (List UInt8)) : (ss.map fun s => (8 + s.length : Int)).sum ≤ 8 * (bulkL (ss.map .str) : Nat) := by
  induction ss with
  | nil => simp [bulkL]
  | cons s ss ih => simp only [List.map_cons, List.sum_cons, bulkL, bulkA]; push_cast; omega
theorem rows_flat (rs : List RowT) : (rs.map fun r : RowT => [r.v]).flatten = rs.map RowT.v := by
  induction rs with
  | nil => rfl
  | cons s ss ih => simp only [List.map_cons, List.flatten_cons, List.cons_append, List.nil_append, ih]
theorem bulk_ge (l : List AVal) (h : ∀ v ∈ l, v ≠ .top) : l.length ≤ bulkL l := by
  induction l with
  | nil => simp
  | cons v l ih =>
    have h1 := ih fun x hx => h x (List.mem_cons_of_mem _ hx)
    have h2 := h v List.mem_cons_self
    have : 1 ≤ bulkA v := by cases v <;> simp [bulkA] at h2 ⊢
    simp only [List.length_cons, bulkL]; omega

theorem cont_cell {n : Nat} {xs : List AVal} (h : Cont Try.prog n 80 xs) : ∃ c : CellT, xs = c.cells := by
  cases n with
  | zero => exact h.elim
  | succ n =>
    simp only [Cont, Try.underlying80] at h
    obtain ⟨css, rfl, hl, hc⟩ := h (by kernel_rfl)
    obtain ⟨c0, c1, c2, rfl⟩ : ∃ c0 c1 c2, css = [c0, c1, c2] := by
      match css, hl with
      | [c0, c1, c2], _ => exact ⟨c0, c1, c2, rfl⟩
    obtain ⟨i, rfl⟩ := cont_int3 (hc 0 _ _ rfl rfl).1
    obtain ⟨j, rfl⟩ := cont_int2 (hc 1 _ _ rfl rfl).1
    obtain ⟨s, rfl⟩ := cont_str (hc 2 _ _ rfl rfl).1
    exact ⟨⟨i, j, s⟩, rfl⟩

theorem cell_bulk (l : List CellT) : bulkL (l.flatMap CellT.cells) = (l.map fun c => c.text.length + 3).sum := by
  induction l with
  | nil => rfl
  | cons c l ih => simp only [List.flatMap_cons, bulkL_append, ih, CellT.cells, bulkL, bulkA, List.map_cons, List.sum_cons]; omega
theorem cell_cont (l : List CellT) : contBs (l.flatMap CellT.cells) = true := by
  induction l with
  | nil => rfl
  | cons c l ih => simp only [List.flatMap_cons, contBs_append, ih, CellT.cells, contBs, contB, Bool.and_self]

/-- a row of cells -/
theorem cont_row {n : Nat} {xs : List AVal} (h : Cont Try.prog n 77 xs) : ∃ r : RowT, xs = [r.v] ∧ contB r.v = true ∧ (r.cs.map fun c => c.text.length + 3).sum ≤ bulkA r.v := by
  cases n with
  | zero => exact h.elim
  | succ n =>
    simp only [Cont, Try.underlying77] at h
    rcases h with rfl | ⟨h0, _⟩ | ⟨css, cap, rfl, hcap, _, hc⟩
    · exact ⟨⟨[], .nilSl, .inl ⟨rfl, rfl, rfl⟩⟩, rfl, rfl, Nat.zero_le _⟩
    · rw [cells80] at h0; cases h0
    · obtain ⟨cs, rfl, _⟩ := list_of (f := CellT.cells) (p := fun _ => True) css fun c hcm => by
        obtain ⟨a, ha⟩ := cont_cell (hc c hcm).1
        exact ⟨a, ha, trivial⟩
      refine ⟨⟨cs, .lst (cs.map CellT.cells).flatten (cs.map CellT.cells).length cap, .inr ⟨cap, by simp [List.flatMap]⟩⟩, rfl, ?_, ?_⟩
      · have := cell_cont cs
        simp only [List.flatMap] at this
        simp only [contB, this, Bool.true_and]
        rcases hcap with rfl | rfl <;> rfl
      · have := cell_bulk cs
        simp only [List.flatMap] at this
        simp only [bulkA, this]; omega

theorem row_size (r : RowT) (hb : (r.cs.map fun c => c.text.length + 3).sum ≤ bulkA r.v) : r.size ≤ 8 + 16 * bulkA r.v ∧ r.cs.length ≤ bulkA r.v := by
  have : ∀ l : List CellT, (l.map CellT.size).sum ≤ 16 * ((l.map fun c => c.text.length + 3).sum : Nat) ∧ l.length ≤ (l.map fun c => c.text.length + 3).sum := by
    intro l
    induction l with
    | nil => simp
    | cons c l ih =>
      obtain ⟨h1, h2⟩ := ih
      simp only [List.map_cons, List.sum_cons, CellT.size, List.length_cons]
      constructor <;> push_cast <;> omega
  obtain ⟨h1, h2⟩ := this r.cs
  simp only [RowT.size]
  constructor <;> omega

theorem cont_res {n : Nat} {xs : List AVal} (h : Cont Try.prog n 31 xs) (hb : bulkL xs ≤ 1048576) (key : List UInt8) (hk : key.length ≤ 1048576) : ∃ r : ResT, xs = [r.cv, r.rv] ∧ contB r.cv = true ∧ contB r.rv = true ∧ r.Small key := by
  cases n with
  | zero => exact h.elim
  | succ n =>
    simp only [Cont, Try.underlying31] at h
    obtain ⟨css, rfl, hl, hc⟩ := h (by kernel_rfl)
    obtain ⟨c0, c1, rfl⟩ : ∃ c0 c1, css = [c0, c1] := by
      match css, hl with
      | [c0, c1], _ => exact ⟨c0, c1, rfl⟩
    have hc0 := (hc 0 _ _ rfl rfl).1
    have hc1 := (hc 1 _ _ rfl rfl).1
    clear hc hl
    simp only [List.flatten_cons, List.flatten_nil, List.append_nil, bulkL_append] at hb ⊢
    -- the columns
    have cols : ∃ (cols : List (List UInt8)) (cv : AVal), c0 = [cv] ∧ IsSl (cols.map .str) cols.length cv ∧ contB cv = true ∧ cols.length ≤ bulkL c0 ∧ (cols.map fun s => (8 + s.length : Int)).sum ≤ 8 * (bulkL c0 : Nat) := by
      cases n with
      | zero => exact hc0.elim
      | succ n =>
        change Cont Try.prog (n + 1) 28 c0 at hc0
        simp only [Cont, Try.underlying28] at hc0
        rcases hc0 with rfl | ⟨h0, _⟩ | ⟨css, cap, rfl, hcap, _, hc⟩
        · exact ⟨[], .nilSl, rfl, .inl ⟨rfl, rfl, rfl⟩, rfl, Nat.zero_le _, by simp; omega⟩
        · rw [cells9] at h0; cases h0
        · obtain ⟨ss, rfl, _⟩ := list_of (f := fun s => [AVal.str s]) (p := fun _ => True) css fun c hcm => by
            obtain ⟨a, ha⟩ := cont_str (hc c hcm).1
            exact ⟨a, ha, trivial⟩
          have hf := strs_flat ss
          refine ⟨ss, _, rfl, .inr ⟨cap, by rw [hf, List.length_map]⟩, ?_, ?_, ?_⟩
          · rw [hf]
            have : contBs (ss.map .str) = true := by rw [contBs_iff]; intro v hv; obtain ⟨s, _, rfl⟩ := List.mem_map.1 hv; rfl
            simp only [contB, this, Bool.true_and]
            rcases hcap with rfl | rfl <;> rfl
          · rw [hf]
            have := bulk_ge (ss.map .str) (by intro v hv; obtain ⟨s, _, rfl⟩ := List.mem_map.1 hv; simp)
            simp only [List.length_map] at this
            simp only [bulkL, bulkA]; omega
          · rw [hf]
            have := strs_sum ss
            simp only [bulkL, bulkA]; push_cast; omega
    have rows : ∃ (rows : List RowT) (rv : AVal), c1 = [rv] ∧ IsSl (rows.map RowT.v) rows.length rv ∧ contB rv = true ∧ rows.length ≤ bulkL c1 ∧ (∀ x ∈ rows, x.cs.length ≤ bulkL c1) ∧ (rows.map RowT.size).sum ≤ 24 * (bulkL c1 : Nat) := by
      cases n with
      | zero => exact hc1.elim
      | succ n =>
        change Cont Try.prog (n + 1) 29 c1 at hc1
        simp only [Cont, Try.underlying29] at hc1
        rcases hc1 with rfl | ⟨h0, _⟩ | ⟨css, cap, rfl, hcap, _, hc⟩
        · exact ⟨[], .nilSl, rfl, .inl ⟨rfl, rfl, rfl⟩, rfl, Nat.zero_le _, fun x h => absurd h (by simp), by simp; omega⟩
        · rw [cells77] at h0; cases h0
        · obtain ⟨rs, rfl, hp⟩ := list_of (f := fun r : RowT => [r.v]) (p := fun r => contB r.v = true ∧ (r.cs.map fun c => c.text.length + 3).sum ≤ bulkA r.v) css fun c hcm => by
            obtain ⟨a, ha, h2⟩ := cont_row (hc c hcm).1
            exact ⟨a, ha, h2⟩
          have hf := rows_flat rs
          have hall : ∀ l : List RowT, (∀ r ∈ l, contB r.v = true ∧ (r.cs.map fun c => c.text.length + 3).sum ≤ bulkA r.v) → contBs (l.map RowT.v) = true ∧ l.length ≤ bulkL (l.map RowT.v) ∧ (∀ x ∈ l, x.cs.length ≤ bulkL (l.map RowT.v)) ∧ (l.map RowT.size).sum ≤ 24 * (bulkL (l.map RowT.v) : Nat) := by
            intro l
            induction l with
            | nil => intro _; exact ⟨rfl, Nat.zero_le _, fun x h => absurd h (by simp), by simp [bulkL]⟩
            | cons r l ih =>
              intro h
              obtain ⟨i1, i2, i3, i4⟩ := ih fun x hx => h x (List.mem_cons_of_mem _ hx)
              obtain ⟨j1, j2⟩ := h r List.mem_cons_self
              obtain ⟨k1, k2⟩ := row_size r j2
              have hne : 1 ≤ bulkA r.v := by
                rcases r.ok with ⟨h, _⟩ | ⟨c, h⟩ <;> rw [h] <;> simp [bulkA]
              refine ⟨by simp only [List.map_cons, contBs, j1, i1, Bool.and_self], by simp only [List.map_cons, List.length_cons, bulkL]; omega, fun x hx => ?_, by simp only [List.map_cons, List.sum_cons, bulkL]; push_cast; omega⟩
              simp only [List.map_cons, bulkL]
              rcases List.mem_cons.1 hx with rfl | hx
              · omega
              · have := i3 x hx; omega
          obtain ⟨i1, i2, i3, i4⟩ := hall rs hp
          refine ⟨rs, _, rfl, .inr ⟨cap, by rw [hf, List.length_map]⟩, ?_, ?_, ?_, ?_⟩
          · rw [hf]
            simp only [contB, i1, Bool.true_and]
            rcases hcap with rfl | rfl <;> rfl
          · rw [hf]; simp only [bulkL, bulkA]; omega
          · intro x hx; have := i3 x hx; rw [hf]; simp only [bulkL, bulkA]; omega
          · rw [hf]; simp only [bulkL, bulkA]; push_cast; omega
    obtain ⟨cs, cv, rfl, hcs, hcc, hcl, hcsum⟩ := cols
    obtain ⟨rs, rv, rfl, hrs, hrc, hrl, hrow, hrsum⟩ := rows
    refine ⟨⟨cs, cv, hcs, rs, rv, hrs⟩, rfl, hcc, hrc, ⟨?_, ?_, ?_, fun x hx => ?_⟩⟩
    · simp only [sizeOf]; push_cast at *; omega
    · simp only; omega
    · simp only; omega
    · have := hrow x hx; omega
end Go.Am.Cache
