import Derived.Test.YthfbbjoaidajfaaGreatDoorAmCall
set_option linter.unusedVariables false
set_option linter.unusedSimpArgs false
set_option linter.unusedSimpArgs false
namespace Go.Am
open Go
mutual
theorem eqA_ok : ∀ a b, eqA a b = true → a = b
  | .iptr x, .iptr y, h => by simp only [eqA] at h; rw [eqAs_ok x y h]
  | .lst x n c, .lst y m d, h => by simp only [eqA, Bool.and_eq_true, decide_eq_true_eq] at h; rw [eqAs_ok x y h.1.1, h.1.2, h.2]
  | .agg x, .agg y, h => by simp only [eqA] at h; rw [eqAs_ok x y h]
  | .tup x, .tup y, h => by simp only [eqA] at h; rw [eqAs_ok x y h]
  | .iface t x, .iface u y, h => by simp only [eqA, Bool.and_eq_true, decide_eq_true_eq] at h; rw [h.1, eqA_ok x y h.2]
  | .fn f x z, .fn g y u, h => by simp only [eqA, Bool.and_eq_true, decide_eq_true_eq] at h; rw [h.1.1, eqAs_ok x y h.1.2, eqAs_ok z u h.2]
  | .top, b, h => by cases b <;> simp_all [eqA]
  | .nilPtr, b, h => by cases b <;> simp_all [eqA]
  | .nilSl, b, h => by cases b <;> simp_all [eqA]
  | .nilMap, b, h => by cases b <;> simp_all [eqA]
  | .nilI, b, h => by cases b <;> simp_all [eqA]
  | .nilFn, b, h => by cases b <;> simp_all [eqA]
  | .bool x, b, h => by cases b <;> simp_all [eqA]
  | .int k x, b, h => by cases b <;> simp_all [eqA]
  | .str x, b, h => by cases b <;> simp_all [eqA]
  | .ptr i x, b, h => by cases b <;> simp_all [eqA]
  | .map i, b, h => by cases b <;> simp_all [eqA]
  | .sl i a b c d e, x, h => by cases x <;> simp_all [eqA]
theorem eqAs_ok : ∀ a b, eqAs a b = true → a = b
  | [], [], _ => rfl
  | x :: xs, y :: ys, h => by simp only [eqAs, Bool.and_eq_true] at h; rw [eqA_ok x y h.1, eqAs_ok xs ys h.2]
  | [], _ :: _, h => by simp [eqAs] at h
  | _ :: _, [], h => by simp [eqAs] at h
end
theorem eqE_ok : ∀ a b, eqE a b = true → a = b
  | [], [], _ => rfl
  | (x1, x2, x3) :: xs, (y1, y2, y3) :: ys, h => by
    simp only [eqE, Bool.and_eq_true, decide_eq_true_eq] at h
    rw [eqA_ok _ _ h.1.1.1, eqA_ok _ _ h.1.1.2, h.1.2, eqE_ok xs ys h.2]
  | [], _ :: _, h => by simp [eqE] at h
  | _ :: _, [], h => by simp [eqE] at h
theorem eqB_ok : ∀ a b, eqB a b = true → a = b
  | .arr x, b, h => by cases b <;> simp [eqB] at h; rw [eqAs_ok _ _ h]
  | .tok x, b, h => by cases b <;> simp [eqB] at h; rw [h]
  | .map x m, b, h => by cases b <;> simp [eqB] at h; rw [eqE_ok _ _ h.1, h.2]
  | .sIter x m, b, h => by cases b <;> simp [eqB] at h; rw [h.1, h.2]
theorem sameBlk_ok {h h' : AHeap} {id : Nat} (hs : sameBlk h h' id = true) : h'.get id = h.get id := by
  unfold sameBlk at hs
  split at hs
  · rename_i h1 h2; rw [h1, h2, eqB_ok _ _ hs]
  · rename_i h1 h2; rw [h1, h2]
  · cases hs
def Stp (C : Cfg) (call : CallF) (ops : Array Oper) (o : Oper) (c : Option (List Nat)) (v : AVal) (S S' : ASt) : Prop :=
  S'.tmps = put S.tmps o.dst v ∧
  ((awanted ops S.tmps o = some false ∧ v = .tup [] ∧ S'.h = S.h ∧ c = some []) ∨
   (awanted ops S.tmps o = some true ∧
    ((aoper C (evalO C S.tmps) S.h o = some (.val v S'.h) ∧ c = areads C (evalO C S.tmps) o) ∨
     ∃ f args, aoper C (evalO C S.tmps) S.h o = some (.call f args) ∧ call f args S.h = some (.ret v, S'.h) ∧
      c = if apure C f args then some [] else none)))
theorem drawGo_trace {C : Cfg} {call : CallF} {ops : Array Oper} : ∀ (l : List Oper) (s : ASt) (cs : List Did) (s' : ASt), drawGo C call ops l s = some (cs, s') →
    ∃ (S : Nat → ASt) (V : Nat → AVal) (c : Nat → Option (List Nat)), S 0 = s ∧ S l.length = s' ∧ cs.length = l.length ∧
      ∀ i o, l[i]? = some o → cs[i]? = some ⟨c i, (S i).h, (S (i + 1)).h⟩ ∧ Stp C call ops o (c i) (V i) (S i) (S (i + 1)) := by
  intro l
  induction l with
  | nil =>
    intro s cs s' h
    simp only [drawGo, Option.some.injEq, Prod.mk.injEq] at h
    obtain ⟨rfl, rfl⟩ := h
    exact ⟨fun _ => s, fun _ => .top, fun _ => none, rfl, rfl, rfl, fun i o h => by simp at h⟩
  | cons o rest ih =>
    intro s cs s' h
    have build : ∀ (s1 : ASt) (v : AVal) (c0 : Option (List Nat)), (drawGo C call ops rest s1).map (fun r => (⟨c0, s.h, s1.h⟩ :: r.1, r.2)) = some (cs, s') → Stp C call ops o c0 v s s1 →
        ∃ (S : Nat → ASt) (V : Nat → AVal) (c : Nat → Option (List Nat)), S 0 = s ∧ S (o :: rest).length = s' ∧ cs.length = (o :: rest).length ∧
          ∀ i o', (o :: rest)[i]? = some o' → cs[i]? = some ⟨c i, (S i).h, (S (i + 1)).h⟩ ∧ Stp C call ops o' (c i) (V i) (S i) (S (i + 1)) := by
      intro s1 v c0 hm hst
      simp only [Option.map_eq_some_iff, Prod.mk.injEq] at hm
      obtain ⟨⟨cs1, s2⟩, hr, rfl, rfl⟩ := hm
      obtain ⟨S, V, c, h0, h1, h2, h3⟩ := ih s1 cs1 s2 hr
      refine ⟨fun k => match k with | 0 => s | k + 1 => S k, fun k => match k with | 0 => v | k + 1 => V k, fun k => match k with | 0 => c0 | k + 1 => c k, rfl, by simpa using h1, by simp [h2], fun i o' ho' => ?_⟩
      cases i with
      | zero =>
        simp only [List.getElem?_cons_zero, Option.some.injEq] at ho'; subst ho'
        simp only [List.getElem?_cons_zero]
        rw [show S 0 = s1 from h0]; exact ⟨rfl, hst⟩
      | succ i =>
        simp only [List.getElem?_cons_succ]
        exact h3 i o' (by simpa using ho')
    simp only [drawGo] at h
    cases hw : awanted ops s.tmps o with
    | none => simp [hw] at h
    | some b =>
      cases b with
      | false => simp only [hw] at h; exact build _ (.tup []) (some []) h ⟨rfl, .inl ⟨hw, rfl, rfl, rfl⟩⟩
      | true =>
        simp only [hw] at h
        cases ho : aoper C (evalO C s.tmps) s.h o with
        | none => simp [ho] at h
        | some out =>
          cases out with
          | val v h' => simp only [ho] at h; exact build _ v _ h ⟨rfl, .inr ⟨hw, .inl ⟨ho, rfl⟩⟩⟩
          | pan v => simp [ho] at h
          | call f args =>
            simp only [ho] at h
            cases hc : call f args s.h with
            | none => simp [hc] at h
            | some q =>
              obtain ⟨r, h'⟩ := q
              cases r with
              | pan v => simp [hc] at h
              | ret v => simp only [hc] at h; exact build _ v _ h ⟨rfl, .inr ⟨hw, .inr ⟨f, args, ho, hc, rfl⟩⟩⟩
def TD (V : Nat → AVal) (D : Nat → Bool) : List Oper → Nat → List AVal → List AVal
  | [], _, acc => acc
  | o :: os, k, acc => TD V D os (k + 1) (if D k then put acc o.dst (V k) else acc)
def HD (c : Nat → Option (List Nat)) (S : Nat → ASt) (D : Nat → Bool) : Nat → Nat → AHeap → AHeap
  | 0, _, acc => acc
  | n + 1, k, acc => HD c S D n (k + 1) (if D k && (c k).isNone then (S (k + 1)).h else acc)
theorem mem_writes {o : Oper} {t : Nat} : t ∈ writes o ↔ o.dst = some t := by
  unfold writes
  cases o.dst with
  | none => simp
  | some d => simp [eq_comm]
theorem put_length (acc : List AVal) (dst : Option Tmp) (v : AVal) : (put acc dst v).length = acc.length := by cases dst <;> simp [put]
theorem put_get (acc : List AVal) (dst : Option Tmp) (v : AVal) (t : Nat) : (put acc dst v)[t]? = if dst = some t then (if t < acc.length then some v else none) else acc[t]? := by
  cases dst with
  | none => simp [put]
  | some d =>
    simp only [put, List.getElem?_set, Option.some.injEq]
    by_cases h : d = t
    · subst h; simp
    · simp [h]
theorem TD_length (V : Nat → AVal) (D : Nat → Bool) : ∀ (l : List Oper) (k : Nat) (acc : List AVal), (TD V D l k acc).length = acc.length := by
  intro l
  induction l with
  | nil => intro k acc; rfl
  | cons o os ih =>
    intro k acc
    simp only [TD]; rw [ih]
    split
    · exact put_length _ _ _
    · rfl
theorem TD_get {V : Nat → AVal} {D D' : Nat → Bool} {t : Nat} : ∀ (l : List Oper) (k : Nat) (acc acc' : List AVal), acc.length = acc'.length → acc[t]? = acc'[t]? → (∀ j o, l[j]? = some o → t ∈ writes o → D (k + j) = D' (k + j)) →
    (TD V D l k acc)[t]? = (TD V D' l k acc')[t]? := by
  intro l
  induction l with
  | nil => intro k acc acc' _ h _; exact h
  | cons o os ih =>
    intro k acc acc' hl h hw
    simp only [TD]
    refine ih (k + 1) _ _ ?_ ?_ (fun j o' ho' hto => by have := hw (j + 1) o' (by simpa using ho') hto; rw [show k + 1 + j = k + (j + 1) from by omega]; exact this)
    · split <;> split <;> simp [put_length, hl]
    · by_cases ht : t ∈ writes o
      · have := hw 0 o rfl ht
        rw [Nat.add_zero] at this
        rw [this]
        split
        · rw [put_get, put_get, hl, h]
        · exact h
      · have hd : o.dst ≠ some t := fun e => ht (mem_writes.2 e)
        split <;> split <;> first | (simp only [put_get, hd, if_false]; exact h) | exact h
theorem TD_none {V : Nat → AVal} {D : Nat → Bool} : ∀ (l : List Oper) (k : Nat) (acc : List AVal), (∀ j, k ≤ j → D j = false) → TD V D l k acc = acc := by
  intro l
  induction l with
  | nil => intro k acc _; rfl
  | cons o os ih =>
    intro k acc h
    simp only [TD, h k (Nat.le_refl _), Bool.false_eq_true, if_false]
    exact ih _ _ (fun j hj => h j (by omega))
theorem HD_congr {c : Nat → Option (List Nat)} {S : Nat → ASt} {D D' : Nat → Bool} : ∀ (n k : Nat) (acc : AHeap), (∀ j, k ≤ j → j < k + n → c j = none → D j = D' j) → HD c S D n k acc = HD c S D' n k acc := by
  intro n
  induction n with
  | zero => intro k acc _; rfl
  | succ n ih =>
    intro k acc h
    simp only [HD]
    have : (D k && (c k).isNone) = (D' k && (c k).isNone) := by
      cases hc : c k with
      | none => rw [h k (Nat.le_refl _) (by omega) hc]
      | some _ => simp
    rw [this]
    exact ih _ _ (fun j hj hj2 => h j (by omega) (by omega))
theorem HD_none {c : Nat → Option (List Nat)} {S : Nat → ASt} {D : Nat → Bool} : ∀ (n k : Nat) (acc : AHeap), (∀ j, k ≤ j → D j = false) → HD c S D n k acc = acc := by
  intro n
  induction n with
  | zero => intro k acc _; rfl
  | succ n ih =>
    intro k acc h
    simp only [HD, h k (Nat.le_refl _), Bool.false_and, Bool.false_eq_true, if_false]
    exact ih _ _ (fun j hj => h j (by omega))
section
variable {C : Cfg} {call : CallF} {ops : Array Oper} {S : Nat → ASt} {V : Nat → AVal} {c : Nat → Option (List Nat)}
theorem TD_text (hst : ∀ i o, ops.toList[i]? = some o → Stp C call ops o (c i) (V i) (S i) (S (i + 1))) : ∀ (l : List Oper) (k i : Nat), (∀ j, l[j]? = ops.toList[k + j]?) → k ≤ i → i ≤ k + l.length →
    TD V (fun j => decide (j < i)) l k (S k).tmps = (S i).tmps := by
  intro l
  induction l with
  | nil => intro k i _ h1 h2; simp at h2; have : i = k := by omega
           subst this; rfl
  | cons o os ih =>
    intro k i hl h1 h2
    by_cases hk : k = i
    · subst hk
      exact TD_none _ _ _ (fun j hj => by simp; omega)
    · simp only [TD]
      have ho : ops.toList[k]? = some o := by have := hl 0; simpa using this.symm
      have := (hst k o ho).1
      rw [if_pos (by simp; omega), ← this]
      exact ih (k + 1) i (fun j => by have := hl (j + 1); rw [show k + 1 + j = k + (j + 1) from by omega]; simpa using this) (by omega) (by simp at h2; omega)
theorem HD_text (hk : ∀ i, i < ops.size → c i ≠ none → (S (i + 1)).h = (S i).h) : ∀ (n k i : Nat), k + n = ops.size → k ≤ i → i ≤ ops.size → HD c S (fun j => decide (j < i)) n k (S k).h = (S i).h := by
  intro n
  induction n with
  | zero => intro k i h1 h2 h3; have : i = k := by omega
            subst this; rfl
  | succ n ih =>
    intro k i h1 h2 h3
    by_cases hki : k = i
    · subst hki
      exact HD_none _ _ _ (fun j hj => by simp; omega)
    · simp only [HD]
      have hd : decide (k < i) = true := by simp; omega
      cases hc : c k with
      | none =>
        simp only [hd, Option.isNone_none, Bool.and_self, if_true]
        exact ih (k + 1) i (by omega) (by omega) h3
      | some _ =>
        simp only [Option.isNone_some, Bool.and_false, Bool.false_eq_true, if_false]
        rw [← hk k (by omega) (by rw [hc]; simp)]
        exact ih (k + 1) i (by omega) (by omega) h3
end
section
variable {C : Cfg}
theorem aoper_congr {ev ev' : Operand → AVal} {h : AHeap} {o : Oper} (he : ∀ x ∈ o.op.operands, ev x = ev' x) : aoper C ev h o = aoper C ev' h o := by
  unfold aoper
  cases ho : o.op <;> rw [ho] at he <;> simp only [Op.operands] at he ⊢
  case buildSlice t len parts =>
    have : (parts.toList.map fun p => (p.1, ev p.2)) = (parts.toList.map fun p => (p.1, ev' p.2)) := List.map_congr_left fun p hp => by rw [he p.2 (by simp; exact ⟨p.1, by simpa using hp⟩)]
    rw [this]
  case build t parts =>
    have : (parts.toList.map fun p => (p.1, ev p.2)) = (parts.toList.map fun p => (p.1, ev' p.2)) := List.map_congr_left fun p hp => by rw [he p.2 (by simp; exact ⟨p.1, by simpa using hp⟩)]
    rw [this]
  case makeFunc fn first cap =>
    have h1 : first.toList.map ev = first.toList.map ev' := List.map_congr_left fun p hp => he p (by simp; exact .inl (by simpa using hp))
    have h2 : cap.toList.map ev = cap.toList.map ev' := List.map_congr_left fun p hp => he p (by simp; exact .inr (by simpa using hp))
    rw [h1, h2]
  case makeMap t r =>
    cases r with
    | none => rfl
    | some r => simp only; rw [he r (by simp)]
  case slice t x lo hi mx =>
    have h1 : lo.map ev = lo.map ev' := by cases lo with
      | none => rfl
      | some a => simp only [Option.map_some]; rw [he a (by simp)]
    have h2 : hi.map ev = hi.map ev' := by cases hi with
      | none => rfl
      | some a => simp only [Option.map_some]; rw [he a (by simp)]
    have h3 : mx.map ev = mx.map ev' := by cases mx with
      | none => rfl
      | some a => simp only [Option.map_some]; rw [he a (by simp)]
    rw [he x (by simp), h1, h2, h3]
  case call c =>
    obtain ⟨callee, cargs, cts⟩ := c
    simp only [Call.operands] at he
    have h1 : cargs.toList.map ev = cargs.toList.map ev' := List.map_congr_left fun p hp => he p (by simp; exact .inr (by simpa using hp))
    cases callee with
    | builtin b => simp only [acallOp, h1]
    | value f => simp only [acallOp, h1]; rw [he f (by simp)]
    | invoke r m => rfl
  all_goals (try rfl)
  all_goals (simp only [List.mem_toArray, List.mem_cons, List.not_mem_nil, or_false, forall_eq_or_imp, forall_eq] at he)
  all_goals first | rw [he] | (obtain ⟨h1, h2⟩ := he; rw [h1, h2]) | (obtain ⟨h1, h2, h3⟩ := he; rw [h1, h2, h3])
theorem abin_indep {op : BinOp} {t : TypeId} {xo yo : Operand} {h h2 : AHeap} {x y : AVal} (h1 : op ≠ .eql) (h3 : op ≠ .neq) : abin C op t xo yo h x y = abin C op t xo yo h2 x y := by
  cases op <;> first | exact absurd rfl h1 | exact absurd rfl h3 | skip
  all_goals cases x <;> cases y <;> rfl
def opClass (o : Oper) : Nat :=
  match o.op with
  | .move _ | .assign _ | .pick .. | .build .. | .nilCheck _ | .unOp .. | .makeInterface .. | .makeFunc .. | .fieldAddr .. | .field ..
  | .indexAddr .. | .index .. | .extract .. | .typeAssert .. => 0
  | .binOp op .. => match op with
    | .eql | .neq => 1
    | _ => 0
  | .load .. | .lookup .. | .slice .. => 1
  | .call c => match c.callee with
    | .builtin .len | .builtin .cap => 1
    | .builtin .max | .builtin .min => 0
    | _ => 2
  | _ => 2
theorem aoper_zero {ev : Operand → AVal} {h h' : AHeap} {o : Oper} {v : AVal} (hc : opClass o = 0) (ha : aoper C ev h o = some (.val v h')) : h' = h ∧ ∀ h2, aoper C ev h2 o = some (.val v h2) := by
  unfold aoper at ha ⊢
  unfold opClass at hc
  cases ho : o.op <;> rw [ho] at ha hc <;> simp only at ha hc ⊢ <;> try (cases hc; done)
  case move x => simp only [Option.some.injEq, AOut.val.injEq] at ha; obtain ⟨rfl, rfl⟩ := ha; exact ⟨rfl, fun _ => rfl⟩
  case assign x => simp only [Option.some.injEq, AOut.val.injEq] at ha; obtain ⟨rfl, rfl⟩ := ha; exact ⟨rfl, fun _ => rfl⟩
  case makeFunc f a b => simp only [Option.some.injEq, AOut.val.injEq] at ha; obtain ⟨rfl, rfl⟩ := ha; exact ⟨rfl, fun _ => rfl⟩
  case pick c a b =>
    split at ha
    · simp only [Option.some.injEq, AOut.val.injEq] at ha; obtain ⟨rfl, rfl⟩ := ha; exact ⟨rfl, fun _ => rfl⟩
    · cases ha
  case nilCheck x =>
    split at ha
    all_goals first
      | (cases ha; done)
      | (simp only [Option.some.injEq, AOut.val.injEq] at ha; obtain ⟨rfl, rfl⟩ := ha; exact ⟨rfl, fun _ => rfl⟩)
  case makeInterface t x =>
    split at ha
    all_goals first
      | (cases ha; done)
      | (simp only [Option.some.injEq, AOut.val.injEq] at ha; obtain ⟨rfl, rfl⟩ := ha; exact ⟨rfl, fun _ => rfl⟩)
  case typeAssert x xt asserted ok =>
    split at ha
    · cases ha
    · cases ha
    · rename_i hx
      split at ha
      · rename_i ht
        simp only [Option.some.injEq, AOut.val.injEq] at ha; obtain ⟨rfl, rfl⟩ := ha; exact ⟨rfl, fun _ => by rw [if_pos ht]⟩
      · rename_i ht
        split at ha
        · rename_i hok
          simp only [Option.bind_eq_bind, Option.bind_eq_some_iff, Option.some.injEq, AOut.val.injEq] at ha
          obtain ⟨z, hz, rfl, rfl⟩ := ha
          exact ⟨rfl, fun h2 => by rw [if_neg ht, if_pos hok]; simp [hz]⟩
        · cases ha
    · cases ha
  case binOp op t x y yt =>
    simp only [Option.bind_eq_bind, Option.bind_eq_some_iff, Option.some.injEq, AOut.val.injEq] at ha
    obtain ⟨z, hz, rfl, rfl⟩ := ha
    refine ⟨rfl, fun h2 => ?_⟩
    have : abin C op t x y h2 (ev x) (ev y) = some z := by
      rw [← hz]
      refine abin_indep ?_ ?_ <;> (rintro rfl; simp at hc)
    simp [this]
  case call c =>
    obtain ⟨callee, cargs, cts⟩ := c
    cases callee with
    | value f => simp at hc
    | invoke r m => simp at hc
    | builtin b =>
      simp only [acallOp, Option.map_eq_some_iff, AOut.val.injEq] at ha ⊢
      obtain ⟨r, hr, rfl, rfl⟩ := ha
      cases b <;> simp only at hc <;> try (cases hc; done)
      all_goals
        simp only [abuiltin] at hr ⊢
        split at hr
        · simp only [Option.map_eq_some_iff] at hr
          obtain ⟨q, hq, rfl⟩ := hr
          refine ⟨rfl, fun h2 => ⟨(q, h2), ?_, rfl, rfl⟩⟩
          simp only [hq, Option.map_some]
        · cases hr
  all_goals
    simp only [Option.bind_eq_bind, Option.bind_eq_some_iff, Option.some.injEq, AOut.val.injEq] at ha
    obtain ⟨z, hz, rfl, rfl⟩ := ha
    exact ⟨rfl, fun h2 => by simp [hz]⟩
def Sees (h h2 : AHeap) (v : AVal) : Prop := ∀ id ∈ topRefs v, h2.get id = h.get id
theorem loadA_mono {h h2 : AHeap} {ag : Bool} {n : Nat} {p v : AVal} (hs : Sees h h2 p) (hl : loadA h ag n p = some v) : loadA h2 ag n p = some v := by
  cases p <;> simp only [loadA] at hl ⊢ <;> try (first | (cases hl; done) | exact hl)
  rename_i id off
  split at hl
  · rename_i cells hg
    rw [hs id (by simp [topRefs]), hg]; exact hl
  · cases hl
theorem mapEntries_mono {h h2 : AHeap} {x : AVal} {es : List (AVal × AVal × Nat)} (hs : Sees h h2 x) (hl : mapEntries h x = some es) : mapEntries h2 x = some es := by
  cases x <;> simp only [mapEntries] at hl ⊢ <;> try (first | (cases hl; done) | exact hl)
  rename_i id
  split at hl
  · rename_i es' ck hg
    rw [hs id (by simp [topRefs]), hg]; exact hl
  · cases hl
theorem alen_mono {P : Program} {h h2 : AHeap} {t : TypeId} {x v : AVal} (hs : Sees h h2 x) (hl : alen P h t x = some v) : alen P h2 t x = some v := by
  unfold alen at hl ⊢
  simp only [Option.bind_eq_bind, Option.bind_eq_some_iff] at hl ⊢
  obtain ⟨d, hd, hl⟩ := hl
  refine ⟨d, hd, ?_⟩
  split at hl
  all_goals first
    | exact hl
    | (split at hl
       · rename_i es ck hg
         simp only [hs _ (List.mem_singleton.2 rfl), hg]; exact hl
       · cases hl)
theorem aslice_mono {P : Program} {h h2 : AHeap} {t : TypeId} {x v : AVal} {lo hi mx : Option AVal} (hs : Sees h h2 x) (hl : aslice P h t x lo hi mx = some v) : aslice P h2 t x lo hi mx = some v := by
  unfold aslice at hl ⊢
  simp only [Option.bind_eq_bind, Option.bind_eq_some_iff] at hl ⊢
  obtain ⟨d, hd, hl⟩ := hl
  refine ⟨d, hd, ?_⟩
  split at hl
  · simp only [Option.bind_eq_some_iff] at hl ⊢
    obtain ⟨j, hj, hl⟩ := hl
    refine ⟨j, hj, ?_⟩
    split at hl
    · cases hl
    rename_i hmx
    rw [if_neg hmx]
    simp only [Option.bind_eq_some_iff] at hl ⊢
    obtain ⟨a, ha, b, hb, hl⟩ := hl
    refine ⟨a, ha, b, hb, ?_⟩
    split at hl
    · rename_i hab
      rw [if_pos hab]
      split at hl
      · rename_i id off
        split at hl
        · rename_i cells hg
          simp only [hs id (List.mem_singleton.2 rfl), hg]; exact hl
        · cases hl
      · exact hl
      · cases hl
    · cases hl
  all_goals exact hl
theorem abin_mono {op : BinOp} {t : TypeId} {xo yo : Operand} {h h2 : AHeap} {x y v : AVal} (h1 : Sees h h2 x) (h3 : Sees h h2 y) (hl : abin C op t xo yo h x y = some v) : abin C op t xo yo h2 x y = some v := by
  by_cases he : op = .eql ∨ op = .neq
  · rcases he with rfl | rfl
    all_goals
      cases x <;> cases y <;> try exact hl
      simp only [abin] at hl ⊢
      split at hl
      · rename_i hg1 hg2
        simp only [h1 _ (List.mem_singleton.2 rfl), h3 _ (List.mem_singleton.2 rfl), hg1, hg2]; exact hl
      · cases hl
  · rw [← hl]
    exact abin_indep (fun e => he (.inl e)) (fun e => he (.inr e))
theorem aoper_reads {ev : Operand → AVal} {h h' : AHeap} {o : Oper} {v : AVal} {ids : List Nat} (hc : areads C ev o = some ids) (ha : aoper C ev h o = some (.val v h')) : h' = h ∧ ∀ h2, (∀ id ∈ ids, h2.get id = h.get id) → aoper C ev h2 o = some (.val v h2) := by
  by_cases h0 : opClass o = 0
  · obtain ⟨h1, h2⟩ := aoper_zero h0 ha
    exact ⟨h1, fun h3 _ => h2 h3⟩
  unfold aoper at ha ⊢
  unfold areads at hc
  unfold opClass at h0
  cases ho : o.op <;> rw [ho] at ha hc h0 <;> simp only at ha hc h0 ⊢ <;> try (cases hc; done)
  all_goals try (first | exact absurd rfl h0 | exact absurd trivial h0 | exact h0.elim)
  case binOp op t x y yt =>
    simp only [Option.bind_eq_bind, Option.bind_eq_some_iff, Option.some.injEq, AOut.val.injEq] at ha
    obtain ⟨z, hz, rfl, rfl⟩ := ha
    refine ⟨rfl, fun h2 hs => ?_⟩
    have hids : ids = topRefs (ev x) ++ topRefs (ev y) := by cases op <;> simp_all
    subst hids
    rw [abin_mono (fun id h => hs id (by simp [h])) (fun id h => hs id (by simp [h])) hz]; rfl
  case box e x =>
    split at hc
    case isFalse => cases hc
    rename_i hcb
    rw [if_pos hcb] at ha
    split at ha
    case isFalse => cases ha
    rename_i hb
    simp only [Option.some.injEq, AOut.val.injEq] at ha
    obtain ⟨rfl, rfl⟩ := ha
    exact ⟨rfl, fun h2 _ => by rw [if_pos hcb, if_pos hb]⟩
  case load t a =>
    simp only [Option.bind_eq_bind, Option.bind_eq_some_iff, Option.some.injEq, AOut.val.injEq] at ha
    obtain ⟨z, hz, rfl, rfl⟩ := ha
    simp only [Option.some.injEq] at hc; subst hc
    refine ⟨rfl, fun h2 hs => ?_⟩
    unfold aload at hz ⊢
    simp only [Option.bind_eq_bind, Option.bind_eq_some_iff] at hz
    obtain ⟨ag, hag, i, hi, hz⟩ := hz
    simp only [hag, hi, Option.bind_eq_bind, Option.bind_some, loadA_mono hs hz]
  case lookup t x k ok =>
    simp only [Option.bind_eq_bind, Option.bind_eq_some_iff, Option.some.injEq, AOut.val.injEq] at ha
    obtain ⟨z, hz, rfl, rfl⟩ := ha
    simp only [Option.some.injEq] at hc; subst hc
    refine ⟨rfl, fun h2 hs => ?_⟩
    have : alookup C.P h2 t (ev x) (ev k) ok = some z := by
      unfold alookup at hz ⊢
      simp only [Option.bind_eq_bind, Option.bind_eq_some_iff] at hz ⊢
      obtain ⟨d, hd, hz⟩ := hz
      refine ⟨d, hd, ?_⟩
      split at hz
      · simp only [Option.bind_eq_some_iff] at hz ⊢
        obtain ⟨kd, hkd, hz⟩ := hz
        refine ⟨kd, hkd, ?_⟩
        split at hz
        · rename_i hpk
          rw [if_pos hpk]
          simp only [Option.bind_eq_some_iff] at hz ⊢
          obtain ⟨es, hes, hz⟩ := hz
          exact ⟨es, mapEntries_mono hs hes, hz⟩
        · cases hz
      · cases hz
    simp [this]
  case slice t x lo hi mx =>
    simp only [Option.bind_eq_bind, Option.bind_eq_some_iff, Option.some.injEq, AOut.val.injEq] at ha
    obtain ⟨z, hz, rfl, rfl⟩ := ha
    simp only [Option.some.injEq] at hc; subst hc
    refine ⟨rfl, fun h2 hs => ?_⟩
    rw [aslice_mono hs hz]; rfl
  case call c =>
    obtain ⟨callee, cargs, cts⟩ := c
    cases callee with
    | value f => simp at hc
    | invoke r m => simp at hc
    | builtin b =>
      simp only [acallOp, Option.map_eq_some_iff, AOut.val.injEq] at ha ⊢
      obtain ⟨r, hr, rfl, rfl⟩ := ha
      cases b <;> simp only at hc h0 <;> try (cases hc; done)
      all_goals try (first | exact absurd rfl h0 | exact absurd trivial h0 | exact h0.elim)
      case len =>
        simp only [abuiltin] at hr ⊢
        split at hr
        · rename_i h4 h5
          simp only [Option.map_eq_some_iff] at hr
          obtain ⟨q, hq, rfl⟩ := hr
          simp only [Option.some.injEq] at hc; subst hc
          refine ⟨rfl, fun h2 hs => ⟨(q, h2), ?_, rfl, rfl⟩⟩
          have hx := congrArg (fun l => l[0]?) h5
          simp only [List.getElem?_map, List.getElem?_cons_zero, Option.map_eq_some_iff] at hx
          obtain ⟨xo, h6, h7⟩ := hx
          replace h6 : xo ∈ cargs.toList := List.mem_of_getElem? h6
          have := alen_mono (h2 := h2) (by rw [← h7]; exact fun id hid => hs id (List.mem_flatMap.2 ⟨xo, h6, hid⟩)) hq
          simp only [this, Option.map_some]
        · cases hr
      case cap =>
        simp only [abuiltin] at hr ⊢
        split at hr
        · simp only [Option.map_eq_some_iff] at hr
          obtain ⟨q, hq, rfl⟩ := hr
          exact ⟨rfl, fun h2 _ => ⟨(q, h2), by simp only [hq, Option.map_some], rfl, rfl⟩⟩
        · cases hr
theorem aoper_calls {ev : Operand → AVal} {h : AHeap} {o : Oper} {f : FuncId} {args : List AVal} (ha : aoper C ev h o = some (.call f args)) : ∀ h2, aoper C ev h2 o = some (.call f args) := by
  intro h2
  obtain ⟨c, ho⟩ := oper_only.1 _ _ ha
  unfold aoper at ha ⊢
  rw [ho] at ha ⊢
  simp only [acallOp] at ha ⊢
  split at ha
  · simp at ha
  · exact ha
  · cases ha
end
def Closed (ops : List Oper) (D : Nat → Bool) : Prop := ∀ j o, ops[j]? = some o → D j = true → ∀ e ∈ edgesOf o, D e = true
theorem ancs_ok {D : Nat → Bool} : ∀ (l pre : List Oper) (acc : List (List Nat)), Closed (pre ++ l) D → acc.length = pre.length → (∀ j, ∀ i ∈ acc.getD j [], D j = true → D i = true) →
    ∀ j, ∀ i ∈ (l.foldl (fun acc o => acc ++ [(edgesOf o ++ (edgesOf o).flatMap fun e => acc.getD e []).eraseDups]) acc).getD j [], D j = true → D i = true := by
  intro l
  induction l with
  | nil => intro pre acc _ _ h; exact h
  | cons o l ih =>
    intro pre acc hcl hlen h
    simp only [List.foldl_cons]
    refine ih (pre ++ [o]) _ (by simpa using hcl) (by simp [hlen]) (fun j i hi hj => ?_)
    rcases Nat.lt_trichotomy j acc.length with h1 | h1 | h1
    · rw [List.getD_eq_getElem?_getD, List.getElem?_append_left h1, ← List.getD_eq_getElem?_getD] at hi
      exact h j i hi hj
    · subst h1
      rw [List.getD_eq_getElem?_getD, List.getElem?_append_right (Nat.le_refl _)] at hi
      simp only [Nat.sub_self, List.getElem?_cons_zero, Option.getD_some, List.mem_eraseDups, List.mem_append, List.mem_flatMap] at hi
      have ho : (pre ++ o :: l)[acc.length]? = some o := by rw [hlen]; simp
      rcases hi with hi | ⟨e, he, hi⟩
      · exact hcl _ o ho hj i hi
      · exact h e i hi (hcl _ o ho hj e he)
    · rw [List.getD_eq_getElem?_getD, List.getElem?_eq_none (by simp; omega)] at hi
      simp at hi
theorem anc_closed {ops : List Oper} {D : Nat → Bool} (hcl : Closed ops D) {i j : Nat} (hi : i ∈ (ancs ops).getD j []) (hj : D j = true) : D i = true :=
  ancs_ok ops [] [] (by simpa using hcl) rfl (fun j i hi => by simp at hi) j i hi hj
theorem mem_edges {o : Oper} {e : Edge} (he : e ∈ o.after) (hb : Region.binds .any e = true) : e.on ∈ edgesOf o := by
  unfold edgesOf
  simp only [List.mem_map, List.mem_filter, Array.mem_toList_iff]
  exact ⟨e, ⟨he, hb⟩, rfl⟩
theorem edges_mem {o : Oper} {i : Nat} (hi : i ∈ edgesOf o) : ∃ e ∈ o.after, Region.binds .any e = true ∧ e.on = i := by
  unfold edgesOf at hi
  simp only [List.mem_map, List.mem_filter, Array.mem_toList_iff] at hi
  obtain ⟨e, ⟨h1, h2⟩, h3⟩ := hi
  exact ⟨e, h1, h2, h3⟩
def CallPure (C : Cfg) (call : CallF) : Prop :=
  ∀ f args h r h', apure C f args = true → call f args h = some (r, h') → h' = h ∧ ∀ h2, call f args h2 = some (r, h2)
theorem run_pure {C : Cfg} : ∀ n, CallPure C (arun C n) := by
  intro n f args h r h' hp hc
  cases n with
  | zero => simp [arun] at hc
  | succ n =>
    simp only [arun] at hc ⊢
    split at hc
    · rename_i s hs
      split at hc
      · rename_i as has
        simp only [Option.map_eq_some_iff, Prod.mk.injEq] at hc
        obtain ⟨v, hv, rfl, rfl⟩ := hc
        exact ⟨rfl, fun h2 => by simp [hs, has, hv]⟩
      · cases hc
    · rename_i hs
      simp only [apure, hs, Option.isSome_none, Bool.false_or, Bool.and_eq_true] at hp
      obtain ⟨⟨hfoc, href⟩, hbody⟩ := hp
      split at hc
      · cases hc
      · rename_i fn hfn
        simp only [hfn, Option.bind_some] at hbody
        split at hc
        · rename_i hbn; rw [hbn] at hbody; cases hbody
        · rename_i body hbn
          rw [if_pos hfoc] at hc
          have hrl : refsL args = [] := by simpa using href
          simp only [hrl, List.eraseDups_nil] at hc
          split at hc
          · rename_i as h0 has hfo
            simp only [focus, putAll, List.foldlM_nil, Option.pure_def, Option.some.injEq] at hfo
            split at hc
            · rename_i r1 h1 hb
              unfold home at hc
              cases hnr : normRes (fun i => ([] : List Nat).contains i) h1 depth r1 with
              | none => rw [hnr] at hc; cases hc
              | some r2 =>
              rw [hnr] at hc
              simp only [putAll, List.foldlM_nil, Option.pure_def, Option.some.injEq, Prod.mk.injEq] at hc
              obtain ⟨rfl, rfl⟩ := hc
              refine ⟨rfl, fun h2 => ?_⟩
              simp only [hs, hfn, hbn, if_pos hfoc, hrl, List.eraseDups_nil, has]
              have hf2 : focus [] depth h2 = some h0 := by simp only [focus, putAll, List.foldlM_nil, Option.pure_def, hfo]
              rw [hf2]
              simp only [hb]
              unfold home
              rw [hnr]
              simp only [putAll, List.foldlM_nil, Option.pure_def]
            · cases hc
          · cases hc
theorem awanted_congr {ops : Array Oper} {tmps tmps' : List AVal} {o : Oper} (h : ∀ t ∈ looks ops o, tmps[t]? = tmps'[t]?) : awanted ops tmps o = awanted ops tmps' o := by
  unfold awanted
  cases hg : o.guard with
  | none => rfl
  | some p =>
    obtain ⟨j, want⟩ := p
    simp only
    cases hd : (ops[j]?).bind (·.dst) with
    | none => rfl
    | some t =>
      simp only [Option.bind_some]
      rw [h t (by unfold looks; rw [hg]; simp [hd])]
theorem eval_congr {C : Cfg} {ops : Array Oper} {tmps tmps' : List AVal} {o : Oper} (h : ∀ t ∈ looks ops o, tmps[t]? = tmps'[t]?) : ∀ x ∈ o.op.operands, evalO C tmps x = evalO C tmps' x := by
  intro x hx
  cases x with
  | tmp t =>
    simp only [evalO]
    rw [h t (by unfold looks; rw [List.mem_append]; exact .inl (List.mem_flatMap.2 ⟨_, Array.mem_toList_iff.2 hx, by simp [tmpOf]⟩))]
  | _ => rfl
theorem pairs_get {ops : Array Oper} {an : List (List Nat)} {cs : List Did} (h : pairsOk ops an cs = true) {i j : Nat} (hij : i < j) {x y : Oper} (hx : ops[i]? = some x) (hy : ops[j]? = some y) {a b : Did} (ha : cs[i]? = some a) (hb : cs[j]? = some b) :
    i ∈ an.getD j [] ∨ (free2 ops x y = true ∧ memOk a b = true) := by
  unfold pairsOk at h
  rw [List.all_eq_true] at h
  have hj : j < cs.length := (List.getElem?_eq_some_iff.1 hb).1
  have h1 := h j (List.mem_range.2 hj)
  rw [List.all_eq_true] at h1
  have h2 := h1 i (List.mem_range.2 hij)
  rw [Bool.or_eq_true] at h2
  rcases h2 with h2 | h2
  · left; simpa using h2
  · right; rw [hx, hy, ha, hb] at h2; simpa using h2
theorem free2_spec {ops : Array Oper} {x y : Oper} (h : free2 ops x y = true) :
    (∀ t ∈ writes x, t ∉ looks ops y ∧ t ∉ writes y) ∧ (∀ t ∈ writes y, t ∉ looks ops x) := by
  unfold free2 at h
  simp only [Bool.and_eq_true, List.all_eq_true, Bool.not_eq_true'] at h
  obtain ⟨h1, h2⟩ := h
  refine ⟨fun t ht => ?_, fun t ht => ?_⟩
  · obtain ⟨h4, h5⟩ := h1 t ht
    exact ⟨by simpa using h4, by simpa using h5⟩
  · simpa using h2 t ht
theorem countP_lt {p q : Nat → Bool} : ∀ {l : List Nat} {i : Nat}, (∀ j, p j = true → q j = true) → i ∈ l → q i = true → p i = false → l.countP p < l.countP q := by
  intro l i h
  induction l with
  | nil => intro hi; cases hi
  | cons x l ih =>
    intro hi hq hp
    have hle : l.countP p ≤ l.countP q := List.countP_mono_left fun x _ => h x
    rcases List.mem_cons.1 hi with rfl | hi
    · rw [List.countP_cons_of_neg (by simp [hp]), List.countP_cons_of_pos hq]; omega
    · have := ih hi hq hp
      rw [List.countP_cons, List.countP_cons]
      cases hpx : p x with
      | true => simp [h x hpx]; exact this
      | false =>
        rw [if_neg (by simp)]
        omega
theorem TD_quiet {V : Nat → AVal} {D : Nat → Bool} {t : Nat} (l : List Oper) (k : Nat) (acc : List AVal) (h : ∀ j o, l[j]? = some o → t ∈ writes o → D (k + j) = false) : (TD V D l k acc)[t]? = acc[t]? := by
  rw [TD_get (D' := fun _ => false) l k acc acc rfl rfl h, TD_none _ _ _ (fun _ _ => rfl)]
theorem TD_last {V : Nat → AVal} {D : Nat → Bool} {t : Nat} : ∀ (l : List Oper) (k : Nat) (acc : List AVal) (i : Nat) (o : Oper), l[i]? = some o → D (k + i) = true → o.dst = some t →
    (∀ j o', i < j → l[j]? = some o' → t ∈ writes o' → D (k + j) = false) → (TD V D l k acc)[t]? = if t < acc.length then some (V (k + i)) else none := by
  intro l
  induction l with
  | nil => intro k acc i o h; simp at h
  | cons x l ih =>
    intro k acc i o h hd ht hq
    simp only [TD]
    cases i with
    | zero =>
      simp only [List.getElem?_cons_zero, Option.some.injEq] at h; subst h
      rw [Nat.add_zero] at hd
      rw [if_pos hd, TD_quiet l (k + 1) _ (fun j o' ho' hto => by
        have := hq (j + 1) o' (by omega) (by simpa using ho') hto
        rw [show k + 1 + j = k + (j + 1) from by omega]; exact this), put_get, if_pos ht]
      simp
    | succ i =>
      simp only [List.getElem?_cons_succ] at h
      rw [ih (k + 1) _ i o h (by rw [show k + 1 + i = k + (i + 1) from by omega]; exact hd) ht (fun j o' hij ho' hto => by
        have := hq (j + 1) o' (by omega) (by simpa using ho') hto
        rw [show k + 1 + j = k + (j + 1) from by omega]; exact this), show k + 1 + i = k + (i + 1) from by omega]
      split
      · rw [put_length]
      · rfl
theorem HD_last {c : Nat → Option (List Nat)} {S : Nat → ASt} {D : Nat → Bool} : ∀ (n k : Nat) (acc : AHeap) (i : Nat), k ≤ i → i < k + n → D i = true → c i = none → (∀ j, i < j → j < k + n → c j = none → D j = false) → HD c S D n k acc = (S (i + 1)).h := by
  intro n
  induction n with
  | zero => intro k acc i h1 h2; omega
  | succ n ih =>
    intro k acc i h1 h2 hd hc hq
    simp only [HD]
    by_cases hk : k = i
    · subst hk
      simp only [hd, hc, Option.isNone_none, Bool.and_self, if_true]
      rw [HD_congr (D' := fun _ => false) n (k + 1) _ (fun j h3 h4 h5 => hq j (by omega) (by omega) h5), HD_none _ _ _ (fun _ _ => rfl)]
    · exact ih (k + 1) _ i (by omega) (by omega) hd hc (fun j h3 h4 h5 => hq j h3 (by omega) h5)
theorem TD_eq {V : Nat → AVal} {D D' : Nat → Bool} (l : List Oper) (k : Nat) (acc : List AVal) (h : ∀ j, j < l.length → D (k + j) = D' (k + j)) : TD V D l k acc = TD V D' l k acc := by
  refine List.ext_getElem? fun t => TD_get l k acc acc rfl rfl fun j o ho _ => h j ?_
  exact (List.getElem?_eq_some_iff.1 ho).1
theorem draw_sound {C : Cfg} {call : CallF} (hcall : CallOk C call) (hpure : CallPure C call) (hmix : C.P.follows .mixedOrders = true) : DrawOk C call := by
  intro ds ops s x s' hd B g a I hG ht hda id
  unfold adraw at hd
  cases hgo : drawGo C call ops ops.toList s with
  | none => rw [hgo] at hd; cases hd
  | some q =>
  obtain ⟨cs, s1⟩ := q
  rw [hgo] at hd
  simp only at hd
  split at hd
  case isFalse => cases hd
  rename_i hok
  simp only [Option.some.injEq, Prod.mk.injEq] at hd
  obtain ⟨rfl, rfl⟩ := hd
  simp only [Bool.and_eq_true] at hok
  obtain ⟨hpairs, hback⟩ := hok
  obtain ⟨S, V, c, hS0, hSn, hcl, hst⟩ := drawGo_trace _ _ _ _ hgo
  have hn : ops.toList.length = ops.size := by simp
  rw [hn] at hSn hcl
  have hst' : ∀ i o, ops.toList[i]? = some o → Stp C call ops o (c i) (V i) (S i) (S (i + 1)) := fun i o h => (hst i o h).2
  have hget : ∀ i o, ops[i]? = some o → ops.toList[i]? = some o := fun i o h => by rw [Array.getElem?_toList]; exact h
  have hcs : ∀ i o, ops[i]? = some o → cs[i]? = some (⟨c i, (S i).h, (S (i + 1)).h⟩ : Did) := fun i o h => (hst i o (hget i o h)).1
  have hkeep : ∀ i, i < ops.size → c i ≠ none → (S (i + 1)).h = (S i).h := by
    intro i hi hc
    obtain ⟨o, ho⟩ : ∃ o, ops[i]? = some o := ⟨ops[i], by simp [hi]⟩
    rcases (hst' i o (hget i o ho)).2 with ⟨_, _, h1, _⟩ | ⟨_, ⟨h1, h2⟩ | ⟨f, args, h1, h2, h3⟩⟩
    · exact h1
    · cases hci : c i with
      | none => exact absurd hci hc
      | some ids => exact (aoper_reads (by rw [← h2, hci]) h1).1
    · split at h3
      · rename_i hp; exact (hpure f args _ _ _ hp h2).1
      · exact absurd h3 hc
  have hgap : ∀ id b a, a ≤ b → b ≤ ops.size → (∀ k, a ≤ k → k < b → c k = none → (S (k + 1)).h.get id = (S k).h.get id) → (S b).h.get id = (S a).h.get id := by
    intro id b
    induction b with
    | zero => intro a h1 _ _; have : a = 0 := by omega
              subst this; rfl
    | succ b ih =>
      intro a h1 h2 h3
      rcases Nat.lt_or_ge b a with h4 | h4
      · have : a = b + 1 := by omega
        subst this; rfl
      · have h5 := ih a h4 (by omega) (fun k hk hk2 => h3 k hk (by omega))
        cases hc : c b with
        | none => rw [h3 b h4 (by omega) hc, h5]
        | some ids => rw [hkeep b (by omega) (by rw [hc]; simp), h5]
  let Dn : Array Bool → Nat → Bool := fun listed j => listed.getD j false
  let T : Array Bool → List AVal := fun listed => TD V (Dn listed) ops.toList 0 s.tmps
  let Hh : Array Bool → AHeap := fun listed => HD c S (Dn listed) ops.size 0 s.h
  have main : ∀ (fuel : Nat) (listed : Array Bool) (a : Act) (g1 : G), listed.size = ops.size → ((List.range ops.size).filter fun j => !Dn listed j).length ≤ fuel → Closed ops.toList (Dn listed) →
      Inv B (Hh listed) g1 → GlobOk C B g1 → Ext s.h g (Hh listed) g1 → VsRel g1.ι g1.μ (T listed) a.tmps.toList → a.defers = ds →
      wpAny C.P .any ops (PostOk ds B s g .normal s1) fuel listed a g1.w := by
    have hopl : ∀ j, j < ops.size → ∃ o, ops[j]? = some o := fun j hj => ⟨ops[j], by simp [hj]⟩
    have hlt : ∀ {j o}, ops[j]? = some o → j < ops.size := fun h => (Array.getElem?_eq_some_iff.1 h).1
    have htl : ∀ {j o}, ops.toList[j]? = some o → ops[j]? = some o := fun h => by rw [Array.getElem?_toList] at h; exact h
    have hdone : ∀ (listed : Array Bool), listed.size = ops.size → Region.ready .any ops listed = [] → ∀ j, j < ops.size → Dn listed j = true := by
      intro listed hsz hr j
      induction j using Nat.strongRecOn with
      | _ j ihj =>
        intro hj
        cases hd : Dn listed j with
        | true => rfl
        | false =>
          exfalso
          obtain ⟨o, ho⟩ := hopl j hj
          have hmem : j ∈ Region.ready .any ops listed := by
            refine mem_ready.2 ⟨?_, o, ho, fun e he hb => ?_⟩
            · have : listed.getD j false = false := hd
              rw [Array.getD_eq_getD_getElem?] at this ⊢
              rw [Array.getElem?_eq_getElem (by omega)] at this ⊢
              exact this
            · have hlt2 : e.on < j := by
                unfold backOk at hback
                rw [List.all_eq_true] at hback
                have := hback j (List.mem_range.2 hj)
                rw [ho] at this
                simp only [List.all_eq_true, decide_eq_true_eq] at this
                exact this _ (mem_edges he hb)
              exact ihj _ hlt2 (by omega)
          rw [hr] at hmem
          cases hmem
    have hend : ∀ (listed : Array Bool) (a : Act) (g1 : G), listed.size = ops.size → Region.ready .any ops listed = [] → Inv B (Hh listed) g1 → Ext s.h g (Hh listed) g1 → VsRel g1.ι g1.μ (T listed) a.tmps.toList → a.defers = ds → PostOk ds B s g .normal s1 .normal a g1.w := by
      intro listed a g1 hsz hr I E ht hda
      have hall := hdone listed hsz hr
      have h1 : T listed = s1.tmps := by
        have := TD_text hst' ops.toList 0 ops.size (fun j => by rw [Nat.zero_add]) (Nat.zero_le _) (by simp)
        rw [hS0, hSn] at this
        rw [← this]
        exact TD_eq _ _ _ (fun j hj => by rw [Nat.zero_add]; rw [hn] at hj; rw [hall j hj]; simp [hj])
      have h2 : Hh listed = s1.h := by
        have := HD_text (c := c) hkeep ops.size 0 ops.size (Nat.zero_add _) (Nat.zero_le _) (Nat.le_refl _)
        rw [hS0, hSn] at this
        rw [← this]
        exact HD_congr _ _ _ (fun j _ hj _ => by rw [Nat.zero_add] at hj; rw [hall j hj]; simp [hj])
      rw [h1] at ht; rw [h2] at I E
      exact ⟨g1.ι, g1.μ, I, E, ht, hda, rfl⟩
    intro fuel
    induction fuel with
    | zero =>
      intro listed a g1 hsz hcnt hclo I _ E ht hda
      have hr : Region.ready .any ops listed = [] := by
        cases hr : Region.ready .any ops listed with
        | nil => rfl
        | cons j js =>
          exfalso
          have hj : j ∈ Region.ready .any ops listed := by rw [hr]; exact List.mem_cons_self
          obtain ⟨h1, o, ho, _⟩ := mem_ready.1 hj
          have hjl := hlt ho
          have hd : Dn listed j = false := by
            show listed.getD j false = false
            rw [Array.getD_eq_getD_getElem?] at h1 ⊢
            rw [Array.getElem?_eq_getElem (by omega)] at h1 ⊢
            exact h1
          have : j ∈ (List.range ops.size).filter fun j => !Dn listed j := by
            rw [List.mem_filter]; exact ⟨List.mem_range.2 hjl, by simp [hd]⟩
          have := List.length_pos_of_mem this
          omega
      exact ⟨hr, hend listed a g1 hsz hr I E ht hda⟩
    | succ fuel ih =>
      intro listed a g1 hsz hcnt hclo I hG1 E ht hda
      refine ⟨fun hr => hend listed a g1 hsz hr I E ht hda, fun i hi => ?_⟩
      obtain ⟨h1, o, ho, hafter⟩ := mem_ready.1 hi
      have hil := hlt ho
      have hdi : Dn listed i = false := by
        show listed.getD i false = false
        rw [Array.getD_eq_getD_getElem?] at h1 ⊢
        rw [Array.getElem?_eq_getElem (by omega)] at h1 ⊢
        exact h1
      have hnew : ∀ j, Dn (listed.setIfInBounds i true) j = (Dn listed j || (j == i)) := by
        intro j
        by_cases hij : i = j
        · subst hij
          show (listed.setIfInBounds i true).getD i false = _
          rw [Array.getD_eq_getD_getElem?, Array.getElem?_setIfInBounds_self_of_lt (by omega)]
          simp
        · show (listed.setIfInBounds i true).getD j false = _
          rw [getD_set_ne _ hij]
          have : (j == i) = false := by simpa using fun e => hij e.symm
          rw [this, Bool.or_false]
      have hclo' : Closed ops.toList (Dn (listed.setIfInBounds i true)) := by
        intro j oj hoj hdj e he
        rw [hnew] at hdj ⊢
        rw [Bool.or_eq_true] at hdj ⊢
        rcases hdj with hdj | hdj
        · exact .inl (hclo j oj hoj hdj e he)
        · have : j = i := by simpa using hdj
          subst this
          have : oj = o := by have := htl hoj; rw [ho] at this; exact (Option.some.inj this).symm
          subst this
          obtain ⟨e', h2, h3, h4⟩ := edges_mem he
          left; rw [← h4]; exact hafter e' h2 h3
      have hord : ∀ j oj, ops[j]? = some oj → j ≠ i → Dn listed j = decide (j < i) ∨
          (j < i ∧ free2 ops oj o = true ∧ memOk ⟨c j, (S j).h, (S (j + 1)).h⟩ ⟨c i, (S i).h, (S (i + 1)).h⟩ = true) ∨
          (i < j ∧ free2 ops o oj = true ∧ memOk ⟨c i, (S i).h, (S (i + 1)).h⟩ ⟨c j, (S j).h, (S (j + 1)).h⟩ = true) := by
        intro j oj hoj hji
        rcases Nat.lt_or_gt_of_ne hji with h2 | h2
        · rcases pairs_get hpairs h2 hoj ho (hcs j oj hoj) (hcs i o ho) with h3 | h3
          · left
            have := anc_closed hclo' h3 (by rw [hnew]; simp)
            rw [hnew] at this
            have h4 : (j == i) = false := by simpa using hji
            rw [h4, Bool.or_false] at this
            rw [this]; simp [h2]
          · exact .inr (.inl ⟨h2, h3⟩)
        · rcases pairs_get hpairs h2 ho hoj (hcs i o ho) (hcs j oj hoj) with h3 | h3
          · left
            cases h4 : Dn listed j with
            | false => symm; simp; omega
            | true => have := anc_closed hclo h3 h4; rw [hdi] at this; cases this
          · exact .inr (.inr ⟨h2, h3⟩)
      have hsee : ∀ t ∈ looks ops o, (T listed)[t]? = (S i).tmps[t]? := by
        intro t hto
        have := TD_text hst' ops.toList 0 i (fun j => by rw [Nat.zero_add]) (Nat.zero_le _) (by simp; omega)
        rw [hS0] at this
        rw [← this]
        refine TD_get _ _ _ _ rfl rfl fun j oj hoj htw => ?_
        rw [Nat.zero_add]
        by_cases hji : j = i
        · subst hji; rw [hdi]; simp
        · rcases hord j oj (htl hoj) hji with h2 | ⟨_, h2⟩ | ⟨_, h2⟩
          · exact h2
          · exact absurd hto ((free2_spec h2.1).1 t htw).1
          · exact absurd hto ((free2_spec h2.1).2 t htw)
      have hmem : c i = none → Hh listed = (S i).h := by
        intro hc
        have := HD_text (c := c) hkeep ops.size 0 i (Nat.zero_add _) (Nat.zero_le _) (Nat.le_of_lt hil)
        rw [hS0] at this
        rw [← this]
        refine HD_congr _ _ _ fun j _ hj hcj => ?_
        rw [Nat.zero_add] at hj
        obtain ⟨oj, hoj⟩ := hopl j hj
        by_cases hji : j = i
        · subst hji; rw [hdi]; simp
        · rcases hord j oj hoj hji with h2 | ⟨_, _, h2⟩ | ⟨_, _, h2⟩
          · exact h2
          · simp [memOk, hc, hcj] at h2
          · simp [memOk, hc, hcj] at h2
      have hcut : ∃ p, p ≤ ops.size ∧ (∀ j, j < p → c j = none → Dn listed j = true) ∧ ∀ j, p ≤ j → j < ops.size → c j = none → Dn listed j = false := by
        have : ∀ q, q ≤ ops.size → (∀ j, j < q → c j = none → Dn listed j = true) ∨ ∃ p, p < q ∧ (∀ j, j < p → c j = none → Dn listed j = true) ∧ c p = none ∧ Dn listed p = false := by
          intro q
          induction q with
          | zero => intro _; exact .inl fun j hj => by omega
          | succ q ihq =>
            intro hq
            rcases ihq (by omega) with h2 | ⟨p, h2, h3⟩
            · by_cases hc : c q = none ∧ Dn listed q = false
              · exact .inr ⟨q, by omega, h2, hc⟩
              · refine .inl fun j hj hcj => ?_
                rcases Nat.lt_or_ge j q with h4 | h4
                · exact h2 j h4 hcj
                · have : j = q := by omega
                  subst this
                  cases hd : Dn listed j with
                  | true => rfl
                  | false => exact absurd ⟨hcj, hd⟩ hc
            · exact .inr ⟨p, by omega, h3⟩
        rcases this ops.size (Nat.le_refl _) with h2 | ⟨p, h2, h3, h4, h5⟩
        · exact ⟨ops.size, Nat.le_refl _, h2, fun j h3 h4 => by omega⟩
        · refine ⟨p, by omega, h3, fun j h6 h7 hcj => ?_⟩
          rcases Nat.eq_or_lt_of_le h6 with rfl | h8
          · exact h5
          · obtain ⟨op, hop⟩ := hopl p (by omega)
            obtain ⟨oj, hoj⟩ := hopl j h7
            rcases pairs_get hpairs h8 hop hoj (hcs p op hop) (hcs j oj hoj) with h9 | ⟨_, h9⟩
            · cases hd : Dn listed j with
              | false => rfl
              | true => have := anc_closed hclo h9 hd; rw [h5] at this; cases this
            · simp [memOk, h4, hcj] at h9
      have hrd : ∀ ids, c i = some ids → ∀ id ∈ ids, (Hh listed).get id = (S i).h.get id := by
        intro ids hci id hid
        obtain ⟨p, hp1, hp2, hp3⟩ := hcut
        have hHp : Hh listed = (S p).h := by
          have := HD_text (c := c) hkeep ops.size 0 p (Nat.zero_add _) (Nat.zero_le _) hp1
          rw [hS0] at this
          rw [← this]
          refine HD_congr _ _ _ fun j _ hj hcj => ?_
          rcases Nat.lt_or_ge j p with h2 | h2
          · rw [hp2 j h2 hcj]; simp [h2]
          · rw [hp3 j h2 (by omega) hcj]; simp; omega
        have hacts : ∀ j, j < ops.size → c j = none → Dn listed j = decide (j < i) ∨ (S (j + 1)).h.get id = (S j).h.get id := by
          intro j hj hcj
          obtain ⟨oj, hoj⟩ := hopl j hj
          rcases hord j oj hoj (by intro e; subst e; rw [hci] at hcj; cases hcj) with h2 | ⟨_, _, h2⟩ | ⟨_, _, h2⟩
          · exact .inl h2
          · simp only [memOk, hcj, hci, List.all_eq_true] at h2
            exact .inr (sameBlk_ok (h2 id hid))
          · simp only [memOk, hcj, hci, List.all_eq_true] at h2
            exact .inr (sameBlk_ok (h2 id hid))
        rw [hHp]
        rcases Nat.le_total p i with hpi | hpi
        · refine (hgap id i p hpi (by omega) (fun k hk1 hk2 hck => ?_)).symm
          have h4 := hp3 k hk1 (by omega) hck
          rcases hacts k (by omega) hck with h5 | h5
          · rw [h5] at h4; simp at h4; omega
          · exact h5
        · refine hgap id p i hpi hp1 (fun k hk1 hk2 hck => ?_)
          have h4 := hp2 k hk2 hck
          rcases hacts k (by omega) hck with h5 | h5
          · rw [h5] at h4; simp at h4; omega
          · exact h5
      have hT : T (listed.setIfInBounds i true) = put (T listed) o.dst (V i) := by
        refine List.ext_getElem? fun t => ?_
        rw [put_get]
        by_cases hdt : o.dst = some t
        · rw [if_pos hdt]
          rw [show (T (listed.setIfInBounds i true))[t]? = _ from TD_last ops.toList 0 s.tmps i o (hget i o ho) (by rw [Nat.zero_add, hnew]; simp) hdt (fun j oj hij hoj htw => by
            rw [Nat.zero_add, hnew]
            have h4 : (j == i) = false := by simp; omega
            rw [h4, Bool.or_false]
            rcases hord j oj (htl hoj) (by omega) with h2 | ⟨_, h2⟩ | ⟨_, h2⟩
            · rw [h2]; simp; omega
            · omega
            · exact absurd htw ((free2_spec h2.1).1 t (mem_writes.2 hdt)).2)]
          rw [Nat.zero_add, show (T listed).length = s.tmps.length from TD_length _ _ _ _ _]
        · rw [if_neg hdt]
          refine TD_get _ _ _ _ rfl rfl fun j oj hoj htw => ?_
          rw [Nat.zero_add, hnew]
          have h4 : (j == i) = false := by
            simp only [beq_eq_false_iff_ne]
            intro e; subst e
            have := htl hoj; rw [ho] at this
            cases this
            exact hdt (mem_writes.1 htw)
          rw [h4, Bool.or_false]
      have hH2 : c i ≠ none → Hh (listed.setIfInBounds i true) = Hh listed := by
        intro hc
        refine HD_congr _ _ _ fun j _ _ hcj => ?_
        rw [hnew]
        have h4 : (j == i) = false := by simp only [beq_eq_false_iff_ne]; intro e; subst e; exact hc hcj
        rw [h4, Bool.or_false]
      have hH1 : c i = none → Hh (listed.setIfInBounds i true) = (S (i + 1)).h := by
        intro hc
        refine HD_last ops.size 0 s.h i (Nat.zero_le _) (by omega) (by rw [hnew]; simp) hc fun j hij hj hcj => ?_
        rw [hnew]
        have h4 : (j == i) = false := by simp; omega
        rw [h4, Bool.or_false]
        obtain ⟨oj, hoj⟩ := hopl j (by omega)
        rcases hord j oj hoj (by omega) with h2 | ⟨_, h2⟩ | ⟨_, _, h2⟩
        · rw [h2]; simp; omega
        · omega
        · simp [memOk, hc, hcj] at h2
      have hcnt' : ((List.range ops.size).filter fun j => !Dn (listed.setIfInBounds i true) j).length ≤ fuel := by
        have h2 : ((List.range ops.size).filter fun j => !Dn (listed.setIfInBounds i true) j).length < ((List.range ops.size).filter fun j => !Dn listed j).length := by
          rw [← List.countP_eq_length_filter, ← List.countP_eq_length_filter]
          refine countP_lt (fun j hj => ?_) (List.mem_range.2 hil) (by simp [hdi]) (by rw [hnew]; simp)
          rw [hnew] at hj
          revert hj
          cases Dn listed j <;> simp
        omega
      have hstp := (hst' i o (hget i o ho)).2
      unfold wpOp
      rw [ho]
      simp only
      have hgo2 : ∀ (b : Bool), awanted ops (S i).tmps o = some b → Region.wanted o (yielded ops a.tmps) = b := fun b hb => wanted_ok ht (by rw [awanted_congr hsee]; exact hb)
      have hnext : ∀ (g' : G) (v' : Value) (h2 : AHeap), h2 = Hh (listed.setIfInBounds i true) → Inv B h2 g' → Ext (Hh listed) g1 h2 g' → VRel g'.ι g'.μ (V i) v' → wpAny C.P .any ops (PostOk ds B s g .normal s1) fuel (listed.setIfInBounds i true) (a.put o.dst v') g'.w := by
        intro g' v' h2 hh I' E' hv
        subst hh
        refine ih _ _ g' (by simpa using hsz) hcnt' hclo' I' (hG1.ext I E') (E.trans E') ?_ (by rw [put_defers]; exact hda)
        rw [hT]
        exact put_rel (ht.mono E'.le) o.dst hv
      rcases hstp with ⟨hw, hv, hh, hc⟩ | ⟨hw, hor⟩
      · rw [hgo2 _ hw, if_neg (by simp)]
        exact hnext g1 undef (Hh listed) (hH2 (by rw [hc]; simp)).symm I (Ext.refl _ _) (by rw [hv]; exact .tup .nil)
      · rw [hgo2 _ hw, if_pos rfl]
        refine .inl ?_
        have hop : aoper C (evalO C (T listed)) (Hh listed) o = aoper C (evalO C (S i).tmps) (Hh listed) o := aoper_congr (eval_congr hsee)
        rcases hor with ⟨hv, hc⟩ | ⟨f, args, hf, hcl2, hc⟩
        · have key : aoper C (evalO C (S i).tmps) (Hh listed) o = some (.val (V i) (Hh (listed.setIfInBounds i true))) := by
            cases hci : c i with
            | none => rw [hmem hci, hH1 hci]; exact hv
            | some ids =>
              rw [hH2 (by rw [hci]; simp)]
              exact (aoper_reads (by rw [← hc, hci]) hv).2 _ (hrd ids hci)
          refine oper_step (s := { tmps := T listed, h := Hh listed }) hcall I hG1 ht hda (fun v h' hor2 g' v' I' E' hvr => ?_) (fun v h' hor2 g' v' I' E' hvr => ?_) (.inl ⟨_, _, by rw [hop]; exact key⟩)
          · rcases hor2 with h3 | ⟨f, args, h3, _⟩
            · rw [hop, key] at h3; cases h3; exact hnext g' v' _ rfl I' E' hvr
            · rw [hop, key] at h3; cases h3
          · rcases hor2 with ⟨h3, _⟩ | ⟨f, args, h3, _⟩
            · rw [hop, key] at h3; cases h3
            · rw [hop, key] at h3; cases h3
        · have key := aoper_calls hf (Hh listed)
          have key2 : call f args (Hh listed) = some (.ret (V i), Hh (listed.setIfInBounds i true)) := by
            split at hc
            · rename_i hp
              rw [hH2 (by rw [hc]; simp)]
              exact (hpure f args _ _ _ hp hcl2).2 _
            · rw [hmem hc, hH1 hc]; exact hcl2
          refine oper_step (s := { tmps := T listed, h := Hh listed }) hcall I hG1 ht hda (fun v h' hor2 g' v' I' E' hvr => ?_) (fun v h' hor2 g' v' I' E' hvr => ?_) (.inr (.inr ⟨f, args, _, by rw [hop]; exact key, key2⟩))
          · rcases hor2 with h3 | ⟨f2, args2, h3, h4⟩
            · rw [hop, key] at h3; cases h3
            · rw [hop, key] at h3; cases h3
              rw [key2] at h4; cases h4; exact hnext g' v' _ rfl I' E' hvr
          · rcases hor2 with ⟨h3, _⟩ | ⟨f2, args2, h3, h4⟩
            · rw [hop, key] at h3; cases h3
            · rw [hop, key] at h3; cases h3
              rw [key2] at h4; cases h4
  have hsame := I.same (w' := { g.w with drawn := g.w.drawn + 1 }) ⟨rfl, rfl, rfl, rfl⟩
  have hT0 : T (Array.replicate ops.size false) = s.tmps := TD_none _ _ _ (fun j _ => by show (Array.replicate ops.size false).getD j false = false; simp [Array.getD_eq_getD_getElem?, Array.getElem?_replicate]; split <;> rfl)
  have hH0 : Hh (Array.replicate ops.size false) = s.h := HD_none _ _ _ (fun j _ => by show (Array.replicate ops.size false).getD j false = false; simp [Array.getD_eq_getD_getElem?, Array.getElem?_replicate]; split <;> rfl)
  refine wp_region_any hmix (main ops.size (Array.replicate ops.size false) a { g with w := { g.w with drawn := g.w.drawn + 1 } } (by simp) ?_ ?_ ?_ ⟨hG.imm, hG.known⟩ ?_ ?_ hda)
  · refine Nat.le_trans (List.length_filter_le _ _) (by simp)
  · intro j o _ hd
    exfalso
    revert hd
    show (Array.replicate ops.size false).getD j false = true → False
    simp [Array.getD_eq_getD_getElem?, Array.getElem?_replicate]
    split <;> simp
  · rw [hH0]; exact hsame.1
  · rw [hH0]; exact hsame.2
  · rw [hT0]; exact ht
end Go.Am

