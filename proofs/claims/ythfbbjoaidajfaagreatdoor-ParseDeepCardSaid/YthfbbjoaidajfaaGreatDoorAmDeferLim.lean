import Derived.Test.YthfbbjoaidajfaaGreatDoorAmTyped
set_option linter.unusedVariables false
set_option linter.unusedSimpArgs false
set_option linter.unusedVariables false
namespace Go.Am
open Go
variable {C : Cfg}
theorem run_deferC {f : FuncId} {fn : Func} {r0 r1 b : Code} (hf : C.P.funcs[f]? = some fn) (hb : fn.body = some (.seq r0 (.seq r1 b))) (hs : C.summ f = none) (hfoc : C.foc f = true) (hd : C.dfr f = true) {args : List AVal} (hc : refsL args = [])
    (h0 : deferOf r0 = none) {s1 s2 s3 : ASt} {x : AExit} {ops : Array Oper} {init : List Oper} {o : Oper} {c : Call} {g : FuncId} {dargs : List AVal} {r r' : ARes} {h' : AHeap}
    (e0 : ex C r0 ⟨slots fn (stripL args), bare⟩ = some (.normal, s1)) (hdef : deferOf r1 = some (ops, init, o, c)) (e1 : xops C ops init s1 = some (.normal, s2)) (hcal : calleeOf (evalO C s2.tmps) c = some (g, dargs))
    (e2 : ex C b { s2 with tmps := put s2.tmps o.dst .top } = some (x, s3)) {n0 : Nat} (hl : aleave C (arun C n0) n0 fn g dargs (some (x, s3)) = some (r, h')) (hn : normRes (fun _ => false) h' depth r = some r') (h : AHeap) : run C f args h = some (r', h) := by
  obtain ⟨n1, k0⟩ := of_lim e0
  obtain ⟨n2, k1⟩ := of_lim e1
  obtain ⟨n3, k2⟩ := of_lim e2
  obtain ⟨n, hnn⟩ : ∃ n, n = max (max n0 n1) (max n2 n3) := ⟨_, rfl⟩
  have q0 : aexec C (arun C n) n r0 ⟨slots fn (stripL args), bare⟩ = some (.normal, s1) := mono_ex (C := C) _ _ _ _ (by omega) _ k0
  have q1 : aops C (arun C n) ops init s1 = some (.normal, s2) := mono_xops (C := C) _ _ _ _ _ (by omega) _ k1
  have q2 : aexec C (arun C n) n b { s2 with tmps := put s2.tmps o.dst .top } = some (x, s3) := mono_ex (C := C) _ _ _ _ (by omega) _ k2
  have q3 : aleave C (arun C n) n fn g dargs (some (x, s3)) = some (r, h') := aleave_le (arun_mono (by omega)) (by omega) hl
  refine run_of (n := n + 1) ?_
  simp only [arun, hs, hf, hb, hfoc, if_true]
  rw [hc]
  simp only [List.eraseDups_nil]
  rw [show norms (fun i => ([] : List Nat).contains i) AHeap.empty depth args = some (stripL args) from normL_strip _ _ _ hc]
  simp only [focus, putAll, List.foldlM_nil, Option.pure_def, topId]
  have hD : abodyX C (arun C n) n f fn (.seq r0 (.seq r1 b)) (stripL args) bare = some (r, h') := by
    unfold abodyX
    rw [hd, if_pos rfl]
    rw [show stripL args ++ List.replicate (fn.ntmps - (stripL args).length) AVal.top = slots fn (stripL args) from rfl]
    unfold abodyD
    rw [h0, q0]
    simp only
    unfold abodyD
    rw [hdef]
    simp only [q1, hcal, q2, q3]
  rw [show ({ get := fun _ => none, next := 0, ty := fun _ => none } : AHeap) = bare from rfl, hD]
  simp only [home, putAll, List.foldlM_nil, Option.pure_def]
  rw [show (fun i => ([] : List Nat).contains i) = fun _ => false from funext fun i => rfl, hn]
def noRec : Code → Bool
  | .region _ ops _ => ops.toList.all fun o => !isRecover o
  | .seq a b => noRec a && noRec b
  | .cond _ a b => noRec a && noRec b
  | _ => true
theorem opsR_plain {call : CallF} {ops : Array Oper} : ∀ (l : List Oper) (s : ASt) (m : AMode), (l.all fun o => !isRecover o) = true → aopsR C call ops l s m = (aops C call ops l s).map fun r => (r.1, r.2, m)
  | [], s, m, _ => rfl
  | o :: rest, s, m, h => by
    simp only [List.all_cons, Bool.and_eq_true, Bool.not_eq_true'] at h
    unfold aopsR aops
    cases hw : awanted ops s.tmps o with
    | none => rfl
    | some b =>
      cases b with
      | false => exact opsR_plain rest _ m h.2
      | true =>
        simp only [h.1, Bool.false_eq_true, if_false]
        cases ho : aoper C (evalO C s.tmps) s.h o with
        | none => rfl
        | some q =>
          cases q with
          | val v h' => exact opsR_plain rest _ m h.2
          | pan v => rfl
          | call f args =>
            simp only
            cases hc : call f args s.h with
            | none => rfl
            | some r =>
              obtain ⟨r, h'⟩ := r
              cases r with
              | ret v => exact opsR_plain rest _ m h.2
              | pan v => rfl
theorem execR_plain {call : CallF} {n : Nat} : ∀ (c : Code) (s : ASt) (m : AMode), noRec c = true → aexecR C call n c s m = (aexec C call n c s).map fun r => (r.1, r.2, m) := by
  intro c
  induction c with
  | region id ops d =>
    intro s m h
    cases d with
    | false => exact opsR_plain _ _ _ h
    | true => rfl
  | seq a b iha ihb =>
    intro s m h
    simp only [noRec, Bool.and_eq_true] at h
    unfold aexecR aexec
    rw [iha s m h.1]
    cases aexec C call n a s with
    | none => rfl
    | some q =>
      obtain ⟨x, s1⟩ := q
      cases x with
      | normal => exact ihb s1 m h.2
      | _ => rfl
  | cond c a b iha ihb =>
    intro s m h
    simp only [noRec, Bool.and_eq_true] at h
    unfold aexecR aexec
    cases evalO C s.tmps c with
    | bool t =>
      cases t with
      | true => exact iha s m h.1
      | false => exact ihb s m h.2
    | _ => rfl
  | _ => intro s m h; rfl
theorem adefer_of {g : FuncId} {fn : Func} {r0 rest : Code} (hf : C.P.funcs[g]? = some fn) (hb : fn.body = some (.seq r0 rest)) {args : List AVal} {h : AHeap} {m m1 : AMode} {s1 s2 : ASt} {x : AExit} {vs : List AVal}
    (h0 : ∀ n, aexecR C (arun C n) n r0 ⟨slots fn args, h⟩ m = some (.normal, s1, m1)) (hnr : noRec rest = true) (he : ex C rest s1 = some (x, s2)) (hx : x = .ret ∨ x = .normal) (hr : aresults C fn.results.toList s2 = some vs) :
    ∃ n0, ∀ n, n0 ≤ n → adefer C (arun C n) n g args m h = some (.ret (packRes vs), s2.h, m1) := by
  obtain ⟨n0, hn0⟩ := of_lim he
  refine ⟨n0, fun n hn => ?_⟩
  have q : aexec C (arun C n) n rest s1 = some (x, s2) := mono_ex (C := C) _ _ _ _ hn _ hn0
  unfold adefer
  rw [hf]
  simp only [hb]
  rw [show args ++ List.replicate (fn.ntmps - args.length) AVal.top = slots fn args from rfl]
  unfold aexecR
  rw [h0 n]
  simp only
  rw [execR_plain rest s1 m1 hnr, q]
  rcases hx with rfl | rfl <;> simp only [Option.map_some, hr]
end Go.Am

