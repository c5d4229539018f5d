import Derived.Test.YthfbbjoaidajfaaGreatDoorAmDefer
set_option linter.unusedVariables false
set_option linter.unusedSimpArgs false
set_option linter.unusedSimpArgs false
namespace Go.Am
open Go
structure NormHyp (keep : Nat → Bool) (hop : Nat → Option (List AVal)) (ι1 ι2 : Imm) (μ1 μ2 : Mu) : Prop where
  imm : ∀ b o v, ι1 b o = some v → ι2 b o = some v
  keep : ∀ id e, keep id = true → μ1 id = some e → μ2 id = some e
  hop : ∀ id cs b o s e, hop id = some cs → μ1 id = some (.arr b o s e) → ∃ vs, VsRel ι2 μ2 cs vs ∧ ICells ι2 b o vs
mutual
theorem normW_ok {keep : Nat → Bool} {hop : Nat → Option (List AVal)} {ι1 ι2 : Imm} {μ1 μ2 : Mu} (H : NormHyp keep hop ι1 ι2 μ1 μ2) {v u : AVal} {v' : Value} (hv : VRel ι1 μ1 v v') (h : normW keep hop v = some u) : VRel ι2 μ2 u v' := by
  cases hv with
  | top => simp only [normW, Option.some.injEq] at h; subst h; exact .top _
  | bool => simp only [normW, Option.some.injEq] at h; subst h; exact .bool _
  | int => simp only [normW, Option.some.injEq] at h; subst h; exact .int _ _
  | str => simp only [normW, Option.some.injEq] at h; subst h; exact .str _
  | nilPtr => simp only [normW, Option.some.injEq] at h; subst h; exact .nilPtr
  | nilSl => simp only [normW, Option.some.injEq] at h; subst h; exact .nilSl
  | nilMap => simp only [normW, Option.some.injEq] at h; subst h; exact .nilMap
  | nilI => simp only [normW, Option.some.injEq] at h; subst h; exact .nilI
  | nilFn => simp only [normW, Option.some.injEq] at h; subst h; exact .nilFn
  | @ptr id off b o s e hm =>
    simp only [normW] at h
    split at h
    · rename_i hk
      simp only [Option.some.injEq] at h; subst h
      exact .ptr (H.keep _ _ hk hm)
    · simp only [Option.map_eq_some_iff] at h
      obtain ⟨cs, hcs, rfl⟩ := h
      obtain ⟨vs, hvs, hic⟩ := H.hop _ _ _ _ _ _ hcs hm
      exact .iptr (hvs.drop off) (hic.drop off)
  | iptr hc hi =>
    simp only [normW, Option.map_eq_some_iff] at h
    obtain ⟨cs, hcs, rfl⟩ := h
    exact .iptr (normL_ok H hc hcs) (fun j v hj => H.imm _ _ _ (hi j v hj))
  | @sl id off es len cap cap' b o s e op a hm hn hcap hop' ha =>
    simp only [normW] at h
    split at h
    · rename_i hk
      simp only [Option.some.injEq] at h; subst h
      exact .sl (H.keep _ _ hk hm) hn hcap hop' ha
    · split at h
      · rename_i cs hcs
        split at h
        · rename_i hfit
          simp only [Option.some.injEq] at h; subst h
          obtain ⟨vs, hvs, hic⟩ := H.hop _ _ _ _ _ _ hcs hm
          rcases Nat.eq_zero_or_pos len with h0 | h0
          · subst h0
            have : (cs.drop off).take (0 * es) = [] := by simp
            rw [this]
            exact .lst .nil (fun j v hj => by simp at hj) (fun h => by omega) (Nat.zero_le _) trivial
          · obtain ⟨ha1, ha2⟩ := ha (by omega)
            subst ha1
            exact .lst ((hvs.drop off).take _) ((hic.drop off).take _) (fun _ => rfl) (by omega) trivial
        · cases h
      · cases h
  | lst hc hi hs hn hcap =>
    simp only [normW, Option.map_eq_some_iff] at h
    obtain ⟨cs, hcs, rfl⟩ := h
    refine .lst (normL_ok H hc hcs) (fun j v hj => H.imm _ _ _ (hi j v hj)) hs hn ?_
    split
    · exact hcap
    · trivial
    · trivial
  | map hm =>
    simp only [normW] at h
    split at h
    · rename_i hk
      simp only [Option.some.injEq] at h; subst h
      exact .map (H.keep _ _ hk hm)
    · cases h
  | @fn f a b a' b' h1 h2 =>
    simp only [normW] at h
    cases ha : normL keep hop a with
    | none => simp [ha] at h
    | some x => cases hb : normL keep hop b with
      | none => simp [ha, hb] at h
      | some y =>
        simp only [ha, hb, Option.some.injEq] at h; subst h
        exact .fn (normL_ok H h1 ha) (normL_ok H h2 hb)
  | iface hv =>
    simp only [normW, Option.map_eq_some_iff] at h
    obtain ⟨x, hx, rfl⟩ := h
    exact .iface (normW_ok H hv hx)
  | agg hc =>
    simp only [normW, Option.map_eq_some_iff] at h
    obtain ⟨cs, hcs, rfl⟩ := h
    exact .agg (normL_ok H hc hcs)
  | tup hc =>
    simp only [normW, Option.map_eq_some_iff] at h
    obtain ⟨cs, hcs, rfl⟩ := h
    exact .tup (normL_ok H hc hcs)
theorem normL_ok {keep : Nat → Bool} {hop : Nat → Option (List AVal)} {ι1 ι2 : Imm} {μ1 μ2 : Mu} (H : NormHyp keep hop ι1 ι2 μ1 μ2) {v u : List AVal} {v' : List Value} (hv : VsRel ι1 μ1 v v') (h : normL keep hop v = some u) : VsRel ι2 μ2 u v' := by
  cases hv with
  | nil => simp only [normL, Option.some.injEq] at h; subst h; exact .nil
  | @cons x x' xs xs' h1 hs =>
    simp only [normL] at h
    cases ha : normW keep hop x with
    | none => simp [ha] at h
    | some y => cases hb : normL keep hop xs with
      | none => simp [ha, hb] at h
      | some ys =>
        simp only [ha, hb, Option.some.injEq] at h; subst h
        exact .cons (normW_ok H h1 ha) (normL_ok H hs hb)
end
theorem hops_empty (keep : Nat → Bool) (d id : Nat) : hops keep AHeap.empty d id = none := by
  cases d <;> rfl
theorem NormHyp.empty {keep : Nat → Bool} {d : Nat} {ι : Imm} {μ μ2 : Mu} (hk : ∀ id e, keep id = true → μ id = some e → μ2 id = some e) : NormHyp keep (hops keep AHeap.empty d) ι ι μ μ2 :=
  ⟨fun _ _ _ h => h, hk, fun id cs b o s e h => by rw [hops_empty] at h; cases h⟩
noncomputable def shutImm (keep : Nat → Bool) (h : AHeap) (g : G) : Imm := fun b o =>
  open Classical in if ∃ id cs, keep id = false ∧ h.get id = some (.arr cs) ∧ blkOf g.μ id = some b then g.w.cell? ⟨b, o, none⟩ else g.ι b o
theorem shutImm_le {B : Nat} {h : AHeap} {g : G} (I : Inv B h g) (keep : Nat → Bool) : ∀ b o v, g.ι b o = some v → shutImm keep h g b o = some v := by
  intro b o v hv
  unfold shutImm
  split
  · exact I.imm b o v hv
  · exact hv
theorem hops_ok {B : Nat} {h : AHeap} {g : G} (I : Inv B h g) {keep : Nat → Bool} {μ2 : Mu} (hk : ∀ id e, keep id = true → g.μ id = some e → μ2 id = some e) : ∀ d, NormHyp keep (hops keep h d) g.ι (shutImm keep h g) g.μ μ2 := by
  intro d
  induction d with
  | zero => exact ⟨shutImm_le I keep, hk, fun id cs b o s e h => by simp [hops] at h⟩
  | succ d ih =>
    refine ⟨shutImm_le I keep, hk, fun id cs b o s e hh hm => ?_⟩
    simp only [hops] at hh
    split at hh
    · rename_i cells hget
      split at hh
      · cases hh
      · rename_i hkeep
        obtain ⟨b', o', ccs, e, vs, hm', h0, hheap, hvs, hcs, hni⟩ := I.blk id _ hget
        rw [hm'] at hm
        simp only [Option.some.injEq, Ent.arr.injEq] at hm
        obtain ⟨rfl, rfl, rfl, rfl⟩ := hm
        refine ⟨vs, normL_ok ih hvs hh, fun j v hj => ?_⟩
        unfold shutImm
        rw [if_pos ⟨id, cells, by simpa using hkeep, hget, by simp [blkOf, hm', Ent.block]⟩, cell?_of_heap hheap]
        exact hcs j v hj
    · cases hh
theorem putAll_spec {F : Nat → Option (List AVal)} : ∀ (ids : List Nat) (h h' : AHeap), putAll F ids h = some h' →
    h'.next = h.next ∧ h'.ty = h.ty ∧ ∀ id, (id ∉ ids → h'.get id = h.get id) ∧ (id ∈ ids → ∃ ds, F id = some ds ∧ h'.get id = some (.arr ds)) := by
  intro ids
  induction ids with
  | nil =>
    intro h h' hp
    simp only [putAll, List.foldlM_nil, Option.pure_def, Option.some.injEq] at hp; subst hp
    exact ⟨rfl, rfl, fun id => ⟨fun _ => rfl, fun h => by simp at h⟩⟩
  | cons i ids ih =>
    intro h h' hp
    simp only [putAll, List.foldlM_cons, Option.bind_eq_bind, Option.bind_eq_some_iff, Option.map_eq_some_iff] at hp
    obtain ⟨h1, ⟨ds, hds, rfl⟩, hp⟩ := hp
    obtain ⟨hn, ht, hg⟩ := ih _ h' hp
    refine ⟨hn, ht, fun id => ⟨fun hid => ?_, fun hid => ?_⟩⟩
    · simp only [List.mem_cons, not_or] at hid
      rw [(hg id).1 hid.2]
      simp [AHeap.set, hid.1]
    · by_cases h2 : id ∈ ids
      · exact (hg id).2 h2
      · simp only [List.mem_cons] at hid
        have : id = i := hid.resolve_right h2
        subst this
        exact ⟨ds, hds, by rw [(hg id).1 h2]; simp [AHeap.set]⟩
theorem topId_lt {ids : List Nat} {i : Nat} (h : i ∈ ids) : i < topId ids := by
  induction ids with
  | nil => simp at h
  | cons j ids ih =>
    simp only [topId]
    rcases List.mem_cons.1 h with rfl | h
    · omega
    · have := ih h; omega
theorem arrAt_some {keep : Nat → Bool} {hh h : AHeap} {d i : Nat} {ds : List AVal} (h0 : arrAt keep hh d h i = some ds) : ∃ cs, h.get i = some (.arr cs) ∧ norms keep hh d cs = some ds := by
  unfold arrAt at h0
  split at h0
  · exact ⟨_, by assumption, h0⟩
  · cases h0
theorem foc_sound {C : Cfg} {call : CallF} (hN : NameOk C) (hcall : CallOk C call) (hdraw : DrawOk C call) {n : Nat} {f : FuncId} {fn : Func} {body : Code} (hf : C.P.funcs[f]? = some fn) (hb : fn.body = some body) {ids : List Nat} {d : Nat} {args as : List AVal} {h h0 h1 h' : AHeap} {r r' : ARes}
    (has : norms (fun i => ids.contains i) AHeap.empty d args = some as) (hfo : focus ids d h = some h0) (hr : abodyX C call n f fn body as h0 = some (r, h1)) (hho : home ids d h h1 r = some (r', h')) {B : Nat} {g : G} {args' : Array Value}
    (I : Inv B h g) (hG : GlobOk C B g) (ha : VsRel g.ι g.μ args args'.toList) : Calls C.P f args' g.w (ResOk B h g h' r') := by
  obtain ⟨hn0, ht0, hg0⟩ := putAll_spec ids _ h0 hfo
  let μs : Mu := fun id => if ids.contains id then g.μ id else none
  have hks : ∀ id e, ids.contains id = true → g.μ id = some e → μs id = some e := fun id e hk hm => by
    show (if ids.contains id then g.μ id else none) = some e
    rw [if_pos hk]; exact hm
  have hμs : ∀ id, ids.contains id = true → μs id = g.μ id := fun id hk => by
    show (if ids.contains id then g.μ id else none) = g.μ id
    rw [if_pos hk]
  have hμn : ∀ id, ids.contains id = false → μs id = none := fun id hk => by
    show (if ids.contains id then g.μ id else none) = none
    rw [hk]; rfl
  have mem_c : ∀ id, id ∈ ids ↔ ids.contains id = true := fun id => by simp
  have I0 : Inv B h0 ⟨g.w, g.ι, μs⟩ := by
    refine ⟨fun id hid => ?_, I.base, I.imm, fun id x hx => ?_, fun i j x y b hi hj hbi hbj => ?_, fun id t z ht => by rw [ht0] at ht; cases ht⟩
    · rw [hn0] at hid
      have hni : id ∉ ids := fun hm => by have := topId_lt hm; simp only at hid; omega
      exact ⟨hμn id (by simpa using hni), (hg0 id).1 hni⟩
    · by_cases hm : id ∈ ids
      · obtain ⟨ds, hF, hget⟩ := (hg0 id).2 hm
        rw [hget] at hx; cases hx
        obtain ⟨cs, hcs, hnorm⟩ := arrAt_some hF
        obtain ⟨b, o, ccs, e, vs, hmu, hB, hh, hv, hcc, hni⟩ := I.blk id _ hcs
        have hrel := normL_ok (NormHyp.empty (d := d) (ι := g.ι) hks) hv hnorm
        have hlen : ds.length = cs.length := by rw [hrel.length, hv.length]
        exact ⟨b, o, ccs, e, vs, hks id _ ((mem_c id).1 hm) hmu, hB, hh, hrel, hcc, hni.1, by rw [hlen]; exact hni.2⟩
      · rw [(hg0 id).1 hm] at hx; cases hx
    · have hmi : i ∈ ids := by
        by_cases hm : i ∈ ids
        · exact hm
        · rw [(hg0 i).1 hm] at hi; cases hi
      have hmj : j ∈ ids := by
        by_cases hm : j ∈ ids
        · exact hm
        · rw [(hg0 j).1 hm] at hj; cases hj
      obtain ⟨_, hF, _⟩ := (hg0 i).2 hmi
      obtain ⟨_, hF2, _⟩ := (hg0 j).2 hmj
      obtain ⟨cs, hcs, _⟩ := arrAt_some hF
      obtain ⟨cs2, hcs2, _⟩ := arrAt_some hF2
      simp only [blkOf, hμs i ((mem_c i).1 hmi)] at hbi
      simp only [blkOf, hμs j ((mem_c j).1 hmj)] at hbj
      exact I.inj i j _ _ b hcs hcs2 hbi hbj
  have ha0 := normL_ok (NormHyp.empty (d := d) (ι := g.ι) hks) ha has
  have owns0 : ∀ b, Owns h0 ⟨g.w, g.ι, μs⟩ b → Owns h g b := by
    rintro b ⟨id, x, hx, hb⟩
    have hm : id ∈ ids := by
      by_cases hm : id ∈ ids
      · exact hm
      · rw [(hg0 id).1 hm] at hx; cases hx
    obtain ⟨_, hF, _⟩ := (hg0 id).2 hm
    obtain ⟨cs, hcs, _⟩ := arrAt_some hF
    simp only [blkOf, hμs id ((mem_c id).1 hm)] at hb
    exact ⟨id, _, hcs, hb⟩
  refine (bodyX_sound hN hcall hdraw hf hb hr I0 ⟨hG.imm, hG.known⟩ ha0).mono fun e w' hres => ?_
  obtain ⟨ι1, μ1, I1, E1, hm1⟩ := hres
  unfold home at hho
  cases hnr : normRes (fun i => ids.contains i) h1 d r with
  | none => rw [hnr] at hho; cases hho
  | some r2 =>
  cases hpa : putAll (arrAt (fun i => ids.contains i) h1 d h1) ids h with
  | none => rw [hnr, hpa] at hho; cases hho
  | some h2 =>
  rw [hnr, hpa] at hho
  simp only [Option.some.injEq, Prod.mk.injEq] at hho
  obtain ⟨rfl, rfl⟩ := hho
  obtain ⟨hn2, ht2, hg2⟩ := putAll_spec ids h h2 hpa
  have hμ1 : ∀ id, ids.contains id = true → μ1 id = g.μ id := fun id hk => by
    have h3 := E1.old id (by rw [hn0]; exact topId_lt ((mem_c id).2 hk))
    exact h3.trans (hμs id hk)
  have hk1 : ∀ id e, ids.contains id = true → μ1 id = some e → g.μ id = some e := fun id e hk hm => by rw [← hμ1 id hk]; exact hm
  have H := hops_ok (g := ⟨w', ι1, μ1⟩) I1 (keep := fun i => ids.contains i) (μ2 := g.μ) hk1 d
  have shut_ne : ∀ b o, ¬ Owns h1 ⟨w', ι1, μ1⟩ b → shutImm (fun i => ids.contains i) h1 ⟨w', ι1, μ1⟩ b o = ι1 b o := fun b o hno => by
    unfold shutImm
    rw [if_neg]
    rintro ⟨id, cs, _, hget, hb⟩
    exact hno ⟨id, _, hget, hb⟩
  have shut_keep : ∀ id cs b o, id ∈ ids → h1.get id = some (.arr cs) → blkOf μ1 id = some b → shutImm (fun i => ids.contains i) h1 ⟨w', ι1, μ1⟩ b o = ι1 b o := fun id cs b o hm hget hb => by
    unfold shutImm
    rw [if_neg]
    rintro ⟨id2, cs2, hk2, hget2, hb2⟩
    have := I1.inj id id2 _ _ b hget hget2 hb hb2
    subst this
    have hk3 : ids.contains id = false := hk2
    rw [(mem_c id).1 hm] at hk3; cases hk3
  have notown : ∀ id x b, id ∉ ids → h.get id = some x → blkOf g.μ id = some b → ¬ Owns h0 ⟨g.w, g.ι, μs⟩ b := by
    rintro id x b hni hx hb ⟨id2, x2, hx2, hb2⟩
    have hm2 : id2 ∈ ids := by
      by_cases hm : id2 ∈ ids
      · exact hm
      · rw [(hg0 id2).1 hm] at hx2; cases hx2
    obtain ⟨_, hF, _⟩ := (hg0 id2).2 hm2
    obtain ⟨cs, hcs, _⟩ := arrAt_some hF
    simp only [blkOf, hμs id2 ((mem_c id2).1 hm2)] at hb2
    exact hni (I.inj id id2 _ _ b hx hcs hb hb2 ▸ hm2)
  have hsub : ∀ id x, h2.get id = some x → ∃ y, h.get id = some y := fun id x hx => by
    by_cases hm : id ∈ ids
    · obtain ⟨_, hF, _⟩ := (hg0 id).2 hm
      obtain ⟨cs, hcs, _⟩ := arrAt_some hF
      exact ⟨_, hcs⟩
    · rw [(hg2 id).1 hm] at hx; exact ⟨_, hx⟩
  have l2 : Le g.ι (shutImm (fun i => ids.contains i) h1 ⟨w', ι1, μ1⟩) g.μ g.μ := ⟨fun b o v hv => shutImm_le I1 _ b o v (E1.le.imm b o v hv), fun _ _ h => h⟩
  refine ⟨shutImm (fun i => ids.contains i) h1 ⟨w', ι1, μ1⟩, g.μ, ⟨?_, ?_, ?_, ?_, ?_, fun id t z ht => I.ty id t z (by rw [← ht2]; exact ht)⟩, ⟨E1.os, E1.tape, E1.output, E1.size, ?_, l2, ?_, ?_, by rw [hn2]; exact Nat.le_refl _, fun _ _ => rfl⟩, ?_⟩
  · intro id hid
    rw [hn2] at hid
    have hx := I.nx id hid
    refine ⟨hx.1, ?_⟩
    cases h3 : h2.get id with
    | none => rfl
    | some x => obtain ⟨y, hy⟩ := hsub id x h3; rw [hx.2] at hy; cases hy
  · exact Nat.le_trans I.base E1.size
  · intro b o v hv
    have hv2 : shutImm (fun i => ids.contains i) h1 ⟨w', ι1, μ1⟩ b o = some v := hv
    unfold shutImm at hv2
    split at hv2
    · exact hv2
    · exact I1.imm b o v hv2
  · intro id x hx
    by_cases hm : id ∈ ids
    · obtain ⟨ds, hF, hget⟩ := (hg2 id).2 hm
      rw [hget] at hx; cases hx
      obtain ⟨cs, hcs, hnorm⟩ := arrAt_some hF
      obtain ⟨b, o, ccs, e', vs, hmu, hB, hh, hv, hcc, hni⟩ := I1.blk id _ hcs
      have hrel := normL_ok H hv hnorm
      have hlen : ds.length = cs.length := by rw [hrel.length, hv.length]
      refine ⟨b, o, ccs, e', vs, hk1 id _ ((mem_c id).1 hm) hmu, hB, hh, hrel, hcc, fun j => ?_, by rw [hlen]; exact hni.2⟩
      have h3 := shut_keep id cs b j hm hcs (by simp only at hmu; simp [blkOf, hmu, Ent.block])
      exact h3.trans (hni.1 j)
    · rw [(hg2 id).1 hm] at hx
      refine (I.blk id x hx).keep l2 (fun b hb => ?_) (fun b o hb hno => ?_)
      · exact E1.fr b (I.lt_own ⟨id, x, hx, hb⟩) (notown id x b hm hx hb)
      · have hlt := I.lt_own ⟨id, x, hx, hb⟩
        have hno1 : ¬ Owns h1 ⟨w', ι1, μ1⟩ b := fun ho => notown id x b hm hx hb (E1.own b hlt ho)
        exact ((shut_ne b o hno1).trans (E1.ifr b hlt (notown id x b hm hx hb) o)).trans hno
  · intro i j x y b hi hj hbi hbj
    obtain ⟨x2, hx2⟩ := hsub i x hi
    obtain ⟨y2, hy2⟩ := hsub j y hj
    exact I.inj i j x2 y2 b hx2 hy2 hbi hbj
  · intro b hb hno
    exact E1.fr b hb (fun ho => hno (owns0 b ho))
  · intro b hb hno o
    have hno0 : ¬ Owns h0 ⟨g.w, g.ι, μs⟩ b := fun ho => hno (owns0 b ho)
    exact (shut_ne b o (fun ho => hno0 (E1.own b hb ho))).trans (E1.ifr b hb hno0 o)
  · rintro b hb ⟨id, x, hx, hbk⟩
    obtain ⟨y, hy⟩ := hsub id x hx
    exact ⟨id, y, hy, hbk⟩
  · cases r with
    | ret v =>
      simp only [normRes, Option.map_eq_some_iff] at hnr
      obtain ⟨u, hu, rfl⟩ := hnr
      obtain ⟨v', rfl, hv⟩ := hm1
      exact ⟨v', rfl, normW_ok H hv hu⟩
    | pan v =>
      simp only [normRes, Option.map_eq_some_iff] at hnr
      obtain ⟨u, hu, rfl⟩ := hnr
      obtain ⟨v', rfl, hv⟩ := hm1
      exact ⟨v', rfl, normW_ok H hv hu⟩
def SummOk (C : Cfg) : Prop :=
  ∀ f s, C.summ f = some s → ∀ args v, s args = some v → ∀ B h g args', Inv B h g → GlobOk C B g → VsRel g.ι (fun _ => none) args args'.toList →
    (callFunc f args').run C.P g.w = .ok (.enter f args') g.w ∧ Calls C.P f args' g.w (ResOk B h g h (.ret v))
def ExtOk (C : Cfg) : Prop :=
  ∀ (f : FuncId) (fn : Func), C.P.funcs[f]? = some fn → fn.body = none → ∀ h args r, aextern C fn h args = some r → ∀ B g args', Inv B h g → VsRel g.ι g.μ args args'.toList → OkOp B h g ((callFunc f args').run C.P g.w) r.1 r.2
theorem run_sound {C : Cfg} (hN : NameOk C) (hS : SummOk C) (hE : ExtOk C) (hD : ∀ n, CallOk C (arun C n) → DrawOk C (arun C n)) : ∀ n, CallOk C (arun C n) := by
  intro n
  induction n with
  | zero => intro f args h r h' hc; simp [arun] at hc
  | succ n ih =>
    intro f args h r h' hc B g args' I hG ha
    simp only [arun] at hc
    split at hc
    · rename_i s hs
      split at hc
      · rename_i as has
        simp only [Option.map_eq_some_iff, Prod.mk.injEq] at hc
        obtain ⟨v, hv, rfl, rfl⟩ := hc
        have ha0 := normL_ok (NormHyp.empty (d := depth) (ι := g.ι) (μ := g.μ) (μ2 := fun _ => none) (keep := fun _ => false) (fun id e hk => by cases hk)) ha has
        exact .inl (hS f s hs as v hv B h g args' I hG ha0)
      · cases hc
    · split at hc
      · cases hc
      · rename_i fn hfn
        split at hc
        · rename_i hbn
          simp only [Option.map_eq_some_iff, Prod.mk.injEq] at hc
          obtain ⟨q, hq, rfl, rfl⟩ := hc
          exact .inr ⟨q.1, rfl, hE f fn hfn hbn h args q hq B g args' I ha⟩
        · rename_i body hbn
          refine .inl ⟨run_enter hN hfn hbn args' g.w, ?_⟩
          split at hc
          · split at hc
            · rename_i as h0 has hfo
              split at hc
              · rename_i r1 h1 hbody
                exact foc_sound hN ih (hD n ih) hfn hbn has hfo hbody hc I hG ha
              · cases hc
            · cases hc
          · exact bodyX_sound hN ih (hD n ih) hfn hbn hc I hG ha
end Go.Am

