/- Operations that look at no memory, whole. -/
import Derived.Test.YtncmgiddcefpcaaDoorEvC
import Derived.Laws.Tables
namespace Go.Ev
open Go
set_option linter.unusedSimpArgs false
set_option linter.unusedVariables false

/-! ### laying parts -/
theorem foldl_splice (vs : List Value) : ∀ (cs : Array Value) (off k : Nat), off + k + vs.length ≤ cs.size →
    ((vs.zipIdx k).foldl (fun cs (c, j) => cs.setIfInBounds (off + j) c) cs).toList = splice cs.toList (off + k) vs := by
  induction vs with
  | nil => intro cs off k h; simp [splice]
  | cons v vs ih =>
    intro cs off k h
    simp only [List.length_cons] at h
    simp only [List.zipIdx_cons, List.foldl_cons]
    rw [ih _ off (k + 1) (by simp; omega)]
    simp only [splice, Array.toList_setIfInBounds, List.length_cons]
    apply List.ext_getElem?
    intro i
    simp only [List.getElem?_append, List.getElem?_take, List.getElem?_drop, List.length_take, List.length_set, List.length_append, List.length_cons, List.getElem?_set, Array.length_toList]
    rw [Nat.min_eq_left (by omega), Nat.min_eq_left (by omega)]
    by_cases h1 : i < off + k
    · simp [h1, show i < off + (k + 1) by omega, show ¬ off + k = i by omega, show i < off + k + (vs.length + 1) by omega, show i < off + (k + 1) + vs.length by omega]
    · by_cases h2 : i = off + k
      · subst h2
        simp [show off + k < off + (k + 1) by omega, show off + k < cs.size by omega, show off + k < off + (k + 1) + vs.length by omega]
      · obtain ⟨j, rfl⟩ : ∃ j, i = off + (k + 1) + j := ⟨i - (off + (k + 1)), by omega⟩
        by_cases h3 : j < vs.length
        · simp [h3, show ¬ off + (k + 1) + j < off + k by omega, show off + (k + 1) + j < off + k + (vs.length + 1) by omega, show off + (k + 1) + j - (off + k) = j + 1 by omega]
          intro hh; omega
        · simp [h3, show ¬ off + (k + 1) + j < off + k + (vs.length + 1) by omega, show ¬ off + k = off + (k + 1) + vs.length + (off + (k + 1) + j - (off + (k + 1) + vs.length)) by omega]
          congr 1
          omega

/-- Parts of one list against another's. -/
inductive PL (m : Mp) : List (Nat × Value) → List (Nat × Value) → Prop
  | nil : PL m [] []
  | cons {i : Nat} {v v' : Value} {l l' : List (Nat × Value)} (h : VRel m v v') (t : PL m l l') : PL m ((i, v) :: l) ((i, v') :: l')

theorem VRel.cells_size {m : Mp} {v v' : Value} (h : VRel m v v') (hb : boxable v = true) : v'.cells.size = v.cells.size := by
  have := (h.cells hb).length; simpa using this.symm

theorem fill_sound {m : Mp} {place : Nat → Option (Nat × Nat)} : ∀ {parts parts' : List (Nat × Value)}, PL m parts parts' → ∀ {cs r : List Value} {cs' : Array Value}, VL m cs cs'.toList →
    fillV place cs parts = some r → ∃ r', Instr.fill place cs' parts' = some r' ∧ VL m r r'.toList := by
  intro parts parts' h
  induction h with
  | nil => intro cs r cs' hc e; simp [fillV] at e; subst e; exact ⟨cs', rfl, hc⟩
  | cons hv ht ih =>
    rename_i i v v' l l'
    intro cs r cs' hc e
    simp only [fillV] at e
    simp only [Instr.fill]
    cases hp : place i with
    | none => simp [hp] at e
    | some os =>
      obtain ⟨off, size⟩ := os
      simp only [hp] at e ⊢
      cases hd : (v.cells.size == size) && decide (off + v.cells.size ≤ cs.length) && boxable v with
      | false => rw [hd] at e; simp at e
      | true =>
        rw [hd] at e
        simp only [cond_true, Bool.and_eq_true, beq_iff_eq, decide_eq_true_eq] at e hd
        have hl : cs.length = cs'.size := by simpa using hc.length
        have hs := hv.cells_size hd.2
        rw [if_neg (by simp [hs, hd.1.1]; omega)]
        refine ih ?_ e
        rw [show v'.cells.zipIdx.foldl (fun cs (x : Value × Nat) => cs.setIfInBounds (off + x.2) x.1) cs' = (v'.cells.toList.zipIdx 0).foldl (fun cs (c, j) => cs.setIfInBounds (off + j) c) cs' by
          rw [← Array.foldl_toList]; simp]
        rw [foldl_splice _ _ _ _ (by simp [hs]; omega)]
        simp only [Nat.add_zero]
        exact hc.splice (hv.cells hd.2) off

theorem evParts_sound {m : Mp} {nt : Nat} {fr : Fr} {a : Act} (h : FrRel m nt fr a.tmps) : ∀ {xs : List (Nat × Operand)} {vs : List (Nat × Value)}, evParts fr xs = some vs →
    PL m vs (xs.map fun (i, x) => (i, a.eval x))
  | [], vs, e => by simp [evParts] at e; subst e; exact .nil
  | (i, x) :: xs, vs, e => by
    simp only [evParts, Option.bind_eq_some_iff] at e
    obtain ⟨v, e1, us, e2, e3⟩ := e
    simp at e3; subst e3
    exact .cons (ev1_sound h e1) (evParts_sound h e2)

theorem tPlaces_spec {P : Program} {t : TypeId} {ps : List (Nat × Nat)} (h : tPlaces P t = some ps) : ∃ fs, P.underlying t = some (.struct fs) ∧
    fs.toList.mapM (fun f => (P.info? f.type).map fun i => (f.offset, i.size)) = some ps := by
  unfold tPlaces at h
  split at h
  · rename_i fs hu; exact ⟨fs, hu, h⟩
  · cases h

theorem evBuild_sound {P : Program} {m : Mp} {t : TypeId} {parts parts' : List (Nat × Value)} {v : Value} (h : evBuild P t parts = some v) (hp : PL m parts parts') :
    ∃ v', (∀ w, (Instr.build t parts'.toArray).run P w = .ok v' w) ∧ VRel m v v' := by
  simp only [evBuild, Option.bind_eq_some_iff] at h
  obtain ⟨z, hz, h⟩ := h
  cases hf : flat z with
  | false => rw [hf] at h; simp at h
  | true =>
    rw [hf] at h
    simp only [Bool.not_true, cond_false] at h
    have hzr : VL m z.cells.toList z.cells.toList := (flat_refl (m := m) hf).cells (flat_boxable hf)
    split at h
    · rename_i ps hps
      obtain ⟨fs, hu, hm⟩ := tPlaces_spec hps
      rw [Option.map_eq_some_iff] at h
      obtain ⟨cs, hcs, rfl⟩ := h
      obtain ⟨r', hr1, hr2⟩ := fill_sound hp hzr hcs
      refine ⟨.agg r', fun w => ?_, .agg (by simpa using hr2)⟩
      have hr1' : Instr.fill (fun x => ps[x]?) z.cells parts' = some r' := hr1
      simp [Instr.build, run_underlying hu, run_zeroValue hz, Array.mapM_eq_mapM_toList, run_places w _ _ hm, hr1']
    · rename_i n e hps hte
      simp only [Option.bind_eq_some_iff, Option.map_eq_some_iff] at h
      obtain ⟨sz, hsz, cs, hcs, rfl⟩ := h
      obtain ⟨r', hr1, hr2⟩ := fill_sound hp hzr hcs
      refine ⟨.agg r', fun w => ?_, .agg (by simpa using hr2)⟩
      simp [Instr.build, run_underlying (tArray_spec hte), run_zeroValue hz, run_sizeOf hsz, hr1]
    · cases h

/-! ### two operands -/
theorem run_eqIn_ptr {P : Program} {t : TypeId} {e : TypeId} (hu : P.underlying t = some (.pointer e)) (a : Option Addr) (w : World) (d : Nat) :
    (Op.equalIn (d + 1) t (.pointer none) (.pointer a)).run P w = .ok a.isNone w ∧ (Op.equalIn (d + 1) t (.pointer a) (.pointer none)).run P w = .ok a.isNone w := by
  constructor
  · simp [Op.equalIn, run_underlying hu]
  · cases a <;> simp [Op.equalIn, run_underlying hu]
theorem run_eqPtr {P : Program} {t : TypeId} {e : TypeId} (hu : P.underlying t = some (.pointer e)) (a : Option Addr) (w : World) :
    (Op.equal t (.pointer none) (.pointer a)).run P w = .ok a.isNone w ∧ (Op.equal t (.pointer a) (.pointer none)).run P w = .ok a.isNone w :=
  run_eqIn_ptr hu a w 9999
theorem run_eqIn_slice {P : Program} {t : TypeId} {e : TypeId} (hu : P.underlying t = some (.slice e)) (a : Addr) (l c : Nat) (w : World) (d : Nat) :
    (Op.equalIn (d + 1) t (.slice (some a) l c) (.slice none 0 0)).run P w = .ok false w := by
  simp [Op.equalIn, run_underlying hu]
theorem run_eqSlice {P : Program} {t : TypeId} {e : TypeId} (hu : P.underlying t = some (.slice e)) (a : Addr) (l c : Nat) (w : World) :
    (Op.equal t (.slice (some a) l c) (.slice none 0 0)).run P w = .ok false w := run_eqIn_slice hu a l c w 9999
theorem run_eqIn_map {P : Program} {t : TypeId} {k e : TypeId} (hu : P.underlying t = some (.map k e)) (a : Nat) (w : World) (d : Nat) :
    (Op.equalIn (d + 1) t (.map (some a)) (.map none)).run P w = .ok false w := by
  simp [Op.equalIn, run_underlying hu]
theorem run_eqMap {P : Program} {t : TypeId} {k e : TypeId} (hu : P.underlying t = some (.map k e)) (a : Nat) (w : World) :
    (Op.equal t (.map (some a)) (.map none)).run P w = .ok false w := run_eqIn_map hu a w 9999

theorem evBin_sound {P : Program} {m : Mp} {op : BinOp} {t : TypeId} {xo yo : Operand} {x y x' y' v : Value} (h : evBin P op t xo yo x y = some v) (hx : VRel m x x') (hy : VRel m y y') :
    ∃ v', (∀ w, (do eqGuard op t xo yo x' y'; binOp op t x' y' : Sem Value).run P w = .ok v' w) ∧ VRel m v v' := by
  unfold evBin at h
  split at h
  · rename_i hf
    simp only [Bool.and_eq_true] at hf
    rw [hx.flat_eq hf.1, hy.flat_eq hf.2]
    exact ⟨v, prunS_sound h⟩
  all_goals first
    | (cases hx; cases hy
       cases hp : evBin.tPtr P t with
       | false => rw [hp] at h; simp at h
       | true =>
         rw [hp] at h; simp at h; subst h
         obtain ⟨e, hu⟩ := tPtr_spec hp
         refine ⟨_, fun w => ?_, .bool _⟩
         simp [eqGuard, binOp, (run_eqPtr hu _ w).1, (run_eqPtr hu _ w).2]
         done)
    | (cases hx; cases hy
       cases hp : (tSliceElem P t).isSome with
       | false => rw [hp] at h; simp at h
       | true =>
         rw [hp] at h; simp at h; subst h
         obtain ⟨e, he⟩ := Option.isSome_iff_exists.1 hp
         have hu := tSliceElem_spec he
         refine ⟨_, fun w => ?_, .bool _⟩
         simp [eqGuard, binOp, run_eqSlice hu]
         done)
    | (cases hx; cases hy
       cases hp : (tMap P t).isSome with
       | false => rw [hp] at h; simp at h
       | true =>
         rw [hp] at h; simp at h; subst h
         obtain ⟨⟨k, e⟩, he⟩ := Option.isSome_iff_exists.1 hp
         have hu := tMap_spec he
         refine ⟨_, fun w => ?_, .bool _⟩
         simp [eqGuard, binOp, run_eqMap hu]
         done)
    | (cases h; done)

/-! ### all of them -/
theorem execOp_builtin (ρ : Operand → Value) (b : Builtin) (c : Call) (o : Oper) (ho : o.op = .call c) (hc : c.callee = .builtin b) :
    execOp ρ o = builtin b c.argTypes o.type (c.args.map fun | .const _ => true | _ => false) (c.args.map ρ) := by
  unfold execOp
  simp only [ho, resolve, hc]
  rfl

theorem toArray_map {c : Array Operand} {ρ : Operand → Value} {l : List Value} (h : l = c.toList.map ρ) : c.map ρ = l.toArray := by
  apply Array.toList_inj.1; simp [h]

theorem evPureCall_sound {P : Program} {m : Mp} {nt : Nat} {fr : Fr} {a : Act} (hf : FrRel m nt fr a.tmps) {o : Oper} {c : Call} {v : Value} (h : evPureCall P fr c o.type = some v) (ho : o.op = .call c) :
    ∃ v', (∀ w, (execOp a.eval o).run P w = .ok (.value v') w) ∧ VRel m v v' := by
  unfold evPureCall at h
  split at h
  · rename_i hc
    split at h
    · rename_i x t ts hargs htys
      simp only [Option.bind_eq_some_iff] at h
      obtain ⟨x1, hx, h⟩ := h
      have hr := ev1_sound hf hx
      have e1 : c.args.map a.eval = #[a.eval x] := toArray_map (l := [a.eval x]) (by simp [hargs])
      have e2 : c.argTypes[0]? = some t := by rw [← Array.getElem?_toList, htys]; rfl
      split at h
      · generalize he : a.eval x = x' at hr e1
        cases hr
        rename_i s
        cases hs : (tString P t == some true) with
        | false => rw [hs] at h; simp at h
        | true =>
          rw [hs] at h; simp at h hs; subst h
          refine ⟨_, fun w => ?_, .int _ _⟩
          rw [execOp_builtin _ _ _ _ ho hc, e1]
          simp [builtin, Builtin.len_, e2, run_underlying (tString_spec hs)]
          rfl
      · rename_i sl n cap
        generalize he : a.eval x = x' at hr e1
        obtain ⟨a2, c2, rfl⟩ : ∃ a2 c2, x' = .slice a2 n c2 := by cases hr <;> exact ⟨_, _, rfl⟩
        cases hs : (tSliceElem P t) with
        | none => rw [hs] at h; simp at h
        | some e =>
          rw [hs] at h; simp at h; subst h
          refine ⟨_, fun w => ?_, .int _ _⟩
          rw [execOp_builtin _ _ _ _ ho hc, e1]
          simp [builtin, Builtin.len_, e2, run_underlying (tSliceElem_spec hs)]
          rfl
      · cases h
    · cases h
  · rename_i hc
    simp only [Option.bind_eq_some_iff] at h
    obtain ⟨vs, hvs, h⟩ := h
    cases hs : vs.all scal with
    | false => rw [hs] at h; simp at h
    | true =>
      rw [hs] at h; simp only [cond_true] at h
      have e := (evs_sound hf hvs).scal_eq hs
      obtain ⟨h1, h2⟩ := prunS_sound (m := m) h
      refine ⟨v, fun w => ?_, h2⟩
      rw [execOp_builtin _ _ _ _ ho hc, toArray_map e.symm]
      simp [builtin, h1 w]
  · rename_i hc
    simp only [Option.bind_eq_some_iff] at h
    obtain ⟨vs, hvs, h⟩ := h
    cases hs : vs.all scal with
    | false => rw [hs] at h; simp at h
    | true =>
      rw [hs] at h; simp only [cond_true] at h
      have e := (evs_sound hf hvs).scal_eq hs
      obtain ⟨h1, h2⟩ := prunS_sound (m := m) h
      refine ⟨v, fun w => ?_, h2⟩
      rw [execOp_builtin _ _ _ _ ho hc, toArray_map e.symm]
      simp [builtin, h1 w]
  · cases h

theorem opt_sound {m : Mp} {nt : Nat} {fr : Fr} {a : Act} (h : FrRel m nt fr a.tmps) {x : Option Operand} {v : Option Value} (e : evPure.opt fr x = some v) : VO m v (x.map a.eval) := by
  cases x with
  | none => simp [evPure.opt] at e; subst e; exact .none
  | some x =>
    simp only [evPure.opt, Option.map_eq_some_iff] at e
    obtain ⟨u, e1, rfl⟩ := e
    exact .some (ev1_sound h e1)

theorem scals_of {m : Mp} {l l' : List Value} (h : VL m l l') (hs : l.all scal = true) : l' = l := h.scal_eq hs

theorem tIface_spec {P : Program} {t : TypeId} (h : (tIface P t == some false) = true) : ∃ d, P.underlying t = some d ∧ ∀ ms, d ≠ .interface ms := by
  simp only [beq_iff_eq] at h
  unfold tIface at h
  rw [Option.map_eq_some_iff] at h
  obtain ⟨d, hd, hb⟩ := h
  exact ⟨d, hd, fun ms e => by subst e; simp at hb⟩

theorem evPure_sound {P : Program} {m : Mp} {nt : Nat} {fr : Fr} {a : Act} (hf : FrRel m nt fr a.tmps) {o : Oper} {v : Value} (h : evPure P fr o = some v) :
    ∃ v', (∀ w, (execOp a.eval o).run P w = .ok (.value v') w) ∧ VRel m v v' := by
  unfold evPure at h
  split at h
  · rename_i x ho; exact ⟨_, fun w => by simp [execOp, ho], ev1_sound hf h⟩
  · rename_i x ho; exact ⟨_, fun w => by simp [execOp, ho], ev1_sound hf h⟩
  · rename_i c x y ho
    simp only [Option.bind_eq_some_iff] at h
    obtain ⟨cv, hc, h⟩ := h
    have hcr := ev1_sound hf hc
    generalize e : a.eval c = c' at hcr
    split at h
    · cases hcr with
      | bool => exact ⟨_, fun w => by simp [execOp, ho, e, asBool], ev1_sound hf h⟩
    · cases hcr with
      | bool => exact ⟨_, fun w => by simp [execOp, ho, e, asBool], ev1_sound hf h⟩
    · cases h
  · rename_i t parts ho
    simp only [Option.bind_eq_some_iff] at h
    obtain ⟨ps, hp, h⟩ := h
    obtain ⟨v', h1, h2⟩ := evBuild_sound h (evParts_sound hf hp)
    refine ⟨v', fun w => ?_, h2⟩
    have h1 := h1 w
    have e : (parts.toList.map fun (x : Nat × Operand) => (x.1, a.eval x.2)).toArray = parts.map fun (x : Nat × Operand) => (x.1, a.eval x.2) := by
      apply Array.toList_inj.1; simp
    simp only [e] at h1
    simp [execOp, ho, h1]
  · rename_i x ho
    simp only [Option.bind_eq_some_iff] at h
    obtain ⟨u, hu, h⟩ := h
    have hr := ev1_sound hf hu
    generalize e : a.eval x = x' at hr
    split at h
    · simp at h; subst h
      cases hr with
      | ptr hL => exact ⟨_, fun w => by simp [execOp, ho, e], .ptr hL⟩
    · cases h
  · rename_i op t x y yt ho
    simp only [Option.bind_eq_some_iff] at h
    obtain ⟨x1, hx, y1, hy, h⟩ := h
    obtain ⟨v', h1, h2⟩ := evBin_sound h (ev1_sound hf hx) (ev1_sound hf hy)
    refine ⟨v', fun w => ?_, h2⟩
    have h1 := h1 w
    simp only [Sem.run_bind] at h1
    cases hg : (eqGuard op t x y (a.eval x) (a.eval y)).run P w with
    | ok u w1 => rw [hg] at h1; simp at h1; simp [execOp, ho, hg, h1]
    | halt u w1 => rw [hg] at h1; simp at h1
  · rename_i op t x ho
    simp only [Option.bind_eq_some_iff] at h
    obtain ⟨x1, hx, h⟩ := h
    cases hs : scal x1 with
    | false => rw [hs] at h; simp at h
    | true =>
      rw [hs] at h; simp only [cond_true] at h
      have e := (ev1_sound hf hx).scal_eq hs
      obtain ⟨h1, h2⟩ := prunS_sound (m := m) h
      exact ⟨v, fun w => by simp [execOp, ho, e, h1 w], h2⟩
  · rename_i s d x ho
    simp only [Option.bind_eq_some_iff] at h
    obtain ⟨x1, hx, h⟩ := h
    cases hs : scal x1 with
    | false => rw [hs] at h; simp at h
    | true =>
      rw [hs] at h; simp only [cond_true] at h
      have e := (ev1_sound hf hx).scal_eq hs
      obtain ⟨h1, h2⟩ := prunS_sound (m := m) h
      exact ⟨v, fun w => by simp [execOp, ho, e, h1 w], h2⟩
  · rename_i t x ho
    simp only [Option.bind_eq_some_iff] at h
    obtain ⟨x1, hx, h⟩ := h
    cases hs : (tIface P t == some false) with
    | false => rw [hs] at h; simp at h
    | true =>
      rw [hs] at h; simp at h; subst h
      obtain ⟨d, hd, hn⟩ := tIface_spec hs
      refine ⟨_, fun w => ?_, .iface (ev1_sound hf hx)⟩
      have : (Instr.makeInterface t (a.eval x)).run P w = .ok (.iface t (a.eval x)) w := by
        simp only [Instr.makeInterface, Sem.run_bind, run_underlying hd, Result.andThen_ok]
        cases d <;> first | rfl | exact absurd rfl (hn _)
      simp [execOp, ho, this]
  · rename_i f first captured ho
    simp only [Option.bind_eq_some_iff, Option.some.injEq] at h
    obtain ⟨fs, hfs, cs, hcs, rfl⟩ := h
    refine ⟨.func (.func f) (first.map a.eval) (captured.map a.eval), fun w => by simp [execOp, ho, Instr.makeFunc], .func ?_ ?_⟩
    · simpa using evs_sound hf hfs
    · simpa using evs_sound hf hcs
  · rename_i t x i ho
    simp only [Option.bind_eq_some_iff] at h
    obtain ⟨x1, hx, h⟩ := h
    obtain ⟨v', h1, h2⟩ := evFieldAddr_sound h (ev1_sound hf hx)
    exact ⟨v', fun w => by simp [execOp, ho, h1 w], h2⟩
  · rename_i t x i ho
    simp only [Option.bind_eq_some_iff] at h
    obtain ⟨x1, hx, h⟩ := h
    obtain ⟨v', h1, h2⟩ := evField_sound h (ev1_sound hf hx)
    exact ⟨v', fun w => by simp [execOp, ho, h1 w], h2⟩
  · rename_i t x i ho
    simp only [Option.bind_eq_some_iff] at h
    obtain ⟨x1, hx, y1, hy, h⟩ := h
    obtain ⟨v', h1, h2⟩ := evIndexAddr_sound h (ev1_sound hf hx) (ev1_sound hf hy)
    exact ⟨v', fun w => by simp [execOp, ho, h1 w], h2⟩
  · rename_i t x i ho
    simp only [Option.bind_eq_some_iff] at h
    obtain ⟨x1, hx, y1, hy, h⟩ := h
    obtain ⟨v', h1, h2⟩ := evIndex_sound h (ev1_sound hf hx) (ev1_sound hf hy)
    exact ⟨v', fun w => by simp [execOp, ho, h1 w], h2⟩
  · rename_i t x lo hi mx ho
    simp only [Option.bind_eq_some_iff] at h
    obtain ⟨x1, hx, lo1, hlo, hi1, hhi, mx1, hmx, h⟩ := h
    obtain ⟨v', h1, h2⟩ := evSlice_sound h (ev1_sound hf hx) (opt_sound hf hlo) (opt_sound hf hhi) (opt_sound hf hmx)
    exact ⟨v', fun w => by simp [execOp, ho, h1 w], h2⟩
  · rename_i x i ho
    simp only [Option.bind_eq_some_iff] at h
    obtain ⟨x1, hx, h⟩ := h
    have hr := ev1_sound hf hx
    split at h
    · generalize he : a.eval x = x' at hr
      cases hr with
      | tuple hr =>
        obtain ⟨v', h1, h2⟩ := hr.getElem? i (by simpa using h)
        refine ⟨v', fun w => ?_, h2⟩
        simp at h1
        simp [execOp, ho, he, Instr.extract, h1]
    · cases h
  · rename_i c ho
    exact evPureCall_sound hf h ho
  · cases h

end Go.Ev
