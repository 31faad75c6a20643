/- Texts joined: what the claim needs of them. No condition. -/
import Derived.Test.YtncmgiddcefpcaaDoorBin4
import Derived.Test.YtncmgiddcefpcaaDoorProg
import Derived.Test.YtncmgiddcefpcaaDoorEvM2
import Derived.Test.YtncmgiddcefpcaaDoorEvM3
namespace Go.Con
open Go
set_option linter.unusedSimpArgs false
set_option linter.unusedVariables false
def nmD (i : Nat) : ByteArray := ⟨#[110, UInt8.ofNat (48 + i / 10), UInt8.ofNat (48 + i % 10)]⟩
theorem nmD_may : ∀ i, i < 100 → mayN (nmD i) = true := by decide +kernel
theorem nmD_inj : ∀ i, i < 100 → ∀ j, j < i → nmD j ≠ nmD i := by decide +kernel
def dirB : Bn := ⟨2, 0, 0, ByteArray.empty, false, [], noBk⟩
structure TdI (T : Hi) (ins : List Nat) (up : List Int) (gone : List Bool) (i : Nat) : Prop where
  ok : T.Ok
  ni : ins.length = T.D.length
  nu : up.length = T.D.length
  ng : gone.length = T.D.length
  is : ∀ (k : Nat) (g : Bool), gone[k]? = some g → T.is k = !g
  cnt : ∀ (k : Nat) (x : Nat), ins[k]? = some x → x = T.count k
  ups : ∀ (k : Nat) (x : Int), up[k]? = some x → x < 0 ∨ ∃ a : Nat, x = a ∧ a < T.D.length
  ent : ∀ e ∈ T.L, (T.br e.id).kind = 2 ∧ ∃ k : Nat, (T.br e.id).dir = k ∧ 1 ≤ k ∧ gone[k]? = some false ∧ up[k]? = some e.dir
  uniq : ∀ e ∈ T.L, ∀ e' ∈ T.L, (T.br e.id).dir = (T.br e'.id).dir → e = e'
  nm : ∀ e ∈ T.L, ∃ j, j < i ∧ e.name = nmD j
  few : T.Few i
  one : 1 ≤ T.D.length
  dl : T.D.length ≤ i + 1
theorem td_new : TdI newHi [0] [-1] [false] 0 where
  ok := Hi.newHi_ok
  ni := rfl
  nu := rfl
  ng := rfl
  is := fun k g h => by
    cases k with
    | zero => simp at h; subst h; rfl
    | succ k => simp at h
  cnt := fun k x h => by
    cases k with
    | zero => simp at h; subst h; rfl
    | succ k => simp at h
  ups := fun k x h => by
    cases k with
    | zero => simp at h; left; omega
    | succ k => simp at h
  ent := by simp [newHi]
  uniq := by simp [newHi]
  nm := by simp [newHi]
  few := Hi.newHi_few
  one := by simp [newHi]
  dl := by simp [newHi]
section
variable {T : Hi} {ins : List Nat} {up : List Int} {gone : List Bool} {i : Nat}
theorem TdI.next (t : TdI T ins up gone i) : TdI T ins up gone (i + 1) :=
  { t with nm := fun e he => by obtain ⟨j, h1, h2⟩ := t.nm e he; exact ⟨j, by omega, h2⟩, few := t.few.mono (Nat.le_succ _), dl := by have := t.dl; omega }
theorem td_no (t : TdI T ins up gone i) {k : Nat} (hg : gone[k]? = some true) (n : ByteArray) : T.add k n dirB = (T, 0, 4) := by
  have : T.is k = false := t.is k true hg
  unfold Hi.add Hi.why
  rw [if_pos this, if_neg (by decide)]
theorem td_add (t : TdI T ins up gone i) (hi : i < 100) {k : Nat} (hg : gone[k]? = some false) {x : Nat} (hx : ins[k]? = some x) : (T.add k (nmD i) dirB).2 = ((T.D.length : Int), 0) ∧ TdI (T.add k (nmD i) dirB).1 (ins.set k (x + 1) ++ [0]) (up ++ [(k : Int)]) (gone ++ [false]) (i + 1) := by
  have hk : k < T.D.length := by rw [← t.ng]; exact (List.getElem?_eq_some_iff.1 hg).1
  have his : T.is k = true := t.is k false hg
  have hget : T.get k (nmD i) = none := by
    cases h : T.get k (nmD i) with
    | none => rfl
    | some id =>
      obtain ⟨e, he, hkey, _⟩ := Hi.get_some h
      obtain ⟨j, hj, hn⟩ := t.nm e he
      have : e.name = nmD i := congrArg Prod.snd hkey
      exact absurd (hn.symm.trans this) (nmD_inj i hi j hj)
  have hw : T.why k (nmD i) dirB = 0 := by
    unfold Hi.why
    rw [if_neg (by simp [his]), if_neg (by simp [nmD_may i hi]), hget, if_neg (by simp)]
    rfl
  have hadd : T.add k (nmD i) dirB = (T.added k (nmD i) dirB, (T.D.length : Int), (0 : Int)) := by unfold Hi.add; rw [if_pos hw]; rfl
  rw [hadd]
  refine ⟨rfl, ?_⟩
  have hD : (T.added k (nmD i) dirB) = ⟨T.B ++ [T.clean dirB], T.L ++ [⟨k, T.B.length, nmD i⟩], T.D ++ [true]⟩ := rfl
  have old : ∀ e ∈ T.L, (T.added k (nmD i) dirB).br e.id = T.br e.id := fun e he => by rw [hD]; exact Hi.br_snoc (t.ok.ids e he)
  have newb : (T.added k (nmD i) dirB).br T.B.length = T.clean dirB := by rw [hD]; exact Hi.br_new
  have hdl : (T.added k (nmD i) dirB).D.length = T.D.length + 1 := by rw [hD]; simp
  exact {
    ok := t.ok.added hw
    ni := by rw [hdl]; simp [t.ni]
    nu := by rw [hdl]; simp [t.nu]
    ng := by rw [hdl]; simp [t.ng]
    is := fun j g h => by
      rw [hD, Hi.is_snoc]
      by_cases hj : j = T.D.length
      · subst hj
        rw [← t.ng] at h
        simp at h
        rw [if_pos rfl, h]; rfl
      · rw [if_neg (by omega)]
        have hlt : j < gone.length := by
          have := (List.getElem?_eq_some_iff.1 h).1
          simp at this; have := t.ng; omega
        rw [List.getElem?_append_left hlt] at h
        exact t.is j g h
    cnt := fun j y h => by
      have cs : (T.added k (nmD i) dirB).count j = T.count j + if (k : Int) = j then 1 else 0 := by rw [hD]; exact Hi.count_snoc (B := T.B) (L := T.L) (D := T.D) (e := ⟨k, T.B.length, nmD i⟩) _ _ _
      show y = (T.added k (nmD i) dirB).count j
      rw [cs]
      by_cases hj : j < ins.length
      · rw [List.getElem?_append_left (by simpa using hj), List.getElem?_set] at h
        by_cases hkj : k = j
        · subst hkj
          rw [if_pos rfl, if_pos (by omega)] at h
          have := t.cnt k x hx
          simp only [Option.some.injEq] at h
          rw [if_pos rfl]; omega
        · rw [if_neg hkj] at h
          have := t.cnt j y h
          rw [if_neg (by omega)]; omega
      · have hj2 : j = ins.length := by
          have := (List.getElem?_eq_some_iff.1 h).1
          simp at this; omega
        subst hj2
        simp at h
        have hz : T.count (ins.length : Int) = 0 := by
          have : ¬ 0 < T.count (ins.length : Int) := fun hp => by
            obtain ⟨e, he, hd⟩ := Hi.count_pos.1 hp
            have h2 := t.ok.dirs e he
            rw [hd] at h2
            unfold Hi.is at h2
            rw [t.ni] at h2
            simp at h2
          omega
        rw [if_neg (by have := t.ni; omega)]
        omega
    ups := fun j y h => by
      rw [hdl]
      by_cases hj : j < up.length
      · rw [List.getElem?_append_left hj] at h
        rcases t.ups j y h with h | ⟨a, h1, h2⟩
        · exact .inl h
        · exact .inr ⟨a, h1, by omega⟩
      · have hj2 : j = up.length := by
          have := (List.getElem?_eq_some_iff.1 h).1
          simp at this; omega
        subst hj2
        simp at h
        exact .inr ⟨k, h.symm, by omega⟩
    ent := fun e he => by
      rcases List.mem_append.1 he with he | he
      · rw [old e he]
        obtain ⟨h1, j, h2, h3, h4, h5⟩ := t.ent e he
        exact ⟨h1, j, h2, h3, by rw [List.getElem?_append_left (List.getElem?_eq_some_iff.1 h4).1]; exact h4, by rw [List.getElem?_append_left (List.getElem?_eq_some_iff.1 h5).1]; exact h5⟩
      · rw [List.mem_singleton.1 he]
        show ((T.added k (nmD i) dirB).br T.B.length).kind = 2 ∧ _
        rw [newb]
        refine ⟨rfl, T.D.length, rfl, t.one, ?_, ?_⟩
        · rw [← t.ng]; simp
        · rw [← t.nu]; simp
    uniq := fun e he e' he' h => by
      have lt : ∀ e ∈ T.L, (T.br e.id).dir < T.D.length := fun e he => (t.ok.subs e he (t.ent e he).1).2
      rcases List.mem_append.1 he with he | he <;> rcases List.mem_append.1 he' with he' | he'
      · rw [old e he, old e' he'] at h; exact t.uniq e he e' he' h
      · rw [List.mem_singleton.1 he'] at h
        rw [old e he] at h
        have h2 : ((T.added k (nmD i) dirB).br T.B.length).dir = T.D.length := by rw [newb]; rfl
        have h : (T.br e.id).dir = ((T.added k (nmD i) dirB).br T.B.length).dir := h
        have := lt e he
        omega
      · rw [List.mem_singleton.1 he] at h
        rw [old e' he'] at h
        have h2 : ((T.added k (nmD i) dirB).br T.B.length).dir = T.D.length := by rw [newb]; rfl
        have h : ((T.added k (nmD i) dirB).br T.B.length).dir = (T.br e'.id).dir := h
        have := lt e' he'
        omega
      · rw [List.mem_singleton.1 he, List.mem_singleton.1 he']
    nm := fun e he => by
      rcases List.mem_append.1 he with he | he
      · obtain ⟨j, h1, h2⟩ := t.nm e he; exact ⟨j, by omega, h2⟩
      · rw [List.mem_singleton.1 he]; exact ⟨i, by omega, rfl⟩
    few := by have := t.few.add k (nmD i) dirB; rw [hadd] at this; exact this
    one := by rw [hdl]; omega
    dl := by rw [hdl]; have := t.dl; omega }
theorem td_del (t : TdI T ins up gone i) {k a : Nat} {s : ByteArray} {b : Bn} (hl : T.look a s = some b) (hb : b.dir = k) (hu : up[k]? = some (a : Int)) {x : Nat} (hx : ins[k]? = some x) {y : Nat} (hy : ins[a]? = some y) :
    if x = 0 then (T.delete a s).2.2 = 0 ∧ 1 ≤ y ∧ TdI (T.delete a s).1 (ins.set a (y - 1)) up (gone.set k true) i else (T.delete a s).1 = T ∧ (T.delete a s).2.2 = 16 := by
  unfold Hi.look at hl
  obtain ⟨id, hg, rfl⟩ := Option.map_eq_some_iff.1 hl
  obtain ⟨e, he, hkey, hid⟩ := Hi.get_some hg
  subst hid
  have hed : e.dir = a := congrArg Prod.fst hkey
  have hen : e.name = s := congrArg Prod.snd hkey
  obtain ⟨hkind, k', hk', hk1, hgk, huk⟩ := t.ent e he
  have hkk : k' = k := by rw [hb] at hk'; omega
  subst hkk
  have hcx := t.cnt k' x hx
  have hkn : k' < T.D.length := by rw [← t.ng]; exact (List.getElem?_eq_some_iff.1 hgk).1
  by_cases h0 : x = 0
  · rw [if_pos h0]
    have hc : T.count (T.br e.id).dir = 0 := by rw [hk']; omega
    have hdel : T.delete a s = (T.gone e.id, T.br e.id, (0 : Int)) := by
      unfold Hi.delete
      rw [hg]
      show (if _ then _ else _) = _
      rw [if_neg (by rintro ⟨_, h⟩; omega)]
    rw [hdel]
    have hL : (T.gone e.id).L = (T.taken e.dir e.name).L := by
      show T.L.filter _ = T.L.filter _
      refine List.filter_congr fun z hz => ?_
      by_cases hze : z = e
      · subst hze; simp [En.key]
      · have h1 : z.id ≠ e.id := fun h => hze (t.uniq z hz e he (by rw [h]))
        have h2 : ¬ z.key = (e.dir, e.name) := fun h => hze (t.ok.uniq hz he h)
        simp [h1, h2]
    have hcnt : ∀ d, T.count d = (T.gone e.id).count d + if e.dir = d then 1 else 0 := fun d => by
      rw [(t.ok.take he).2.2.1 d]
      have : (T.gone e.id).count d = (T.taken e.dir e.name).count d := by unfold Hi.count; rw [hL]
      rw [this]
    have hDl : (T.gone e.id).D = T.D.set k' false := by
      unfold Hi.gone
      rw [if_pos hkind, hk']; rfl
    have hdl : (T.gone e.id).D.length = T.D.length := by rw [hDl, List.length_set]
    have hbr : ∀ j, (T.gone e.id).br j = T.br j := fun j => rfl
    have sub : ∀ z ∈ (T.gone e.id).L, z ∈ T.L ∧ z.id ≠ e.id := fun z hz => by
      have := List.mem_filter.1 hz
      exact ⟨this.1, by simpa using this.2⟩
    have hya := t.cnt a y hy
    have hca := hcnt a
    rw [if_pos hed] at hca
    refine ⟨rfl, by omega, ?_⟩
    exact {
      ok := (t.ok.gone hg fun _ => hc).1
      ni := by rw [hdl, List.length_set]; exact t.ni
      nu := by rw [hdl]; exact t.nu
      ng := by rw [hdl, List.length_set]; exact t.ng
      is := fun j g h => by
        have e1 : (T.gone e.id).is j = if (j : Int) = (k' : Int) then false else T.is j := by
          have := Hi.is_set (T := T) (B := (T.gone e.id).B) (L := (T.gone e.id).L) (x := (k' : Int)) (by omega) (j : Int)
          rw [← this]
          unfold Hi.is
          rw [hDl]; rfl
        rw [e1]
        rw [List.getElem?_set] at h
        by_cases hj : k' = j
        · subst hj
          rw [if_pos rfl, if_pos (by rw [t.ng]; exact hkn)] at h
          simp at h
          rw [if_pos rfl, h]; rfl
        · rw [if_neg hj] at h
          rw [if_neg (by omega)]
          exact t.is j g h
      cnt := fun j z h => by
        have := hcnt j
        show z = (T.gone e.id).count j
        rw [List.getElem?_set] at h
        by_cases hj : a = j
        · subst hj
          rw [if_pos rfl, if_pos (List.getElem?_eq_some_iff.1 hy).1] at h
          simp at h
          rw [if_pos hed] at this
          omega
        · rw [if_neg hj] at h
          have h2 := t.cnt j z h
          rw [if_neg (by omega)] at this
          omega
      ups := fun j z h => by rw [hdl]; exact t.ups j z h
      ent := fun z hz => by
        obtain ⟨h1, h2⟩ := sub z hz
        rw [hbr]
        obtain ⟨g1, j, g2, g3, g4, g5⟩ := t.ent z h1
        refine ⟨g1, j, g2, g3, ?_, g5⟩
        rw [List.getElem?_set, if_neg]
        · exact g4
        · rintro rfl
          exact h2 (by rw [t.uniq z h1 e he (by rw [g2, hk'])])
      uniq := fun z hz z' hz' h => t.uniq z (sub z hz).1 z' (sub z' hz').1 h
      nm := fun z hz => t.nm z (sub z hz).1
      few := ⟨Nat.le_trans (List.length_filter_le _ _) t.few.1, t.few.2⟩
      one := by rw [hdl]; exact t.one
      dl := by rw [hdl]; exact t.dl }
  · rw [if_neg h0]
    have : 0 < T.count (T.br e.id).dir := by rw [hk']; omega
    have hdel : T.delete a s = (T, noBn, (16 : Int)) := by
      unfold Hi.delete
      rw [hg]
      show (if _ then _ else _) = _
      rw [if_pos ⟨hkind, this⟩]
    rw [hdel]; exact ⟨rfl, rfl⟩
end
end Go.Con
namespace Go.Proofs.YtncmgiddcefpcaaDoor
open Go Go.Ev Go.Con
set_option linter.unusedSimpArgs false
set_option linter.unusedVariables false
set_option maxRecDepth 100000
def keyK (p : Int × ByteArray) : Value := .agg #[.int .i64 p.1, .string p.2]
theorem eqIn_int {P : Program} {t : TypeId} {k : IntKind} (ht : P.underlying t = some (.int k)) (n : Nat) (a b : Int) : prun P (Op.equalIn (n + 1) t (.int k a) (.int k b)) = some (decide (a = b)) := by
  unfold Op.equalIn
  rw [prun_bind, prun_underlying ht, Option.bind_some]
  simp only [if_true]
  show some (a == b) = _
  rfl
theorem eqIn_string {P : Program} {t : TypeId} (ht : P.underlying t = some .string) (n : Nat) (a b : ByteArray) : prun P (Op.equalIn (n + 1) t (.string a) (.string b)) = some (decide (a = b)) := by
  unfold Op.equalIn
  rw [prun_bind, prun_underlying ht, Option.bind_some]
  show some (a == b) = _
  congr 1
  rw [Bool.eq_iff_iff, decide_eq_true_eq]
  show (a.data == b.data) = true ↔ _
  rw [beq_iff_eq]
  exact ⟨fun h => by cases a; cases b; simp_all, fun h => by rw [h]⟩
def fieldsEq (P : Program) (n : Nat) (xs ys : Array Value) : List Field → Option Bool
  | [] => some true
  | f :: fs => if f.name ≠ "_" then (prun P (part f.type xs f.offset)).bind fun a => (prun P (part f.type ys f.offset)).bind fun b => (prun P (Op.equalIn n f.type a b)).bind fun c => bif c then fieldsEq P n xs ys fs else some false
    else fieldsEq P n xs ys fs
theorem prun_pure {α : Type} {P : Program} (a : α) : prun P (pure a : Sem α) = some a := rfl
theorem eqIn_struct {P : Program} {t : TypeId} {fs : Array Field} (ht : P.underlying t = some (.struct fs)) (hs : P.stoodInHeld t = false) (n : Nat) (xs ys : Array Value) {r : Bool} (h : fieldsEq P n xs ys fs.toList = some r) :
    prun P (Op.equalIn (n + 1) t (.agg xs) (.agg ys)) = some r := by
  unfold Op.equalIn
  rw [prun_bind, prun_underlying ht, Option.bind_some]
  simp only
  have h0 : prun P Go.program = some P := rfl
  rw [prun_bind, h0, Option.bind_some, hs]
  simp only [Bool.false_eq_true, if_false]
  rw [prun_bind, ← Array.forIn_toList]
  have loop : ∀ (l : List Field) (r : Bool), fieldsEq P n xs ys l = some r → prun P (forIn l ((none : Option Bool), ()) fun f __s =>
      if f.name ≠ "_" then do
        let __do_lift ← part f.type xs f.offset
        let __do_lift_1 ← part f.type ys f.offset
        let __do_lift ← Op.equalIn n f.type __do_lift __do_lift_1
        if (!__do_lift) = true then pure (ForInStep.done (some false, ()))
          else pure (ForInStep.yield (none, ()))
      else pure (ForInStep.yield (none, ()))) = some (bif r then (none, ()) else (some false, ())) := by
    intro l
    induction l with
    | nil => intro r hr; cases hr; rfl
    | cons f l ih =>
      intro r hr
      rw [List.forIn_cons, prun_bind]
      unfold fieldsEq at hr
      by_cases hn : f.name ≠ "_"
      · rw [if_pos hn] at hr ⊢
        simp only [Option.bind_eq_some_iff] at hr
        obtain ⟨a, ha, b, hb, c, hc, hr⟩ := hr
        rw [prun_bind, ha, Option.bind_some, prun_bind, hb, Option.bind_some, prun_bind, hc, Option.bind_some]
        cases c with
        | true => simp only [Bool.not_true, Bool.false_eq_true, if_false, cond_true] at hr ⊢; rw [prun_pure, Option.bind_some]; exact ih r hr
        | false => simp only [Bool.not_false, if_true, cond_false] at hr ⊢; cases hr; rfl
      · rw [if_neg hn] at hr ⊢
        rw [prun_pure, Option.bind_some]
        exact ih r hr
  rw [loop _ _ h, Option.bind_some]
  cases r <;> rfl
theorem eq_key (x y : Int × ByteArray) : prun Tryd.prog (Op.equal 153 (keyK x) (keyK y)) = some (decide (x = y)) := by
  obtain ⟨a, s⟩ := x
  obtain ⟨b, u⟩ := y
  have h1 := Tryd.underlying153
  have e1 := eqIn_int (P := Tryd.prog) (t := 3) Tryd.underlying3 9998 a b
  have e2 := eqIn_string (P := Tryd.prog) (t := 9) Tryd.underlying9 9998 s u
  refine eqIn_struct h1 (by kernel_rfl) 9999 _ _ ?_
  have p1 : ∀ (v w : Value), prun Tryd.prog (part 3 #[v, w] 0) = some v := by intro v w; kernel_rfl
  have p2 : ∀ (v w : Value), prun Tryd.prog (part 9 #[v, w] 1) = some w := by intro v w; kernel_rfl
  simp only [fieldsEq, ne_eq, String.reduceEq, not_false_eq_true, if_true, p1, p2, e1, e2, Option.bind_some]
  by_cases h : a = b <;> by_cases h' : s = u <;> simp [h, h']
theorem chk_key (b : Bool) (x : Int × ByteArray) : prun Tryd.prog (Instr.checkKey b 10000 153 (keyK x)) = some () := by
  obtain ⟨a, s⟩ := x
  kernel_rfl
theorem keyK_ok : KeyOK Tryd.prog 153 keyK :=
  keyStruct_ok Tryd.underlying153 (fun _ => rfl) chk_key eq_key (fun x => by
    simp [Instr.sameBits, keyK]
    show (x.snd.data == x.snd.data) = true
    simp)
end Go.Proofs.YtncmgiddcefpcaaDoor
namespace Go.Proofs.YtncmgiddcefpcaaDoor
open Go Go.Ev Go.RowKit
set_option linter.unusedSimpArgs false
set_option linter.unusedVariables false
set_option maxRecDepth 100000
def mask : Nat := 2 ^ 120 - 4
def sums : List (Nat × Sum) := [(75, sumSplit 9), (78, sumJoin), (127, sumCmp Lib.compareBytes), (68, sumNames 9)]
def sumAt (f : Nat) : List (Nat × Sum) → Option Sum
  | [] => none
  | (g, s) :: l => bif Nat.beq f g then some s else sumAt f l
noncomputable def ctx : Ctx := { P := Tryd.prog, mask := mask, S := fun f => sumAt f sums }
def awakes : List Nat := 22 :: 33 :: 42 :: 47 :: 50 :: 53 :: []
def sumAwake : Sum
  | [], h => some (.bool true, h)
  | _, _ => none
noncomputable def kon : Ctx := { ctx with S := fun f => bif awakes.contains f then some sumAwake else ctx.S f }
theorem awake_call {f : FuncId} (hf : kon.S f = some sumAwake) (h : Hp) (Q : Value → Hp → Prop) : callP kon f h Q [] = Q (.bool true) h := callP_of (Ret.sum hf rfl)
end Go.Proofs.YtncmgiddcefpcaaDoor
