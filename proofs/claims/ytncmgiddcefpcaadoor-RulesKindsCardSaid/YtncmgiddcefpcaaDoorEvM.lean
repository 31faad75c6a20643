/- Regions that draw their order: what is needed of the static look and of the trace. -/
import Derived.Test.YtncmgiddcefpcaaDoorEvK
import Derived.Orders
namespace Go.Ev
open Go
set_option linter.unusedSimpArgs false
set_option linter.unusedVariables false

/-! ### an operation looks at its operands alone -/
theorem evs_congr {g fr : Fr} : ∀ {l : List Operand}, (∀ x ∈ l, ev1 g x = ev1 fr x) → evs g l = evs fr l
  | [], _ => rfl
  | x :: l, h => by simp only [evs, h x (by simp), evs_congr (l := l) fun y hy => h y (by simp [hy])]
theorem evParts_congr {g fr : Fr} : ∀ {l : List (Nat × Operand)}, (∀ x ∈ l, ev1 g x.2 = ev1 fr x.2) → evParts g l = evParts fr l
  | [], _ => rfl
  | (i, x) :: l, h => by
    have h0 := h (i, x) (by simp)
    simp only at h0
    simp only [evParts, h0, evParts_congr (l := l) fun y hy => h y (by simp [hy])]
theorem opt_congr {g fr : Fr} {x : Option Operand} (h : ∀ y, x = some y → ev1 g y = ev1 fr y) : evPure.opt g x = evPure.opt fr x := by
  cases x with
  | none => rfl
  | some y => simp only [evPure.opt, h y rfl]

theorem evOp_congr {P : Program} {call : CallF} {g fr : Fr} {o : Oper} (H : ∀ x ∈ o.op.operands, ev1 g x = ev1 fr x) :
    evPure P g o = evPure P fr o ∧ (∀ h, evRead P g o h = evRead P fr o h) ∧ evNew P g o = evNew P fr o ∧ ∀ h, evEff P call g o h = evEff P call fr o h := by
  obtain ⟨dst, op, ty, pos, after, guard⟩ := o
  cases op with
  | call c =>
    obtain ⟨callee, args, ts⟩ := c
    have hargs : evs g args.toList = evs fr args.toList := evs_congr fun x hx => H x (by simp [Op.operands, Call.operands]; right; simpa using hx)
    have hl : ∀ x ∈ args.toList, ev1 g x = ev1 fr x := fun x hx => H x (by simp [Op.operands, Call.operands]; right; simpa using hx)
    have hc : ∀ f, callee = .value f → ev1 g f = ev1 fr f := fun f hf => H f (by subst hf; simp [Op.operands, Call.operands])
    refine ⟨?_, fun h => ?_, rfl, fun h => ?_⟩
    · simp only [evPure, evPureCall]
      split
      · split
        · rename_i x t ts' ha _; rw [hl x (by rw [ha]; simp)]
        · rfl
      · rw [hargs]
      · rw [hargs]
      · rfl
    · simp only [evRead, evReadCall]
      split
      · split
        · rename_i x t ts' ha _; rw [hl x (by rw [ha]; simp)]
        · rfl
      · rfl
    · simp only [evEff, evEffCall]
      split
      · split
        · rename_i x y t ts' ha _; rw [hl x (by rw [ha]; simp), hl y (by rw [ha]; simp)]
        · rfl
      · split
        · rename_i x y t u ts' ha _; rw [hl x (by rw [ha]; simp), hl y (by rw [ha]; simp)]
        · rfl
      · split
        · rename_i x y t ts' ha _; rw [hl x (by rw [ha]; simp), hl y (by rw [ha]; simp)]
        · rfl
      · rename_i f; rw [hc f rfl, hargs]
      · rfl
  | build t parts =>
    have : evParts g parts.toList = evParts fr parts.toList := evParts_congr fun x hx => H x.2 (by simp [Op.operands]; exact ⟨x.1, by simpa using hx⟩)
    exact ⟨by simp only [evPure, this], fun h => rfl, rfl, fun h => rfl⟩
  | buildSlice t n parts =>
    have : evParts g parts.toList = evParts fr parts.toList := evParts_congr fun x hx => H x.2 (by simp [Op.operands]; exact ⟨x.1, by simpa using hx⟩)
    exact ⟨rfl, fun h => rfl, by simp only [evNew, this], fun h => rfl⟩
  | makeFunc f first captured =>
    have h1 : evs g first.toList = evs fr first.toList := evs_congr fun x hx => H x (by simp [Op.operands]; left; simpa using hx)
    have h2 : evs g captured.toList = evs fr captured.toList := evs_congr fun x hx => H x (by simp [Op.operands]; right; simpa using hx)
    refine ⟨?_, fun h => rfl, rfl, fun h => rfl⟩
    cases f <;> simp only [evPure, h1, h2]
  | slice t x lo hi mx =>
    have h0 := H x (by simp [Op.operands])
    have h1 := opt_congr (g := g) (fr := fr) (x := lo) fun y hy => H y (by subst hy; simp [Op.operands])
    have h2 := opt_congr (g := g) (fr := fr) (x := hi) fun y hy => H y (by subst hy; simp [Op.operands])
    have h3 := opt_congr (g := g) (fr := fr) (x := mx) fun y hy => H y (by subst hy; simp [Op.operands])
    exact ⟨by simp only [evPure, h0, h1, h2, h3], fun h => rfl, rfl, fun h => rfl⟩
  | makeMap t r => exact ⟨rfl, fun h => rfl, rfl, fun h => rfl⟩
  | select cs b => exact ⟨rfl, fun h => rfl, rfl, fun h => rfl⟩
  | go c => exact ⟨rfl, fun h => rfl, rfl, fun h => rfl⟩
  | defer c => exact ⟨rfl, fun h => rfl, rfl, fun h => rfl⟩
  | _ =>
    simp [Op.operands] at H
    refine ⟨?_, fun h => ?_, ?_, fun h => ?_⟩ <;> first
      | rfl
      | (simp only [evPure, H]; done)
      | (simp only [evRead, H]; done)
      | (simp only [evNew, H]; done)
      | (simp only [evEff, H]; done)

/-! ### values held against each other -/
theorem all2_sound {f : Value → Value → Bool} : ∀ {l k : List Value}, (∀ a b, f a b = true → a = b) → veqF.all2 f l k = true → l = k
  | [], [], _, _ => rfl
  | a :: l, b :: k, hf, h => by
    simp only [veqF.all2, Bool.and_eq_true] at h
    rw [hf a b h.1, all2_sound hf h.2]
  | [], _ :: _, _, h => by simp [veqF.all2] at h
  | _ :: _, [], _, h => by simp [veqF.all2] at h
theorem veqF_sound : ∀ (n : Nat) (a b : Value), veqF n a b = true → a = b := by
  intro n
  induction n with
  | zero =>
    intro a b h
    cases a <;> cases b <;> simp [veqF] at h <;> first
      | rfl
      | (subst h; rfl)
      | (obtain ⟨rfl, rfl⟩ := h; rfl)
      | (obtain ⟨⟨rfl, rfl⟩, rfl⟩ := h; rfl)
      | (obtain ⟨⟨rfl, h2⟩, h3⟩ := h; rw [h2, h3])
      | (rename_i s t; cases s; cases t; simp at h; congr 1; exact congrArg _ (Array.toList_inj.1 (by simpa using h)))
      | skip
  | succ n ih =>
    intro a b h
    cases a <;> cases b <;> simp [veqF] at h <;> first
      | rfl
      | (subst h; rfl)
      | (obtain ⟨rfl, rfl⟩ := h; rfl)
      | (obtain ⟨⟨rfl, rfl⟩, rfl⟩ := h; rfl)
      | (obtain ⟨rfl, h2⟩ := h; rw [ih _ _ h2])
      | (rw [Array.toList_inj.1 (all2_sound ih h)])
      | exact congrArg Value.string (ByteArray.ext h)
      | (obtain ⟨⟨rfl, h2⟩, h3⟩ := h; rw [Array.toList_inj.1 (all2_sound ih h2), Array.toList_inj.1 (all2_sound ih h3)])
      | skip

end Go.Ev
