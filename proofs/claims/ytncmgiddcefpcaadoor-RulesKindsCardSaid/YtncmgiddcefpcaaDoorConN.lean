/- The model of the hierarchy: what its deeds do to its views. No program in sight. -/
import Derived.Test.YtncmgiddcefpcaaDoorEvMp
namespace Go.Con
open Go Go.Ev
set_option linter.unusedSimpArgs false
set_option linter.unusedVariables false
namespace Hi

theorem find_none {α : Type} {p : α → Bool} {l : List α} : l.find? p = none ↔ ∀ x ∈ l, p x = false := by
  rw [List.find?_eq_none]; simp
theorem find_congr {α : Type} {p q : α → Bool} : ∀ {l : List α}, (∀ x ∈ l, p x = q x) → l.find? p = l.find? q
  | [], _ => rfl
  | a :: l, h => by
    rw [List.find?_cons, List.find?_cons, h a (by simp), find_congr fun x hx => h x (by simp [hx])]

theorem nodup_inj {α β : Type} {f : α → β} : ∀ {l : List α}, (l.map f).Nodup → ∀ {a b : α}, a ∈ l → b ∈ l → f a = f b → a = b
  | [], _, a, b, ha, _, _ => by cases ha
  | x :: l, h, a, b, ha, hb, e => by
    simp only [List.map_cons, List.nodup_cons, List.mem_map, not_exists, not_and] at h
    rcases List.mem_cons.1 ha with ea | ma <;> rcases List.mem_cons.1 hb with eb | mb
    · rw [ea, eb]
    · exact absurd (e.symm.trans (congrArg f ea)) (h.1 b mb)
    · exact absurd (e.trans (congrArg f eb)) (h.1 a ma)
    · exact nodup_inj h.2 ma mb e

section
variable {T : Hi}
theorem get_none {k : Int × ByteArray} : T.getF k = none ↔ ∀ e ∈ T.L, e.key ≠ k := by
  unfold getF
  rw [Option.map_eq_none_iff, find_none]
  simp
theorem get_some {k : Int × ByteArray} {i : Nat} (h : T.getF k = some i) : ∃ e ∈ T.L, e.key = k ∧ e.id = i := by
  unfold getF at h
  obtain ⟨e, h1, h2⟩ := Option.map_eq_some_iff.1 h
  have h3 := List.find?_some h1
  exact ⟨e, List.mem_of_find?_eq_some h1, of_decide_eq_true h3, h2⟩
theorem Ok.uniq (ok : T.Ok) {a b : En} (ha : a ∈ T.L) (hb : b ∈ T.L) (h : a.key = b.key) : a = b :=
  nodup_inj ok.keys ha hb h
theorem Ok.get_of (ok : T.Ok) {e : En} (h : e ∈ T.L) : T.getF e.key = some e.id := by
  cases hf : T.getF e.key with
  | none => exact absurd rfl (get_none.1 hf e h)
  | some i =>
    obtain ⟨x, h1, h2, h3⟩ := get_some hf
    rw [ok.uniq h1 h h2] at h3
    rw [h3]
theorem seg_none {u : Int} : T.seg u = none ↔ ∀ e ∈ T.L, T.isSeg u e.id = false := by
  unfold seg
  rw [Option.map_eq_none_iff, find_none]
theorem seg_some {u : Int} {i : Nat} (h : T.seg u = some i) : ∃ e ∈ T.L, T.isSeg u e.id = true ∧ e.id = i := by
  unfold seg at h
  obtain ⟨e, h1, h2⟩ := Option.map_eq_some_iff.1 h
  have h3 := List.find?_some h1
  exact ⟨e, List.mem_of_find?_eq_some h1, h3, h2⟩
theorem Ok.seg_of (ok : T.Ok) {e : En} (h : e ∈ T.L) {u : Int} (hu : T.isSeg u e.id = true) : T.seg u = some e.id := by
  cases hf : T.seg u with
  | none => have := seg_none.1 hf e h; rw [hu] at this; cases this
  | some i =>
    obtain ⟨x, h1, h2, h3⟩ := seg_some hf
    simp only [isSeg, Bool.and_eq_true, decide_eq_true_eq] at hu h2
    rw [← h3, ok.uids x h1 e h h2.1 hu.1 (h2.2.trans hu.2.symm)]
theorem Ok.get_lt (ok : T.Ok) {k : Int × ByteArray} {i : Nat} (h : T.getF k = some i) : i < T.B.length := by
  obtain ⟨e, h1, _, rfl⟩ := get_some h; exact ok.ids e h1
theorem Ok.seg_lt (ok : T.Ok) {u : Int} {i : Nat} (h : T.seg u = some i) : i < T.B.length := by
  obtain ⟨e, h1, _, rfl⟩ := seg_some h; exact ok.ids e h1
theorem br_lt {i : Nat} (h : i < T.B.length) : T.br i = T.B[i] := by unfold br; rw [List.getElem?_eq_getElem h]; rfl
theorem br_snoc {B : List Bn} {L L' : List En} {D D' : List Bool} {c : Bn} {i : Nat} (h : i < B.length) : (Hi.mk (B ++ [c]) L D).br i = (Hi.mk B L' D').br i := by
  unfold br; rw [List.getElem?_append_left h]
theorem br_new {B : List Bn} {L : List En} {D : List Bool} {c : Bn} : (Hi.mk (B ++ [c]) L D).br B.length = c := by
  unfold br; simp
end

/-! ### one entry more -/
section
variable {B : List Bn} {L : List En} {D : List Bool} {e : En}
theorem getF_snoc (B' : List Bn) (D' : List Bool) (h : (Hi.mk B L D).getF e.key = none) : (Hi.mk B' (L ++ [e]) D').getF = upd (Hi.mk B L D).getF e.key (some e.id) := by
  funext k
  unfold getF upd
  simp only [List.find?_append]
  by_cases hk : k = e.key
  · subst hk
    have : L.find? (fun x => decide (x.key = e.key)) = none := by simpa [getF] using h
    rw [this]; simp
  · rw [if_neg hk]
    have : decide (e.key = k) = false := by simp; exact fun h => hk h.symm
    simp [this]
theorem count_snoc (B' : List Bn) (D' : List Bool) (d : Int) : (Hi.mk B' (L ++ [e]) D').count d = (Hi.mk B L D).count d + if e.dir = d then 1 else 0 := by
  unfold count
  simp only [List.countP_append, List.countP_singleton, decide_eq_true_eq]
theorem many_snoc (B' : List Bn) (D' : List Bool) (i : Nat) : (Hi.mk B' (L ++ [e]) D').many i = (Hi.mk B L D).many i + if e.id = i then 1 else 0 := by
  unfold many
  simp only [List.countP_append, List.countP_singleton, decide_eq_true_eq]
theorem is_snoc (B' : List Bn) (L' : List En) (d : Int) : (Hi.mk B' L' (D ++ [true])).is d = if d = D.length then true else (Hi.mk B L D).is d := by
  unfold is
  by_cases h : d = D.length
  · subst h; simp
  · rw [if_neg h]
    by_cases h0 : 0 ≤ d
    · simp only [h0, decide_true, Bool.true_and]
      by_cases hl : d.toNat < D.length
      · rw [List.getElem?_append_left hl]
      · rw [List.getElem?_append_right (by omega), List.getElem?_eq_none (show D.length ≤ d.toNat by omega)]
        have : d.toNat - D.length ≠ 0 := by omega
        cases hh : d.toNat - D.length with
        | zero => exact absurd hh this
        | succ n => simp
    · simp [h0]
/-- A name more of a branch that has names: the segments are as they were. -/
theorem seg_named (h : ∃ x ∈ L, x.id = e.id) : (Hi.mk B (L ++ [e]) D).seg = (Hi.mk B L D).seg := by
  obtain ⟨x, hx, he⟩ := h
  funext u
  unfold seg
  simp only [List.find?_append]
  have hs : ∀ i, (Hi.mk B (L ++ [e]) D).isSeg u i = (Hi.mk B L D).isSeg u i := fun _ => rfl
  simp only [hs]
  cases hf : L.find? (fun x => (Hi.mk B L D).isSeg u x.id) with
  | some y => simp
  | none =>
    have := find_none.1 hf x hx
    rw [he] at this
    simp [this]
/-- A new branch. -/
theorem seg_added {c : Bn} (ids : ∀ x ∈ L, x.id < B.length) (he : e.id = B.length) (D' : List Bool) (hn : c.kind = 1 → (Hi.mk B L D).seg c.uid = none) :
    (Hi.mk (B ++ [c]) (L ++ [e]) D').seg = if c.kind = 1 then upd (Hi.mk B L D).seg c.uid (some B.length) else (Hi.mk B L D).seg := by
  have hs : ∀ u, ∀ x ∈ L, (Hi.mk (B ++ [c]) (L ++ [e]) D').isSeg u x.id = (Hi.mk B L D).isSeg u x.id := fun u x hx => by
    unfold isSeg; rw [br_snoc (ids x hx)]
  have h1 : ∀ u, (Hi.mk (B ++ [c]) (L ++ [e]) D').isSeg u e.id = (decide (c.kind = 1) && decide (c.uid = u)) := fun u => by
    unfold isSeg; rw [he, br_new]
  funext u
  unfold seg
  simp only [List.find?_append]
  rw [find_congr (hs u)]
  by_cases hk : c.kind = 1
  · rw [if_pos hk]
    unfold upd
    by_cases hu : u = c.uid
    · subst hu
      have : L.find? (fun x => (Hi.mk B L D).isSeg c.uid x.id) = none := by simpa [seg] using hn hk
      rw [this, if_pos rfl]
      have h2 := h1 c.uid
      rw [he] at h2
      simp [h2, hk, he]
    · rw [if_neg hu]
      have : ¬ c.uid = u := fun h => hu h.symm
      simp [h1, this, seg]
  · rw [if_neg hk]
    simp [h1, hk, seg]
end

/-! ### entries less -/
section
variable {T : Hi}
theorem Ok.get_iff (ok : T.Ok) {k : Int × ByteArray} {i : Nat} : T.getF k = some i ↔ ∃ e ∈ T.L, e.key = k ∧ e.id = i :=
  ⟨get_some, fun ⟨e, h1, h2, h3⟩ => by rw [← h2, ← h3]; exact ok.get_of h1⟩
theorem Ok.seg_iff (ok : T.Ok) {u : Int} {i : Nat} : T.seg u = some i ↔ ∃ e ∈ T.L, T.isSeg u e.id = true ∧ e.id = i :=
  ⟨seg_some, fun ⟨e, h1, h2, h3⟩ => by rw [← h3]; exact ok.seg_of h1 h2⟩
theorem count_le (T : Hi) (d : Int) : T.count d ≤ T.L.length := List.countP_le_length
theorem many_le (T : Hi) (i : Nat) : T.many i ≤ T.L.length := List.countP_le_length
theorem filter_one {α β : Type} [DecidableEq β] {f : α → β} : ∀ {l : List α}, (l.map f).Nodup → ∀ {a : α}, a ∈ l → l.filter (fun x => decide (f x = f a)) = [a]
  | [], _, a, ha => by cases ha
  | x :: l, h, a, ha => by
    have h0 := h
    simp only [List.map_cons, List.nodup_cons, List.mem_map, not_exists, not_and] at h
    by_cases hx : f x = f a
    · have : x = a := nodup_inj h0 (by simp) ha hx
      subst this
      rw [List.filter_cons_of_pos (by simp)]
      congr 1
      rw [List.filter_eq_nil_iff]
      intro y hy hd
      exact h.1 y hy (of_decide_eq_true hd)
    · have hm : a ∈ l := by
        rcases List.mem_cons.1 ha with rfl | h
        · exact absurd rfl hx
        · exact h
      rw [List.filter_cons_of_neg (by simpa using hx)]
      exact filter_one h.2 hm
theorem countP_split {α : Type} (p q : α → Bool) : ∀ l : List α, l.countP p = (l.filter q).countP p + (l.filter fun x => !q x).countP p
  | [] => rfl
  | a :: l => by
    have ih := countP_split p q l
    cases hq : q a <;> cases hp : p a <;> simp [List.filter_cons, List.countP_cons, hq, hp, ih] <;> omega
/-- Fewer entries. -/
theorem Ok.less (ok : T.Ok) (p : En → Bool) : (Hi.mk T.B (T.L.filter p) T.D).Ok where
  ids := fun e he => ok.ids e (List.mem_filter.1 he).1
  keys := (List.filter_sublist.map _).nodup ok.keys
  dirs := fun e he => ok.dirs e (List.mem_filter.1 he).1
  homes := fun a ha b hb => ok.homes a (List.mem_filter.1 ha).1 b (List.mem_filter.1 hb).1
  uids := fun a ha b hb => ok.uids a (List.mem_filter.1 ha).1 b (List.mem_filter.1 hb).1
  subs := fun e he => ok.subs e (List.mem_filter.1 he).1
  few := ok.few
  root := ok.root
theorem Ok.take (ok : T.Ok) {e : En} (he : e ∈ T.L) : (T.taken e.dir e.name).Ok ∧ (T.taken e.dir e.name).getF = upd T.getF e.key none ∧ (∀ d, T.count d = (T.taken e.dir e.name).count d + if e.dir = d then 1 else 0) ∧
    (∀ i, T.many i = (T.taken e.dir e.name).many i + if e.id = i then 1 else 0) := by
  have ok' : (T.taken e.dir e.name).Ok := ok.less _
  have f1 := filter_one (f := En.key) ok.keys he
  refine ⟨ok', ?_, fun d => ?_, fun i => ?_⟩
  · funext k
    unfold upd
    by_cases hk : k = e.key
    · rw [if_pos hk, get_none]
      intro x hx
      have := (List.mem_filter.1 hx).2
      subst hk
      simp only [Bool.not_eq_true', decide_eq_false_iff_not] at this; exact this
    · rw [if_neg hk]
      apply Option.ext
      intro i
      rw [ok'.get_iff, ok.get_iff]
      constructor
      · rintro ⟨x, hx, h1, h2⟩; exact ⟨x, (List.mem_filter.1 hx).1, h1, h2⟩
      · rintro ⟨x, hx, h1, h2⟩
        refine ⟨x, List.mem_filter.2 ⟨hx, ?_⟩, h1, h2⟩
        have : x.key ≠ (e.dir, e.name) := by rw [h1]; exact hk
        simp only [Bool.not_eq_true', decide_eq_false_iff_not]; exact this
  · have := countP_split (fun x : En => decide (x.dir = d)) (fun x => decide (x.key = e.key)) T.L
    unfold count
    rw [this, f1, Nat.add_comm]
    simp only [List.countP_singleton, decide_eq_true_eq]
    rfl
  · have := countP_split (fun x : En => decide (x.id = i)) (fun x => decide (x.key = e.key)) T.L
    unfold many
    rw [this, f1, Nat.add_comm]
    simp only [List.countP_singleton, decide_eq_true_eq]
    rfl
theorem many_pos {i : Nat} : 0 < T.many i ↔ ∃ e ∈ T.L, e.id = i := by
  unfold many; rw [List.countP_pos_iff]; simp
theorem count_pos {d : Int} : 0 < T.count d ↔ ∃ e ∈ T.L, e.dir = d := by
  unfold count; rw [List.countP_pos_iff]; simp
/-- Its last name isn't taken: the segments are as they were. -/
theorem Ok.seg_taken (ok : T.Ok) {e : En} (he : e ∈ T.L) (h : T.many e.id ≠ 1) : (T.taken e.dir e.name).seg = T.seg := by
  obtain ⟨ok', _, _, hm⟩ := ok.take he
  have h2 := hm e.id
  rw [if_pos rfl] at h2
  obtain ⟨y, hy, hi⟩ := many_pos.1 (show 0 < (T.taken e.dir e.name).many e.id by omega)
  have hs : ∀ u i, (T.taken e.dir e.name).isSeg u i = T.isSeg u i := fun _ _ => rfl
  funext u
  apply Option.ext
  intro i
  rw [ok'.seg_iff, ok.seg_iff]
  constructor
  · rintro ⟨x, hx, h1, h2⟩; exact ⟨x, (List.mem_filter.1 hx).1, h1, h2⟩
  · rintro ⟨x, hx, h1, h2⟩
    by_cases hxe : x.id = e.id
    · exact ⟨y, hy, by rw [hs, hi, ← hxe]; exact h1, by rw [hi, ← hxe]; exact h2⟩
    · refine ⟨x, List.mem_filter.2 ⟨hx, ?_⟩, h1, h2⟩
      have : x.key ≠ (e.dir, e.name) := fun hk => hxe (by rw [ok.uniq hx he hk])
      simp only [Bool.not_eq_true', decide_eq_false_iff_not]; exact this
end

/-! ### every deed keeps it fine -/
section
variable {T : Hi}
theorem newHi_ok : newHi.Ok := ⟨by simp [newHi], by simp [newHi], by simp [newHi], by simp [newHi], by simp [newHi], by simp [newHi], by simp [newHi], by decide⟩
theorem Ok.setB (ok : T.Ok) {i : Nat} {b : Bn} (hk : b.kind = (T.br i).kind) (hu : b.uid = (T.br i).uid) (hd : b.dir = (T.br i).dir) : (T.setB i b).Ok ∧ (T.setB i b).seg = T.seg := by
  have hb : ∀ j, (T.setB i b).br j = if j = i ∧ i < T.B.length then b else T.br j := fun j => by
    unfold Hi.setB br
    by_cases hj : j = i
    · subst hj
      by_cases hl : j < T.B.length
      · simp [hl]
      · simp [hl]
    · rw [List.getElem?_set_ne (Ne.symm hj)]; simp [hj]
  have h1 : ∀ j, ((T.setB i b).br j).kind = (T.br j).kind := fun j => by rw [hb]; split <;> simp_all
  have h2 : ∀ j, ((T.setB i b).br j).uid = (T.br j).uid := fun j => by rw [hb]; split <;> simp_all
  have h3 : ∀ j, ((T.setB i b).br j).dir = (T.br j).dir := fun j => by rw [hb]; split <;> simp_all
  refine ⟨⟨fun e he => ?_, ok.keys, ok.dirs, ok.homes, fun a ha c hc => ?_, fun e he => ?_, ?_, ok.root⟩, ?_⟩
  · have := ok.ids e he; simpa [Hi.setB] using this
  · rw [h1, h1, h2, h2]; exact ok.uids a ha c hc
  · rw [h1, h3]; exact ok.subs e he
  · have := ok.few; simpa [Hi.setB] using this
  · funext u
    unfold seg isSeg
    simp only [h1, h2]
    rfl
theorem Ok.named (ok : T.Ok) {d : Int} {n m : ByteArray} {i : Nat} (hg : T.get d n = some i) (hm : T.get d m = none) : (T.named d m i).Ok ∧ (T.named d m i).seg = T.seg := by
  obtain ⟨e, h1, h2, h3⟩ := get_some hg
  have hd : e.dir = d := congrArg Prod.fst h2
  have mem : ∀ {x}, x ∈ (T.named d m i).L → x ∈ T.L ∨ x = ⟨d, i, m⟩ := fun h => by simpa [Hi.named] using h
  have hi : ∀ {x}, x ∈ (T.named d m i).L → ∃ y ∈ T.L, y.id = x.id ∧ y.dir = x.dir := fun {x} h => by
    rcases mem h with h | rfl
    · exact ⟨x, h, rfl, rfl⟩
    · exact ⟨e, h1, h3, hd⟩
  refine ⟨⟨fun x hx => ?_, ?_, fun x hx => ?_, fun a ha b hb hab => ?_, fun a ha b hb => ?_, fun x hx => ?_, ok.few, ok.root⟩, ?_⟩
  · obtain ⟨y, hy, e1, _⟩ := hi hx; rw [← e1]; exact ok.ids y hy
  · simp only [Hi.named, List.map_append, List.map_cons, List.map_nil, List.nodup_append]
    refine ⟨ok.keys, by simp, fun a ha b hb => ?_⟩
    simp only [List.mem_singleton] at hb
    subst hb
    obtain ⟨x, hx, rfl⟩ := List.mem_map.1 ha
    exact get_none.1 hm x hx
  · obtain ⟨y, hy, _, e2⟩ := hi hx; rw [← e2]; exact ok.dirs y hy
  · obtain ⟨y, hy, e1, e2⟩ := hi ha
    obtain ⟨z, hz, f1, f2⟩ := hi hb
    rw [← e2, ← f2]; exact ok.homes y hy z hz (by rw [e1, f1, hab])
  · obtain ⟨y, hy, e1, e2⟩ := hi ha
    obtain ⟨z, hz, f1, f2⟩ := hi hb
    rw [← e1, ← f1]; exact ok.uids y hy z hz
  · obtain ⟨y, hy, e1, _⟩ := hi hx; rw [← e1]; exact ok.subs y hy
  · exact seg_named ⟨e, h1, h3⟩
theorem Ok.added (ok : T.Ok) {d : Int} {n : ByteArray} {b : Bn} (hw : T.why d n b = 0) : (T.added d n b).Ok := by
  unfold why at hw
  split at hw
  · simp at hw
  rename_i his
  split at hw
  · simp at hw
  split at hw
  · simp at hw
  rename_i hg
  have hg' : T.get d n = none := by cases h : T.get d n <;> simp_all
  have his' : T.is d = true := by simpa using his
  have mem : ∀ {x}, x ∈ (T.added d n b).L → x ∈ T.L ∨ x = ⟨d, T.B.length, n⟩ := fun h => by simpa [Hi.added] using h
  have hbr : ∀ x ∈ T.L, (T.added d n b).br x.id = T.br x.id := fun x hx => br_snoc (ok.ids x hx)
  have hnew : (T.added d n b).br T.B.length = T.clean b := br_new
  have hlen : (T.added d n b).B.length = T.B.length + 1 := by simp [Hi.added]
  have hD : T.D.length ≤ (T.added d n b).D.length := by unfold Hi.added; dsimp only; split <;> simp
  have hisn : ∀ d', T.is d' = true → (T.added d n b).is d' = true := fun d' h => by
    unfold Hi.added
    by_cases hk : b.kind = 2
    · simp only [hk, if_true]
      rw [is_snoc (L := T.L) (B := T.B)]
      split
      · rfl
      · exact h
    · simp only [hk, if_false]; exact h
  have hck : (T.clean b).kind = 1 → b.kind = 1 ∧ (T.clean b).uid = b.uid := fun h => by
    unfold clean at h ⊢
    split at h
    · rename_i hk; exact ⟨hk, by rw [if_pos hk]⟩
    · split at h <;> simp at h
  have hseg : (T.clean b).kind = 1 → T.seg b.uid = none := fun h => by
    have h1 := (hck h).1
    unfold cleanE at hw
    rw [if_pos h1] at hw
    split at hw
    · simp at hw
    · split at hw
      · simp at hw
      · rename_i h2; cases hs : T.seg b.uid <;> simp_all
  refine ⟨fun x hx => ?_, ?_, fun x hx => ?_, fun a ha c hc hac => ?_, fun a ha c hc ka kc hu => ?_, fun x hx hk => ?_, ?_, ?_⟩
  · rcases mem hx with h | rfl
    · have := ok.ids x h; omega
    · simp [hlen]
  · simp only [Hi.added, List.map_append, List.map_cons, List.map_nil, List.nodup_append]
    refine ⟨ok.keys, by simp, fun a ha c hc => ?_⟩
    simp only [List.mem_singleton] at hc
    subst hc
    obtain ⟨x, hx, rfl⟩ := List.mem_map.1 ha
    exact get_none.1 hg' x hx
  · rcases mem hx with h | rfl
    · exact hisn _ (ok.dirs x h)
    · exact hisn _ his'
  · rcases mem ha with h1 | rfl <;> rcases mem hc with h2 | rfl
    · exact ok.homes a h1 c h2 hac
    · have := ok.ids a h1; simp at hac; omega
    · have := ok.ids c h2; simp at hac; omega
    · rfl
  · rcases mem ha with h1 | rfl <;> rcases mem hc with h2 | rfl
    · rw [hbr a h1] at ka hu; rw [hbr c h2] at kc hu; exact ok.uids a h1 c h2 ka kc hu
    · rw [hbr a h1] at ka hu
      simp only [hnew] at kc hu
      have := seg_none.1 (hseg kc) a h1
      rw [(hck kc).2] at hu
      simp [isSeg, ka, hu] at this
    · rw [hbr c h2] at kc hu
      simp only [hnew] at ka hu
      have := seg_none.1 (hseg ka) c h2
      rw [(hck ka).2] at hu
      simp [isSeg, kc, ← hu] at this
    · rfl
  · rcases mem hx with h | rfl
    · rw [hbr x h] at hk ⊢
      have := ok.subs x h hk
      omega
    · simp only [hnew] at hk ⊢
      have hb : b.kind = 2 := by
        unfold clean at hk
        split at hk
        · simp at hk
        · split at hk
          · assumption
          · simp at hk
      have h0 : T.D.length ≠ 0 := fun h0 => by
        have := ok.root
        unfold is at this
        rw [List.length_eq_zero_iff.1 h0] at this
        simp at this
      unfold clean Hi.added
      simp only [hb, if_true, show ¬ (2 : Int) = 1 by decide, if_false, List.length_append, List.length_singleton]
      omega
  · have := ok.few
    rw [hlen]
    unfold Hi.added; dsimp only
    split
    · simp; omega
    · omega
  · exact hisn _ ok.root
end
end Hi
end Go.Con
