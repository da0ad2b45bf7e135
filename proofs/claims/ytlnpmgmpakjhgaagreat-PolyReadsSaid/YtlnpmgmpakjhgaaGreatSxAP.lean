/- A part of the proof of PolyReadsSaid: texts SxU SxV. -/
import Derived.Test.YtlnpmgmpakjhgaaGreatSxAO
set_option linter.all false
section
namespace Sx
open Go
variable {P : Program} {C : Ctx} {τ : TypeId → Option TI} {CN : CNt}

def GdAgr (ops : List Oper) (o : Oper) (s s' : Slots) : Prop := ∀ j want d, o.guard = some (j, want) → guardSlot ops j = some d → getS s' d = getS s d

def SNF (CN : CNt) (τ : TypeId → Option TI) (ops : List Oper) (o : Oper) (id : Nat) (σ : St) (K : St → Prop) : Prop :=
  ∃ v δ, K ⟨putS σ.s o.dst v, upd σ.h δ⟩ ∧ (∀ p ∈ δ, (p.1 = id ∧ lays o.op = true) ∨ (3 ≤ opKind τ o.op ∧ ∃ x ∈ o.op.operands.toList, p.1 ∈ refsA (ev σ.s x))) ∧
    (opKind τ o.op = 3 → ∀ p ∈ δ, shapeB p.2 = shapeB (getB σ.h p.1)) ∧
    (∀ y, (lays o.op = true → y ≠ id) → Fresh y σ.s σ.h → y ∉ refsA v ∧ ∀ p ∈ δ, y ∉ refsB p.2) ∧
    ∀ (σ' : St) (K' : St → Prop), Agr (opKind τ o.op) o.op.operands.toList σ.s σ'.s σ.h σ'.h → GdAgr ops o σ.s σ'.s → K' ⟨putS σ'.s o.dst v, upd σ'.h δ⟩ → stepRun CN τ ops o id σ' K'

theorem step_nf (hz : ZeroOk τ) {ops : List Oper} {o : Oper} {id : Nat} {σ : St} {K : St → Prop} (hk : opKind τ o.op ≠ 5) (h : stepRun (CallD P) τ ops o id σ K) : SNF (CallD P) τ ops o id σ K := by
  have run : ∀ (hrun : opRun (CallD P) q0 τ o.op σ.s σ.h id (fun v h => K ⟨putS σ.s o.dst v, h⟩))
      (ht : ∀ σ' K', GdAgr ops o σ.s σ'.s → opRun (CallD P) q0 τ o.op σ'.s σ'.h id (fun v h => K' ⟨putS σ'.s o.dst v, h⟩) → stepRun (CallD P) τ ops o id σ' K'), SNF (CallD P) τ ops o id σ K := by
    intro hrun ht
    obtain ⟨v, δ, h1, h2, h3, h4, h5⟩ := rest_nf hz hrun hk
    exact ⟨v, δ, h1, h2, h3, h4, fun σ' K' hA hG hK' => ht σ' K' hG (h5 σ'.s σ'.h _ hA hK')⟩
  have skip : ∀ (hK : K ⟨putS σ.s o.dst (.one .und), σ.h⟩) (ht : ∀ (σ' : St) (K' : St → Prop), GdAgr ops o σ.s σ'.s → K' ⟨putS σ'.s o.dst (.one .und), σ'.h⟩ → stepRun (CallD P) τ ops o id σ' K'), SNF (CallD P) τ ops o id σ K := by
    intro hK ht
    exact ⟨_, [], hK, by simp, by simp, fun y _ _ => ⟨by simp [refsA, refsL], by simp⟩, fun σ' K' _ hG hK' => ht σ' K' hG hK'⟩
  unfold stepRun at h
  split at h
  · rename_i hg
    exact run h (fun σ' K' _ hr => by unfold stepRun; simp only [hg]; exact hr)
  · rename_i j want hg
    split at h
    · rename_i d hd
      split at h
      · rename_i c hc
        split at h
        · rename_i hcw
          exact run h (fun σ' K' hG hr => by unfold stepRun; simp only [hg, hd]; rw [hG j want d hg hd, hc]; simp only [if_pos hcw]; exact hr)
        · rename_i hcw
          exact skip h (fun σ' K' hG hr => by unfold stepRun; simp only [hg, hd]; rw [hG j want d hg hd, hc]; simp only [if_neg hcw]; exact hr)
      · rename_i hc
        split at h
        · rename_i hu
          exact skip h (fun σ' K' hG hr => by unfold stepRun; simp only [hg, hd]; rw [hG j want d hg hd, hc, hu]; exact hr)
        · exact h.elim
    · exact h.elim

theorem insD_comm {d d' : Nat} {v v' : AV} (h : d ≠ d') : ∀ s : Slots, insD (insD s d v) d' v' = insD (insD s d' v') d v
  | [] => by
    rcases Nat.lt_or_gt_of_ne h with h3 | h3 <;> simp (disch := omega) only [insD, insD_cons, if_pos, if_neg]
  | p :: r => by
    have ih := insD_comm h (v := v) (v' := v') r
    rcases Nat.lt_trichotomy p.1 d with h1 | h1 | h1 <;> rcases Nat.lt_trichotomy p.1 d' with h2 | h2 | h2 <;> rcases Nat.lt_or_gt_of_ne h with h3 | h3 <;> first | (exfalso; omega) | simp (disch := omega) only [insD_cons, if_pos, if_neg, ih]
theorem putI_comm {d d' : Nat} {v v' : AV} (h : d ≠ d') : ∀ s : Slots, putI (putI s d v) d' v' = putI (putI s d' v') d v
  | [] => rfl
  | p :: r => by
    have ih := insD_comm h (v := v) (v' := v') r
    rcases Nat.lt_trichotomy p.1 d with h1 | h1 | h1 <;> rcases Nat.lt_trichotomy p.1 d' with h2 | h2 | h2 <;> rcases Nat.lt_or_gt_of_ne h with h3 | h3 <;> first | (exfalso; omega) | simp (disch := omega) only [putI_cons, insD_cons, if_pos, if_neg, ih]
theorem putS_comm {s : Slots} {d d' : Option Nat} {v v' : AV} (h : ∀ x, d = some x → d' ≠ some x) : putS (putS s d v) d' v' = putS (putS s d' v') d v := by
  cases d with
  | none => rfl
  | some x =>
    cases d' with
    | none => rfl
    | some y => simp only [putS]; exact putI_comm (fun e => h x rfl (by rw [e])) s
theorem ev_putS {s : Slots} {d : Option Nat} {v : AV} {x : Operand} (h : ∀ t, d = some t → x ≠ .tmp t) : ev (putS s d v) x = ev s x := by
  cases d with
  | none => rfl
  | some t =>
    cases x with
    | tmp u =>
      have : t ≠ u := fun e => h t rfl (by rw [e])
      simp only [ev, putS]
      exact getS_putI_ne s v this
    | _ => rfl
theorem getS_putS {s : Slots} {d : Option Nat} {v : AV} {x : Nat} (h : d ≠ some x) : getS (putS s d v) x = getS s x := by
  cases d with
  | none => rfl
  | some t =>
    have : t ≠ x := fun e => h (by rw [e])
    exact getS_putI_ne s v this
theorem upd_len (δ : List (Nat × Blk)) : ∀ H : List Blk, (upd H δ).length = H.length := by
  induction δ with
  | nil => intro H; rfl
  | cons p δ ih => intro H; simp only [upd, List.foldl_cons]; rw [show List.foldl _ _ δ = upd (H.set p.1 p.2) δ from rfl, ih]; simp
theorem getB_upd {b : Nat} : ∀ {δ : List (Nat × Blk)} {H : List Blk}, (∀ p ∈ δ, p.1 ≠ b) → getB (upd H δ) b = getB H b
  | [], H, _ => rfl
  | p :: δ, H, h => by
    have : upd H (p :: δ) = upd (H.set p.1 p.2) δ := rfl
    rw [this, getB_upd (fun q hq => h q (by simp [hq]))]
    simp only [getB, List.getD_eq_getElem?_getD, List.getElem?_set, if_neg (h p (by simp))]
theorem upd_set {b : Nat} {B : Blk} : ∀ {δ : List (Nat × Blk)} {H : List Blk}, (∀ p ∈ δ, p.1 ≠ b) → upd (H.set b B) δ = (upd H δ).set b B
  | [], H, _ => rfl
  | p :: δ, H, h => by
    have e : ∀ H : List Blk, upd H (p :: δ) = upd (H.set p.1 p.2) δ := fun _ => rfl
    rw [e, e, List.set_comm _ _ (Ne.symm (h p (by simp))), upd_set (fun q hq => h q (by simp [hq]))]
theorem upd_comm : ∀ {δ δ' : List (Nat × Blk)} {H : List Blk}, (∀ p ∈ δ, ∀ q ∈ δ', p.1 ≠ q.1) → upd (upd H δ) δ' = upd (upd H δ') δ
  | δ, [], H, _ => rfl
  | δ, q :: δ', H, h => by
    have e : ∀ H : List Blk, upd H (q :: δ') = upd (H.set q.1 q.2) δ' := fun _ => rfl
    rw [e, e, ← upd_set (fun p hp => h p hp q (by simp)), upd_comm (fun p hp r hr => h p hp r (by simp [hr]))]
theorem shape_upd {b : Nat} : ∀ {δ : List (Nat × Blk)} {H : List Blk}, (∀ p ∈ δ, p.1 = b → shapeB p.2 = shapeB (getB H b)) → shapeB (getB (upd H δ) b) = shapeB (getB H b)
  | [], H, _ => rfl
  | p :: δ, H, h => by
    have e : upd H (p :: δ) = upd (H.set p.1 p.2) δ := rfl
    have e2 : shapeB (getB (H.set p.1 p.2) b) = shapeB (getB H b) := by
      simp only [getB, List.getD_eq_getElem?_getD, List.getElem?_set]
      split
      · rename_i hp
        split
        · have := h p (by simp) hp
          simp only [getB, List.getD_eq_getElem?_getD] at this
          simpa using this
        · rename_i hlt; subst hp; rw [List.getElem?_eq_none (by omega)]
      · rfl
    rw [e, shape_upd (fun q hq hb => by rw [e2]; exact h q (by simp [hq]) hb), e2]

theorem Fresh.step {y : Nat} {s : Slots} {H : List Blk} (h : Fresh y s H) {d : Option Nat} {v : AV} {δ : List (Nat × Blk)} (hv : y ∉ refsA v) (hd : ∀ p ∈ δ, y ∉ refsB p.2) : Fresh y (putS s d v) (upd H δ) := by
  refine ⟨fun u hu => ?_, ?_⟩
  · cases d with
    | none => exact h.1 u hu
    | some t =>
      rcases mem_putI hu with hu | rfl
      · exact h.1 u hu
      · exact hv
  · have key : ∀ (δ : List (Nat × Blk)) (H : List Blk), (∀ B ∈ H, y ∉ refsB B) → (∀ p ∈ δ, y ∉ refsB p.2) → ∀ B ∈ upd H δ, y ∉ refsB B := by
      intro δ
      induction δ with
      | nil => intro H hH _; exact hH
      | cons p δ ih =>
        intro H hH hδ
        refine ih (H.set p.1 p.2) (fun B hB => ?_) (fun q hq => hδ q (by simp [hq]))
        rcases List.mem_or_eq_of_mem_set hB with hB | rfl
        · exact hH B hB
        · exact hδ p (by simp)
    exact key δ H h.2 hd

theorem comm2 {ops : List Oper} {oi oj : Oper} {ii ij : Nat} {σ : St} {X : St → Prop} (hap : oi.apart ops.toArray oj = true) (hko : kindsOk (opKind τ oi.op) (opKind τ oj.op) = true)
    (hids : lays oi.op = true → lays oj.op = true → ii ≠ ij) (hfi : lays oi.op = true → Fresh ii σ.s σ.h) (hfj : lays oj.op = true → Fresh ij σ.s σ.h)
    {v : AV} {δ : List (Nat × Blk)}
    (hdom : ∀ p ∈ δ, (p.1 = ii ∧ lays oi.op = true) ∨ (3 ≤ opKind τ oi.op ∧ ∃ x ∈ oi.op.operands.toList, p.1 ∈ refsA (ev σ.s x)))
    (hsh : opKind τ oi.op = 3 → ∀ p ∈ δ, shapeB p.2 = shapeB (getB σ.h p.1))
    (htr : ∀ (σ' : St) (K' : St → Prop), Agr (opKind τ oi.op) oi.op.operands.toList σ.s σ'.s σ.h σ'.h → GdAgr ops oi σ.s σ'.s → K' ⟨putS σ'.s oi.dst v, upd σ'.h δ⟩ → stepRun CN τ ops oi ii σ' K')
    (hj : SNF CN τ ops oj ij ⟨putS σ.s oi.dst v, upd σ.h δ⟩ X) : stepRun CN τ ops oj ij σ (fun σ2 => stepRun CN τ ops oi ii σ2 X) := by
  obtain ⟨hd1, hd2, hd3⟩ := Oper.apart_spec hap
  obtain ⟨u, ε, hX, hdomj, hshj, _, htrj⟩ := hj
  have looks : ∀ (o : Oper) (x : Operand) (t : Nat), x ∈ o.op.operands.toList → x = .tmp t → t ∈ o.looksAt ops.toArray := by
    rintro o x t hx rfl
    simp only [Oper.looksAt, List.mem_append, List.mem_filterMap]
    exact .inl ⟨_, hx, rfl⟩
  have looksG : ∀ (o : Oper) (j : Nat) (want : Bool) (d : Nat), o.guard = some (j, want) → guardSlot ops j = some d → d ∈ o.looksAt ops.toArray := by
    intro o j want d hg hd
    simp only [Oper.looksAt, List.mem_append]
    refine .inr ?_
    simp only [hg]
    unfold guardSlot at hd
    split at hd
    · rename_i o' ho'
      simp [ho', hd]
    · cases hd
  have evj : ∀ x ∈ oj.op.operands.toList, ev (putS σ.s oi.dst v) x = ev σ.s x := fun x hx => ev_putS (fun t ht e => hd1 t ht (looks oj x t hx e))
  have evi : ∀ x ∈ oi.op.operands.toList, ev (putS σ.s oj.dst u) x = ev σ.s x := fun x hx => ev_putS (fun t ht e => hd3 t ht (looks oi x t hx e))
  have refj : ∀ x ∈ oj.op.operands.toList, ∀ b ∈ refsA (ev σ.s x), lays oi.op = true → b ≠ ii := fun x hx b hb hl e => refs_ev (hfi hl) x (by rw [e] at hb; exact hb)
  have refi : ∀ x ∈ oi.op.operands.toList, ∀ b ∈ refsA (ev σ.s x), lays oj.op = true → b ≠ ij := fun x hx b hb hl e => refs_ev (hfj hl) x (by rw [e] at hb; exact hb)
  have ki : kindsOk (opKind τ oi.op) (opKind τ oj.op) = true → (3 ≤ opKind τ oi.op → opKind τ oj.op ≤ 1) ∧ (4 ≤ opKind τ oi.op → opKind τ oj.op = 0) ∧ (3 ≤ opKind τ oj.op → opKind τ oi.op ≤ 1) ∧ (4 ≤ opKind τ oj.op → opKind τ oi.op = 0) := by
    intro h
    simp only [kindsOk, Bool.or_eq_true, Bool.and_eq_true, decide_eq_true_eq, beq_iff_eq] at h
    omega
  obtain ⟨k1, k2, k3, k4⟩ := ki hko
  refine htrj σ _ ⟨fun x hx => (evj x hx).symm, fun h1 x hx b hb => ?_, fun h2 x hx b hb => ?_⟩ (fun j want d hg hd => (getS_putS (fun e => hd1 d e (looksG oj j want d hg hd))).symm) ?_
  · rw [evj x hx] at hb
    refine (shape_upd (fun p hp he => ?_)).symm
    rcases hdom p hp with ⟨h3, hl⟩ | ⟨h3, _⟩
    · exact absurd (he.symm.trans h3) (refj x hx b hb hl)
    · have : opKind τ oi.op = 3 := by
        by_cases h4 : 4 ≤ opKind τ oi.op
        · have := k2 h4; omega
        · omega
      rw [← he]
      exact hsh this p hp
  · rw [evj x hx] at hb
    refine (getB_upd (fun p hp he => ?_)).symm
    rcases hdom p hp with ⟨h3, hl⟩ | ⟨h3, _⟩
    · exact absurd (he.symm.trans h3) (refj x hx b hb hl)
    · have := k1 h3; omega
  · have dis : ∀ p ∈ δ, ∀ q ∈ ε, p.1 ≠ q.1 := by
      intro p hp q hq e
      rcases hdom p hp with ⟨h3, hl⟩ | ⟨h3, x, hx, hxr⟩
      · rcases hdomj q hq with ⟨h4, hl'⟩ | ⟨h4, y, hy, hyr⟩
        · exact hids hl hl' (by rw [← h3, e, h4])
        · rw [evj y hy] at hyr
          exact refj y hy q.1 hyr hl (by rw [← e, h3])
      · rcases hdomj q hq with ⟨h4, hl'⟩ | ⟨h4, y, hy, hyr⟩
        · exact refi x hx p.1 hxr hl' (by rw [e, h4])
        · have := k1 h3; omega
    refine htr _ _ ⟨fun x hx => evi x hx, fun h1 x hx b hb => ?_, fun h2 x hx b hb => ?_⟩ (fun j want d hg hd => getS_putS (fun e => hd3 d e (looksG oi j want d hg hd))) ?_
    · refine shape_upd (fun p hp he => ?_)
      rcases hdomj p hp with ⟨h3, hl⟩ | ⟨h3, y, hy, hyr⟩
      · exact absurd (he.symm.trans h3) (refi x hx b hb hl)
      · have : opKind τ oj.op = 3 := by
          by_cases h4 : 4 ≤ opKind τ oj.op
          · have := k4 h4; omega
          · omega
        rw [hshj this p hp, ← he]
        refine shape_upd (fun q hq hqe => ?_)
        rw [evj y hy] at hyr
        rcases hdom q hq with ⟨h5, hl⟩ | ⟨h5, _⟩
        · exact absurd (hqe.symm.trans h5) (refj y hy p.1 hyr hl)
        · have := k1 h5; omega
    · refine getB_upd (fun p hp he => ?_)
      rcases hdomj p hp with ⟨h3, hl⟩ | ⟨h3, _⟩
      · exact absurd (he.symm.trans h3) (refi x hx b hb hl)
      · have := k3 h3; omega
    · rw [putS_comm (d := oj.dst) (d' := oi.dst) (fun x hx hx' => hd2 x hx' hx), ← upd_comm dis]
      exact hX
end Sx
end

section
namespace Sx
open Go
variable {P : Program} {C : Ctx} {τ : TypeId → Option TI} {CN : CNt}

def direct (o : Oper) : List Nat := (o.after.toList.filter (Region.binds .any)).map (·.on)
def befOne (acc : List (List Nat)) (o : Oper) : List Nat := (direct o).foldl (fun l k => addNew l (k :: acc.getD k [])) []
def befores : List Oper → List (List Nat) → List (List Nat)
  | [], acc => acc
  | o :: r, acc => befores r (acc ++ [befOne acc o])
def drawOk (τ : TypeId → Option TI) (ops : List Oper) : Bool :=
  (ops.all fun o => opKind τ o.op != 5) &&
  (List.range ops.length).all fun j => (List.range j).all fun i => ((befores ops []).getD j []).contains i || kindsOk (((ops.map fun o => opKind τ o.op)).getD i 0) (((ops.map fun o => opKind τ o.op)).getD j 0)

theorem mem_addNew {x : Nat} : ∀ {r l : List Nat}, x ∈ addNew l r ↔ x ∈ l ∨ x ∈ r
  | [], l => by simp [addNew]
  | y :: r, l => by
    simp only [addNew]
    rw [mem_addNew]
    split
    · rename_i h
      simp only [List.contains_eq_mem, decide_eq_true_eq] at h
      constructor
      · rintro (h' | h')
        · exact .inl h'
        · exact .inr (by simp [h'])
      · rintro (h' | h')
        · exact .inl h'
        · simp only [List.mem_cons] at h'
          rcases h' with rfl | h'
          · exact .inl h
          · exact .inr h'
    · simp only [List.mem_append, List.mem_cons, List.not_mem_nil, or_false]
      exact or_assoc
theorem mem_befOne {x : Nat} {acc : List (List Nat)} {o : Oper} (h : x ∈ befOne acc o) : ∃ k ∈ direct o, x = k ∨ x ∈ acc.getD k [] := by
  have key : ∀ (d l : List Nat), x ∈ d.foldl (fun l k => addNew l (k :: acc.getD k [])) l → x ∈ l ∨ ∃ k ∈ d, x = k ∨ x ∈ acc.getD k [] := by
    intro d
    induction d with
    | nil => intro l h; exact .inl h
    | cons k d ih =>
      intro l h
      rcases ih _ h with h | ⟨k', h1, h2⟩
      · rw [mem_addNew] at h
        rcases h with h | h
        · exact .inl h
        · exact .inr ⟨k, by simp, by simpa using h⟩
      · exact .inr ⟨k', by simp [h1], h2⟩
  rcases key _ _ h with h | h
  · simp at h
  · exact h
theorem befores_pre : ∀ (ops : List Oper) (acc : List (List Nat)), ∃ r, befores ops acc = acc ++ r ∧ r.length = ops.length
  | [], acc => ⟨[], by simp [befores]⟩
  | o :: ops, acc => by
    obtain ⟨r, h, hl⟩ := befores_pre ops (acc ++ [befOne acc o])
    exact ⟨befOne acc o :: r, by simp [befores, h], by simp [hl]⟩
theorem befores_spec : ∀ (ops : List Oper) (acc : List (List Nat)) (j : Nat) (o : Oper), ops[j]? = some o → ∀ x ∈ (befores ops acc).getD (acc.length + j) [], ∃ k ∈ direct o, x = k ∨ x ∈ (befores ops acc).getD k []
  | [], acc, j, o, h, _, _ => by simp at h
  | p :: ops, acc, j, o, h, x, hx => by
    cases j with
    | zero =>
      simp at h
      subst h
      obtain ⟨r, hr, hl⟩ := befores_pre ops (acc ++ [befOne acc p])
      have e : (befores (p :: ops) acc).getD (acc.length + 0) [] = befOne acc p := by
        simp only [befores, hr, List.getD_eq_getElem?_getD]
        simp
      rw [e] at hx
      obtain ⟨k, h1, h2⟩ := mem_befOne hx
      refine ⟨k, h1, h2.imp id (fun h => ?_)⟩
      simp only [befores, hr, List.getD_eq_getElem?_getD] at h ⊢
      cases hk : acc[k]? with
      | none => rw [hk] at h; simp at h
      | some y =>
        have := (List.getElem?_eq_some_iff.1 hk).1
        rw [hk] at h
        rw [List.append_assoc, List.getElem?_append_left this, hk]
        exact h
    | succ j =>
      have := befores_spec ops (acc ++ [befOne acc p]) j o (by simpa using h) x (by
        have e : (acc ++ [befOne acc p]).length + j = acc.length + (j + 1) := by simp; omega
        rw [e]; exact hx)
      simpa [befores] using this

def Closed (ops : List Oper) (listed : Array Bool) : Prop := ∀ j, listed.getD j false = true → ∀ x ∈ (befores ops []).getD j [], listed.getD x false = true
theorem Closed.take {ops : List Oper} {listed : Array Bool} (hc : Closed ops listed) {j : Nat} {o : Oper} (ho : ops[j]? = some o) (hall : ∀ e ∈ o.after, Region.binds .any e = true → listed.getD e.on false = true) :
    (∀ x ∈ (befores ops []).getD j [], listed.getD x false = true) ∧ Closed ops (listed.setIfInBounds j true) := by
  have h1 : ∀ x ∈ (befores ops []).getD j [], listed.getD x false = true := by
    intro x hx
    have hx' : x ∈ (befores ops []).getD (([] : List (List Nat)).length + j) [] := by simpa using hx
    obtain ⟨k, hk, h⟩ := befores_spec ops [] j o ho x hx'
    simp only [direct, List.mem_map, List.mem_filter] at hk
    obtain ⟨e, ⟨he, hb⟩, rfl⟩ := hk
    have hl := hall e (by simpa using he) hb
    rcases h with rfl | h
    · exact hl
    · exact hc _ hl x h
  refine ⟨h1, fun i hi x hx => ?_⟩
  by_cases hij : j = i
  · subst hij; exact getD_set_true (h1 x hx)
  · rw [getD_set_ne false hij] at hi
    exact getD_set_true (hc i hi x hx)

def idAt (base : Nat) (ops : List Oper) (k : Nat) : Nat := base + nLays (ops.take k)
theorem idAt_succ {base : Nat} {ops : List Oper} {k : Nat} {o : Oper} (h : ops[k]? = some o) : idAt base ops (k + 1) = if lays o.op = true then idAt base ops k + 1 else idAt base ops k := by
  unfold idAt nLays
  rw [List.take_add_one, h]
  simp only [Option.toList_some, List.filter_append, List.length_append, List.filter_cons, List.filter_nil]
  split <;> simp <;> omega
theorem idAt_mono {base : Nat} {ops : List Oper} {k j : Nat} (h : k ≤ j) : idAt base ops k ≤ idAt base ops j := by
  unfold idAt nLays
  have : (ops.take k).Sublist (ops.take j) := by
    have : ops.take k = (ops.take j).take k := by rw [List.take_take, Nat.min_eq_left h]
    rw [this]
    exact List.take_sublist _ _
  have := (this.filter (fun o => lays o.op)).length_le
  omega
theorem idAt_lt {base : Nat} {ops : List Oper} {k j : Nat} {o : Oper} (ho : ops[k]? = some o) (hl : lays o.op = true) (h : k < j) : idAt base ops k < idAt base ops j := by
  have h1 := idAt_succ (base := base) ho
  rw [if_pos hl] at h1
  have := idAt_mono (base := base) (ops := ops) (show k + 1 ≤ j from h)
  omega

def pend (CN : CNt) (τ : TypeId → Option TI) (ops : List Oper) (base : Nat) : List Nat → St → (St → Prop) → Prop
  | [], σ, K => K σ
  | k :: l, σ, K => match ops[k]? with
    | some o => stepRun CN τ ops o (idAt base ops k) σ (fun σ' => pend CN τ ops base l σ' K)
    | none => False

theorem Agr.rfl' {k : Nat} {xs : List Operand} {s : Slots} {H : List Blk} : Agr k xs s s H H := ⟨fun _ _ => rfl, fun _ _ _ _ _ => rfl, fun _ _ _ _ _ => rfl⟩
theorem SNF.run {ops : List Oper} {o : Oper} {id : Nat} {σ : St} {K K' : St → Prop} (h : SNF CN τ ops o id σ K) (hK : ∀ σ, K σ → K' σ) : stepRun CN τ ops o id σ K' := by
  obtain ⟨v, δ, h1, _, _, _, ht⟩ := h
  exact ht σ K' .rfl' (fun _ _ _ _ _ => rfl) (hK _ h1)

theorem SNF.run' {ops : List Oper} {o : Oper} {id : Nat} {σ : St} {K K' : St → Prop} (h : SNF CN τ ops o id σ K) (hK : ∀ v h, K ⟨putS σ.s o.dst v, h⟩ → K' ⟨putS σ.s o.dst v, h⟩) : stepRun CN τ ops o id σ K' := by
  obtain ⟨v, δ, h1, _, _, _, ht⟩ := h
  exact ht σ K' .rfl' (fun _ _ _ _ _ => rfl) (hK _ _ h1)

def AllOk (τ : TypeId → Option TI) (ops : List Oper) : Prop := ∀ (k : Nat) (o : Oper), ops[k]? = some o → opKind τ o.op ≠ 5

theorem pend_of_run (hz : ZeroOk τ) {ops : List Oper} (hall : AllOk τ ops) {base : Nat} {K : St → Prop} : ∀ (r : List Oper) (kn : List (Nat × Bool)) (k : Nat) (σ : St), KnOk kn σ.s → (∀ j, r[j]? = ops[k + j]?) → opsRun (CallD P) q0 τ ops kn r (idAt base ops k) σ K → pend (CallD P) τ ops base (List.range' k r.length) σ K
  | [], kn, k, σ, _, _, h => by simpa [pend, opsRun] using h
  | o :: r, kn, k, σ, hk, hr, h => by
    have h0 : ops[k]? = some o := by simpa using (hr 0).symm
    obtain ⟨kn', hk', h1⟩ := opsRun_cons hk h
    simp only [List.length_cons, List.range'_succ, pend, h0]
    have e := idAt_succ (base := base) h0
    rw [show (if lays o.op = true then idAt base ops k + 1 else idAt base ops k) = idAt base ops (k + 1) from e.symm] at h1
    exact (step_nf hz (hall k o h0) h1).run' (fun v hh h => pend_of_run hz hall r kn' (k + 1) _ (hk' v) (fun j => by have := hr (j + 1); simpa [Nat.add_assoc, Nat.add_comm 1 j] using this) h)

def FreshAt (ops : List Oper) (base : Nat) (l : List Nat) (σ : St) : Prop := ∀ k ∈ l, ∀ o, ops[k]? = some o → lays o.op = true → Fresh (idAt base ops k) σ.s σ.h

theorem idAt_ne {base : Nat} {ops : List Oper} {i k : Nat} {oi ok : Oper} (hi : ops[i]? = some oi) (hk : ops[k]? = some ok) (hne : i ≠ k) (hli : lays oi.op = true) (hlk : lays ok.op = true) : idAt base ops i ≠ idAt base ops k := by
  rcases Nat.lt_or_ge i k with h | h
  · exact Nat.ne_of_lt (idAt_lt hi hli h)
  · exact Nat.ne_of_gt (idAt_lt hk hlk (by omega))

theorem comm_front (hz : ZeroOk τ) {ops : List Oper} (hall : AllOk τ ops) {base : Nat} {k : Nat} {ok : Oper} (hk : ops[k]? = some ok) {K : St → Prop} {l2 : List Nat} : ∀ (l1 : List Nat) (σ : St), (l1 ++ k :: l2).Nodup →
    (∀ i ∈ l1, ∀ oi, ops[i]? = some oi → oi.apart ops.toArray ok = true ∧ kindsOk (opKind τ oi.op) (opKind τ ok.op) = true) → FreshAt ops base (l1 ++ k :: l2) σ →
    pend (CallD P) τ ops base (l1 ++ k :: l2) σ K → SNF (CallD P) τ ops ok (idAt base ops k) σ (fun σ' => pend (CallD P) τ ops base (l1 ++ l2) σ' K)
  | [], σ, hnd, hp, hf, h => by
    simp only [List.nil_append, pend, hk] at h
    exact step_nf hz (hall k ok hk) h
  | i :: l1, σ, hnd, hp, hf, h => by
    simp only [List.cons_append, pend] at h
    cases hi : ops[i]? with
    | none => rw [hi] at h; exact h.elim
    | some oi =>
      rw [hi] at h
      simp only at h
      obtain ⟨v, δ, h1, h2, h3, h4, h5⟩ := step_nf hz (hall i oi hi) h
      simp only [List.cons_append, List.nodup_cons] at hnd
      have hf' : FreshAt ops base (l1 ++ k :: l2) ⟨putS σ.s oi.dst v, upd σ.h δ⟩ := by
        intro j hj oj hoj hlj
        have hfj := hf j (by simp only [List.cons_append, List.mem_cons]; exact .inr hj) oj hoj hlj
        have hne : j ≠ i := fun e => hnd.1 (by rw [← e]; exact hj)
        obtain ⟨a, b⟩ := h4 _ (fun hli => idAt_ne hoj hi hne hlj hli) hfj
        exact hfj.step a b
      have hrec := comm_front hz hall hk l1 _ hnd.2 (fun j hj => hp j (by simp [hj])) hf' h1
      obtain ⟨hap, hko⟩ := hp i (by simp) oi hi
      have hne : i ≠ k := fun e => hnd.1 (by rw [e]; simp)
      have hcom := comm2 (ii := idAt base ops i) (ij := idAt base ops k) hap hko (fun a b => idAt_ne hi hk hne a b) (fun hl => hf i (by simp) oi hi hl) (fun hl => hf k (by simp) ok hk hl) h2 h3 h5 hrec
      have := step_nf hz (hall k ok hk) hcom
      simp only [List.cons_append, pend, hi]
      exact this

theorem refs_lt {w : World} {X : Nat → Prop} {M : Mp} {y : Nat} (hy : M.length ≤ y) : (∀ (l : L) (v : Value), RdL w X M l v → y ∉ refsL l) := by
  have key : ∀ id p, M[id]? = some p → y ≠ id := fun id p h e => by
    have := (List.getElem?_eq_some_iff.1 h).1
    omega
  intro l v h
  induction h with
  | t => simp [refsL]
  | nil => simp [refsL]
  | emp => simp [refsL]
  | tt => simp [refsL]
  | ff => simp [refsL]
  | any => simp [refsL]
  | und => simp [refsL]
  | row0 hp => simp [refsL, key _ _ hp]
  | row hp => simp [refsL, key _ _ hp]
  | sub hp => simp [refsL, key _ _ hp]
  | sub0 hp => simp [refsL, key _ _ hp]
  | bp hp => simp [refsL, key _ _ hp]
  | ep hp => simp [refsL, key _ _ hp]
  | fp => simp [refsL]
  | fn a b ih =>
    rename_i f caps cv
    simp only [refsL]
    rw [refsLs_mem]
    rintro ⟨l, hl, hc⟩
    obtain ⟨j, hj, rfl⟩ := List.mem_iff_getElem.1 hl
    exact ih j caps[j] cv[j] (by simp [hj]) (by simp [a ▸ hj]) hc
theorem refsLs_lt {w : World} {X : Nat → Prop} {M : Mp} {y : Nat} (hy : M.length ≤ y) {ls : List L} {vs : List Value} (h : RdLs w X M ls vs) : y ∉ refsLs ls := by
  rw [refsLs_mem]
  rintro ⟨l, hl, hc⟩
  obtain ⟨j, hj, rfl⟩ := List.mem_iff_getElem.1 hl
  exact refs_lt hy _ _ (h.2 j ls[j] (vs[j]'(h.1 ▸ hj)) (by simp [hj]) (by simp [h.1 ▸ hj])) hc
theorem refsA_lt {w : World} {X : Nat → Prop} {M : Mp} {y : Nat} (hy : M.length ≤ y) : ∀ (x : AV) (v : Value), RdA w X M x v → y ∉ refsA x := by
  intro x v h
  induction h with
  | one h => simpa [refsA] using refs_lt hy _ _ h
  | agg h => simpa [refsA] using refsLs_lt hy h
  | tup a b ih =>
    rename_i xs vs
    simp only [refsA]
    rw [refsAs_mem]
    rintro ⟨l, hl, hc⟩
    obtain ⟨j, hj, rfl⟩ := List.mem_iff_getElem.1 hl
    exact ih j xs[j] vs[j] (by simp [hj]) (by simp [a ▸ hj]) hc
theorem Rel.fresh {σ : St} {a : Act} {w : World} (hR : Rel C σ a w) {y : Nat} (hy : σ.h.length ≤ y) (n : Nat) : Fresh y σ.s (σ.h ++ List.replicate n .res) := by
  obtain ⟨M, X, hI, hS⟩ := hR
  have hy' : M.length ≤ y := by rw [hI.mlen]; exact hy
  refine ⟨fun p hp => ?_, fun B hB => ?_⟩
  · obtain ⟨hg, hj'⟩ := getS_mem hS.desc hp
    have := hS.slot p.1 a.tmps[p.1] (by simp [hj'])
    rw [hg] at this
    exact refsA_lt hy' _ _ this
  · rw [List.mem_append] at hB
    rcases hB with hB | hB
    · obtain ⟨j, hj, rfl⟩ := List.mem_iff_getElem.1 hB
      have hm : j < M.length := by rw [hI.mlen]; exact hj
      have hb := hI.blk j M[j] (by simp [hm])
      have e : getB σ.h j = σ.h[j] := by simp [getB, hj]
      rw [e] at hb
      cases hbb : σ.h[j] with
      | box ty cs =>
        rw [hbb] at hb
        generalize M[j] = pm at hb
        cases hb with | box _ h => simpa [refsB] using refsLs_lt hy' h
      | _ => simp [refsB]
    · rw [List.mem_replicate] at hB
      rw [hB.2]
      simp [refsB]
end Sx
end
