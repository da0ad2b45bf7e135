/- A part of the proof of PolyReadsSaid: texts SxQ SxR. -/
import Derived.Test.YtlnpmgmpakjhgaaGreatSxAL
set_option linter.all false
section
namespace Sx
open Go
variable {P : Program} {C : Ctx} {τ : TypeId → Option TI} {CN : CNt}

def CallD (P : Program) : CNt := fun g args H K => ∃ ts r, (tos H args = some ts ∨ (pks q0 H args = some ts ∧ scal r = true)) ∧ PureC P g ts (fun x => x = r) ∧ K (ofTV r) H

theorem CallD.toN {g : FuncId} {args : List AV} {H : List Blk} {K : AV → List Blk → Prop} (h : CallD P g args H K) : CallN P g args H K := by
  obtain ⟨ts, r, ht | ⟨ht, hs⟩, hc, hK⟩ := h
  · exact CallN.pure ht hc (fun _ e => by rw [e]; exact hK)
  · exact CallN.look ht hc (fun _ e => by rw [e]; exact ⟨hs, hK⟩)

def opKind (τ : TypeId → Option TI) : Op → Nat
  | .move _ | .assign _ | .pick .. | .alloc _ | .box .. | .build .. | .nilCheck _ | .unOp .. | .convert .. | .makeFunc .. | .makeSlice .. | .fieldAddr .. | .field .. | .index .. | .extract .. => 0
  | .binOp _ xT _ _ _ => match (τ xT).map TI.und with | some (UT.slice _) => 5 | _ => 0
  | .slice .. | .indexAddr .. => 1
  | .load .. | .buildSlice .. => 2
  | .store .. => 3
  | .call c => match c.callee with
    | .value _ => 2
    | .builtin .len => 0
    | .builtin .min => 0
    | .builtin .max => 0
    | .builtin .append => 4
    | .builtin .copy => 3
    | _ => 5
  | _ => 5
def kindsOk (i j : Nat) : Bool := (i ≤ 2 && j ≤ 2) || (i ≤ 1 && j == 3) || (i == 3 && j ≤ 1) || (i == 0 && j == 4) || (i == 4 && j == 0)

def shapeB : Blk → Nat × Nat
  | .dead => (0, 0)
  | .res => (1, 0)
  | .box .. => (2, 0)
  | .sl _ sz _ _ => (3, sz)
  | .fz sz _ _ => (4, sz)

def upd (H : List Blk) (δ : List (Nat × Blk)) : List Blk := δ.foldl (fun H p => H.set p.1 p.2) H
def Fresh (y : Nat) (s : Slots) (H : List Blk) : Prop := (∀ p ∈ s, y ∉ refsA p.2) ∧ ∀ B ∈ H, y ∉ refsB B

structure Agr (k : Nat) (xs : List Operand) (s s' : Slots) (H H' : List Blk) : Prop where
  ops : ∀ x ∈ xs, ev s' x = ev s x
  shape : 1 ≤ k → ∀ x ∈ xs, ∀ b ∈ refsA (ev s x), shapeB (getB H' b) = shapeB (getB H b)
  cont : 2 ≤ k → ∀ x ∈ xs, ∀ b ∈ refsA (ev s x), getB H' b = getB H b

theorem refs_ev {y : Nat} {s : Slots} {H : List Blk} (hf : Fresh y s H) (x : Operand) : y ∉ refsA (ev s x) := by
  cases x with
  | tmp t =>
    simp only [ev]
    have hs := hf.1
    clear hf
    induction s with
    | nil => simp [getS, refsA, refsL]
    | cons p r ih =>
      rw [getS_cons]
      split
      · exact hs p (List.mem_cons_self ..)
      · exact ih (fun q hq => hs q (List.mem_cons_of_mem _ hq))
  | const v =>
    simp only [ev, refsA]
    unfold ofValue
    split <;> simp [refsL]
  | func f => simp [ev, refsA, refsL, refsLs]
  | «global» g => simp [ev, refsA, refsL]
theorem refs_getB {y : Nat} {s : Slots} {H : List Blk} (hf : Fresh y s H) (b : Nat) : y ∉ refsB (getB H b) := by
  unfold getB
  rw [List.getD_eq_getElem?_getD]
  cases h : H[b]? with
  | none => simp [refsB]
  | some B => simp; exact hf.2 B (List.mem_of_getElem? h)

theorem refsLs_mem {y : Nat} : ∀ {ls : List L}, y ∈ refsLs ls ↔ ∃ l ∈ ls, y ∈ refsL l
  | [] => by simp [refsLs]
  | l :: r => by simp [refsLs, refsLs_mem (ls := r)]
theorem refsLs_sub {y : Nat} {ls ls' : List L} (h : ∀ l ∈ ls', l ∈ ls) (hy : y ∈ refsLs ls') : y ∈ refsLs ls := by
  rw [refsLs_mem] at hy ⊢
  obtain ⟨l, a, b⟩ := hy
  exact ⟨l, h l a, b⟩
theorem refsAs_mem {y : Nat} : ∀ {xs : List AV}, y ∈ refsAs xs ↔ ∃ l ∈ xs, y ∈ refsA l
  | [] => by simp [refsAs]
  | l :: r => by simp [refsAs, refsAs_mem (xs := r)]
theorem refsLs_T {y : Nat} (ts : List T) : y ∉ refsLs (ts.map L.t) := by
  rw [refsLs_mem]
  rintro ⟨l, hl, hy⟩
  simp only [List.mem_map] at hl
  obtain ⟨t, _, rfl⟩ := hl
  simp [refsL] at hy
theorem refs_cellsOf {y : Nat} {v : AV} (h : y ∈ refsLs (cellsOf v)) : y ∈ refsA v := by
  cases v with
  | one l => simpa [cellsOf, refsLs, refsA] using h
  | agg ls => simpa [cellsOf, refsA] using h
  | tup xs => simp [cellsOf, refsLs] at h
theorem refs_oneOf {y : Nat} {v : AV} (h : y ∈ refsL (oneOf v)) : y ∈ refsA v := by
  cases v with
  | one l => simpa [oneOf, refsA] using h
  | agg ls => simp [oneOf, refsL] at h
  | tup xs => simp [oneOf, refsL] at h
theorem refs_asV {y : Nat} {ag : Bool} {ls : List L} (h : y ∈ refsA (asV ag ls)) : y ∈ refsLs ls := by
  unfold asV at h
  split at h
  · simpa [refsA] using h
  · simp only [refsA, List.getD_eq_getElem?_getD] at h
    cases h0 : ls[0]? with
    | none => rw [h0] at h; simp [refsL] at h
    | some l => rw [h0] at h; rw [refsLs_mem]; exact ⟨l, List.mem_of_getElem? h0, by simpa using h⟩
theorem refs_ofTV : ∀ (x : TV) (y : Nat), y ∉ refsA (ofTV x)
  | .one t, y => by simp [ofTV, refsA, refsL]
  | .agg ts, y => by simp only [ofTV, refsA]; exact refsLs_T ts
  | .tup xs, y => by
    simp only [ofTV, refsA]
    rw [refsAs_mem]
    rintro ⟨l, hl, hy⟩
    rw [ofTVs_eq, List.mem_map] at hl
    obtain ⟨t, ht, rfl⟩ := hl
    exact refs_ofTV t y hy

def NF (CN : CNt) (τ : TypeId → Option TI) (o : Op) (s : Slots) (H : List Blk) (id : Nat) (K : AV → List Blk → Prop) : Prop :=
  ∃ v δ, K v (upd H δ) ∧ (∀ p ∈ δ, (p.1 = id ∧ lays o = true) ∨ (3 ≤ opKind τ o ∧ ∃ x ∈ o.operands.toList, p.1 ∈ refsA (ev s x))) ∧
    (opKind τ o = 3 → ∀ p ∈ δ, shapeB p.2 = shapeB (getB H p.1)) ∧
    (∀ y, (lays o = true → y ≠ id) → Fresh y s H → y ∉ refsA v ∧ ∀ p ∈ δ, y ∉ refsB p.2) ∧
    ∀ s' H' (K' : AV → List Blk → Prop), Agr (opKind τ o) o.operands.toList s s' H H' → K' v (upd H' δ) → opRun CN q0 τ o s' H' id K'

theorem NF.mk0 {o : Op} {s : Slots} {H : List Blk} {id : Nat} {K : AV → List Blk → Prop} (v : AV) (hK : K v H) (hf : ∀ y, Fresh y s H → y ∉ refsA v)
    (ht : ∀ s' H' (K' : AV → List Blk → Prop), Agr (opKind τ o) o.operands.toList s s' H H' → K' v H' → opRun CN q0 τ o s' H' id K') : NF CN τ o s H id K :=
  ⟨v, [], hK, by simp, by simp, fun y _ hy => ⟨hf y hy, by simp⟩, ht⟩
end Sx
end

section
namespace Sx
open Go
variable {P : Program} {C : Ctx} {τ : TypeId → Option TI} {CN : CNt}
variable {s : Slots} {H : List Blk} {id : Nat} {K : AV → List Blk → Prop}

theorem refs_setAtL {y : Nat} {cs vs : List L} {f : Nat} (h : y ∈ refsLs (setAtL cs f vs)) : y ∈ refsLs cs ∨ y ∈ refsLs vs := by
  rw [refsLs_mem] at h
  obtain ⟨l, hl, hy⟩ := h
  simp only [setAtL, List.mem_append] at hl
  rcases hl with (hl | hl) | hl
  · exact .inl (refsLs_mem.2 ⟨l, List.mem_of_mem_take hl, hy⟩)
  · exact .inr (refsLs_mem.2 ⟨l, hl, hy⟩)
  · exact .inl (refsLs_mem.2 ⟨l, List.mem_of_mem_drop hl, hy⟩)
theorem partsGo_same {fs : List (Nat × Nat × Bool)} {s s' : Slots} : ∀ {ps : List (Nat × Operand)} {cs : List L}, (∀ x ∈ ps.map (·.2), ev s' x = ev s x) → partsGo fs s' cs ps = partsGo fs s cs ps
  | [], cs, _ => rfl
  | (i, x) :: r, cs, h => by
    simp only [partsGo]
    rw [h x (by simp)]
    split
    · split
      · exact partsGo_same (fun x hx => h x (by simp at hx ⊢; exact .inr hx))
      · rfl
    · rfl
theorem partsGo_refs {fs : List (Nat × Nat × Bool)} {s : Slots} {y : Nat} : ∀ {ps : List (Nat × Operand)} {cs cs' : List L}, partsGo fs s cs ps = some cs' → (∀ x ∈ ps.map (·.2), y ∉ refsA (ev s x)) → y ∉ refsLs cs → y ∉ refsLs cs'
  | [], cs, cs', h, _, hc => by simp only [partsGo, Option.some.injEq] at h; rwa [← h]
  | (i, x) :: r, cs, cs', h, hx, hc => by
    simp only [partsGo] at h
    split at h
    · split at h
      · refine partsGo_refs h (fun x h => hx x (by simp at h ⊢; exact .inr h)) (fun hy => ?_)
        rcases refs_setAtL hy with hy | hy
        · exact hc hy
        · exact hx x (by simp) (refs_cellsOf hy)
      · cases h
    · cases h
theorem toT_same {H H' : List Blk} {l : L} (h : ∀ b ∈ refsL l, getB H' b = getB H b) : toT H' l = toT H l := by
  cases l <;> simp only [toT]
  rw [h _ (by simp [refsL])]
theorem toTs_same {H H' : List Blk} : ∀ {ls : List L}, (∀ b ∈ refsLs ls, getB H' b = getB H b) → toTs H' ls = toTs H ls
  | [], _ => rfl
  | l :: r, h => by
    simp only [toTs]
    rw [toT_same (fun b hb => h b (by simp [refsLs, hb])), toTs_same (ls := r) (fun b hb => h b (by simp [refsLs, hb]))]
theorem to1_same {H H' : List Blk} {x : AV} (h : ∀ b ∈ refsA x, getB H' b = getB H b) : to1 H' x = to1 H x := by
  cases x with
  | one l => simp only [to1]; rw [toT_same (by simpa [refsA] using h)]
  | agg ls => simp only [to1]; rw [toTs_same (by simpa [refsA] using h)]
  | tup xs => rfl
theorem tos_same {H H' : List Blk} : ∀ {xs : List AV}, (∀ b ∈ refsAs xs, getB H' b = getB H b) → tos H' xs = tos H xs
  | [], _ => rfl
  | x :: r, h => by
    simp only [tos]
    rw [to1_same (fun b hb => h b (by simp [refsAs, hb])), tos_same (xs := r) (fun b hb => h b (by simp [refsAs, hb]))]
theorem pkT_same {H H' : List Blk} {l : L} (h : ∀ b ∈ refsL l, getB H' b = getB H b) : pkT q0 H' l = pkT q0 H l := by
  cases l <;> simp only [pkT] <;> rw [h _ (by simp [refsL])]
theorem pkTs_same {H H' : List Blk} : ∀ {ls : List L}, (∀ b ∈ refsLs ls, getB H' b = getB H b) → pkTs q0 H' ls = pkTs q0 H ls
  | [], _ => rfl
  | l :: r, h => by
    simp only [pkTs]
    rw [pkT_same (fun b hb => h b (by simp [refsLs, hb])), pkTs_same (ls := r) (fun b hb => h b (by simp [refsLs, hb]))]
theorem pk1_same {H H' : List Blk} {x : AV} (h : ∀ b ∈ refsA x, getB H' b = getB H b) : pk1 q0 H' x = pk1 q0 H x := by
  cases x with
  | one l => simp only [pk1]; rw [pkT_same (by simpa [refsA] using h)]
  | agg ls => simp only [pk1]; rw [pkTs_same (by simpa [refsA] using h)]
  | tup xs => rfl
theorem pks_same {H H' : List Blk} : ∀ {xs : List AV}, (∀ b ∈ refsAs xs, getB H' b = getB H b) → pks q0 H' xs = pks q0 H xs
  | [], _ => rfl
  | x :: r, h => by
    simp only [pks]
    rw [pk1_same (fun b hb => h b (by simp [refsAs, hb])), pks_same (xs := r) (fun b hb => h b (by simp [refsAs, hb]))]
theorem rowsGo_same {H H' : List Blk} {s s' : Slots} {sz : Nat} : ∀ {ps : List (Nat × Operand)} {rows : List (List T)}, (∀ x ∈ ps.map (·.2), ev s' x = ev s x) → (∀ x ∈ ps.map (·.2), ∀ b ∈ refsA (ev s x), getB H' b = getB H b) →
    rowsGo H' s' sz rows ps = rowsGo H s sz rows ps
  | [], rows, _, _ => rfl
  | (i, x) :: r, rows, h, h2 => by
    simp only [rowsGo]
    rw [h x (by simp), toTs_same (H := H) (fun b hb => h2 x (by simp) b (refs_cellsOf hb))]
    split
    · split
      · exact rowsGo_same (fun x hx => h x (by simp at hx ⊢; exact .inr hx)) (fun x hx => h2 x (by simp at hx ⊢; exact .inr hx))
      · rfl
    · rfl
theorem srcOf_same {H H' : List Blk} {sz0 : Nat} {x : AV} (h : ∀ b ∈ refsA x, getB H' b = getB H b) : srcOf q0 H' sz0 x = srcOf q0 H sz0 x := by
  unfold srcOf
  split <;> first | rfl | (rw [h _ (by simp [refsA, refsL])])
theorem optInt_same {s s' : Slots} {x : Option Operand} (h : ∀ y ∈ x.toArray.toList, ev s' y = ev s y) : optInt s' x = optInt s x := by
  cases x with
  | none => rfl
  | some x => simp only [optInt]; rw [h x (by simp)]
theorem blkIs_same {H H' : List Blk} {b esz : Nat} (h : shapeB (getB H' b) = shapeB (getB H b)) : blkIs H' b esz = blkIs H b esz := by
  unfold blkIs
  cases h1 : getB H b <;> cases h2 : getB H' b <;> simp_all [shapeB]

theorem intOp_nf {op : BinOp} {k : IntKind} {a b : Int} {K : L → Prop} (h : intOp q0 op k a b K) : ∃ l, K l ∧ (∀ y, y ∉ refsL l) ∧ ∀ K' : L → Prop, K' l → intOp q0 op k a b K' := by
  cases op <;> simp only [intOp] at h ⊢ <;> first
    | exact h.elim
    | (cases h with | mk a b => exact ⟨_, b, by simp [refsL], fun K' hk => .mk a hk⟩)
    | exact ⟨_, h, by simp [refsL], fun K' hk => hk⟩
theorem runOpBin_nf {u : Option UT} (hu : ∀ e, u ≠ some (.slice e)) {op : BinOp} {x y : AV} {K : L → Prop} (h : runOpBin q0 u op x y K) : ∃ l, K l ∧ (∀ y, y ∉ refsL l) ∧ ∀ K' : L → Prop, K' l → runOpBin q0 u op x y K' := by
  unfold runOpBin at h ⊢
  split at h
  · split at h
    · cases h with | mk a b => exact ⟨_, b, by simp [refsL], fun K' hk => .mk a hk⟩
    · cases h with | mk a b => exact ⟨_, b, by simp [refsL], fun K' hk => .mk a hk⟩
    · split at h
      · rename_i e
        obtain ⟨l, h1, h2, h3⟩ := intOp_nf h
        refine ⟨l, h1, h2, fun K' hk => ?_⟩
        rw [if_pos e]
        exact h3 K' hk
      · exact h.elim
  · split at h
    · rename_i e
      unfold fltOp at h
      cases h with | mk a b => exact ⟨_, b, by simp [refsL], fun K' hk => by rw [if_pos e]; exact .mk a hk⟩
    · exact h.elim
  · split at h
    · exact ⟨_, h, by simp [refsL], fun K' hk => hk⟩
    · exact ⟨_, h, by simp [refsL], fun K' hk => hk⟩
    · exact h.elim
  · split at h
    · exact ⟨_, h, by simp [refsL], fun K' hk => hk⟩
    · exact ⟨_, h, by simp [refsL], fun K' hk => hk⟩
    · cases h with | mk a b => exact ⟨_, b, by simp [refsL], fun K' hk => .mk a hk⟩
    · exact h.elim
  · split at h
    · exact absurd rfl (hu _)
    · exact absurd rfl (hu _)
    · exact h.elim
  · split at h
    · exact absurd rfl (hu _)
    · exact absurd rfl (hu _)
    · exact h.elim
  · exact h.elim
end Sx
end
