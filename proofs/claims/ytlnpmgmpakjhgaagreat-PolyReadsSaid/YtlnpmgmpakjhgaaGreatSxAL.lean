/- A part of the proof of PolyReadsSaid: texts SxP. -/
import Derived.Test.YtlnpmgmpakjhgaaGreatSxAK
set_option linter.all false
namespace Sx
open Go
variable {P : Program} {C : Ctx} {τ : TypeId → Option TI} {CN : CNt}

section
variable {w : World} {M : Mp} {X : Nat → Prop}
def keepM (ids : List Nat) (M : Mp) : Mp := ids.map fun i => M.getD i .res
theorem idxOf_spec {ids : List Nat} {x j : Nat} (h : idxOf ids x = some j) : ids[j]? = some x := by
  unfold idxOf at h
  obtain ⟨hj, h1, _⟩ := List.findIdx?_eq_some_iff_getElem.1 h
  rw [List.getElem?_eq_getElem hj]
  simp at h1
  rw [h1]
theorem keepM_at {ids : List Nat} {M : Mp} {x j : Nat} {p : Pm} (h : idxOf ids x = some j) (hp : M[x]? = some p) : (keepM ids M)[j]? = some p := by
  simp [keepM, idxOf_spec h, hp]
mutual
theorem renL_rd (ids : List Nat) : ∀ (l : L) (v : Value), RdL w X M l v → RdL w X (keepM ids M) (renL ids l) v
  | .t x, v, h => by cases h; simp only [renL]; exact .t ‹_›
  | .nil, v, h => by cases h; simp only [renL]; exact .nil
  | .emp, v, h => by cases h; simp only [renL]; exact .emp
  | .tt, v, h => by cases h; simp only [renL]; exact .tt
  | .ff, v, h => by cases h; simp only [renL]; exact .ff
  | .any, v, h => by simp only [renL]; exact .any
  | .und, v, h => by cases h; simp only [renL]; exact .und
  | .row id n, v, h => by
    simp only [renL]
    split
    · rename_i j hj
      cases h with
      | row0 hp => exact .row0 (keepM_at hj hp)
      | row hp a b c d => exact .row (keepM_at hj hp) a b c d
    · exact .any
  | .sub id o n, v, h => by
    simp only [renL]
    split
    · rename_i j hj
      cases h with
      | sub0 hp a => exact .sub0 (keepM_at hj hp) a
      | sub hp a b c d e f => exact .sub (keepM_at hj hp) a b c d e f
    · exact .any
  | .bp id f, v, h => by
    simp only [renL]
    split
    · rename_i j hj
      cases h with | bp hp => exact .bp (keepM_at hj hp)
    · exact .any
  | .ep id i f, v, h => by
    simp only [renL]
    split
    · rename_i j hj
      cases h with | ep hp a b => exact .ep (keepM_at hj hp) a b
    · exact .any
  | .fp cs, v, h => by cases h; simp only [renL]; exact .fp ‹_›
  | .fn f caps, v, h => by
    cases h with | fn a b =>
    simp only [renL]
    obtain ⟨e, r⟩ := renLs_rd ids caps _ ⟨a, b⟩
    exact .fn e r
theorem renLs_rd (ids : List Nat) : ∀ (ls : List L) (vs : List Value), RdLs w X M ls vs → RdLs w X (keepM ids M) (renLs ids ls) vs
  | [], vs, h => by
    simp only [renLs]
    exact ⟨h.1, fun j l v hl => by simp at hl⟩
  | l :: ls, vs, h => by
    cases vs with
    | nil => have := h.1; simp at this
    | cons v vs =>
      have h0 := renL_rd ids l v (h.2 0 l v rfl rfl)
      obtain ⟨e, r⟩ := renLs_rd ids ls vs ⟨by have := h.1; simpa using this, fun j l u hl hu => h.2 (j + 1) l u (by simpa using hl) (by simpa using hu)⟩
      simp only [renLs]
      refine ⟨by simp [e], fun j l' u hl hu => ?_⟩
      cases j with
      | zero => simp at hl hu; subst hl; subst hu; exact h0
      | succ j => exact r j l' u (by simpa using hl) (by simpa using hu)
end
mutual
theorem renA_rd (ids : List Nat) : ∀ (x : AV) (v : Value), RdA w X M x v → RdA w X (keepM ids M) (renA ids x) v
  | .one l, v, h => by cases h with | one h => simp only [renA]; exact .one (renL_rd ids l v h)
  | .agg ls, v, h => by cases h with | agg h => simp only [renA]; exact .agg (renLs_rd ids ls _ h)
  | .tup xs, v, h => by
    cases h with | tup a b =>
    rename_i vs
    simp only [renA]
    obtain ⟨e, r⟩ := renAs_rd ids xs vs.toList (by simpa using a) (fun j x v h1 h2 => b j x v h1 (by simpa using h2))
    exact .tup (by simpa using e) (fun j x v h1 h2 => r j x v h1 (by simpa using h2))
theorem renAs_rd (ids : List Nat) : ∀ (xs : List AV) (vs : List Value), xs.length = vs.length → (∀ (j : Nat) (x : AV) (v : Value), xs[j]? = some x → vs[j]? = some v → RdA w X M x v) →
    (renAs ids xs).length = vs.length ∧ ∀ (j : Nat) (x : AV) (v : Value), (renAs ids xs)[j]? = some x → vs[j]? = some v → RdA w X (keepM ids M) x v
  | [], vs, h, _ => by
    simp only [renAs]
    exact ⟨h, fun j l v hl => by simp at hl⟩
  | x :: xs, vs, h, hr => by
    cases vs with
    | nil => simp at h
    | cons v vs =>
      have h0 := renA_rd ids x v (hr 0 x v rfl rfl)
      obtain ⟨e, r⟩ := renAs_rd ids xs vs (by simpa using h) (fun j l u hl hu => hr (j + 1) l u (by simpa using hl) (by simpa using hu))
      simp only [renAs]
      refine ⟨by simp [e], fun j l' u hl hu => ?_⟩
      cases j with
      | zero => simp at hl hu; subst hl; subst hu; exact h0
      | succ j => exact r j l' u (by simpa using hl) (by simpa using hu)
end
theorem renB_live (ids : List Nat) (B : Blk) : (renB ids B).live = B.live := by cases B <;> rfl
theorem renB_rd {ids : List Nat} {p : Pm} {B : Blk} (h : RdB w X M p B) : RdB w X (keepM ids M) p (renB ids B) := by
  cases h with
  | dead => exact .dead
  | res => exact .res
  | box a b => exact .box a (renLs_rd ids _ _ b)
  | sl0 => exact .sl0
  | sl a b c d e f g i => exact .sl a b c d e f g i
  | fz0 => exact .fz0
  | fz a b c d e x f g i => exact .fz a b c d e x f g i

theorem keepR_desc (live : List Nat) : ∀ {s : Slots} {n : Nat}, Desc n s → Desc n (keepR live s)
  | [], _, _ => trivial
  | p :: r, n, h => by
    have ih := keepR_desc live h.2
    simp only [keepR, cond_eq_ite]
    split
    · exact ⟨h.1, ih⟩
    · have up : ∀ {s : Slots} {m : Nat}, Desc p.1 s → p.1 ≤ m → Desc m s := by
        intro s m hs hm
        cases s with
        | nil => exact trivial
        | cons q s => exact ⟨Nat.lt_of_lt_of_le hs.1 hm, hs.2⟩
      exact up ih (Nat.le_of_lt h.1)
theorem keepR_get (live : List Nat) (i : Nat) : ∀ {s : Slots} {n : Nat}, Desc n s → getS (keepR live s) i = getS s i ∨ getS (keepR live s) i = .one .any
  | [], _, _ => .inl rfl
  | p :: r, n, h => by
    have ih := keepR_get live i h.2
    simp only [keepR, cond_eq_ite]
    split
    · rw [getS_cons, getS_cons]
      split
      · exact .inl rfl
      · exact ih
    · rw [getS_cons]
      split
      · rename_i e
        exact .inr (getS_desc (keepR_desc live h.2) (by omega))
      · exact ih
theorem keepS_sl {s : Slots} {a : Act} (live : List Nat) (hS : Sl s a w M X) : Sl (keepS live s) a w M X := by
  refine ⟨?_, fun i v hv => ?_, hS.defers⟩
  · have h := hS.desc
    cases s with
    | nil => exact trivial
    | cons p r =>
      simp only [keepS, cond_eq_ite]
      split <;> exact ⟨h.1, keepR_desc live h.2⟩
  · have h := hS.desc
    have hs := hS.slot i v hv
    cases s with
    | nil => exact hs
    | cons p r =>
      rw [getS_cons] at hs
      have hk' : getS (keepS live (p :: r)) i = if p.1 = i then (if live.contains p.1 = true then p.2 else .one .any) else getS (keepR live r) i := by
        simp only [keepS, cond_eq_ite]
        rw [getS_cons]
        split <;> rfl
      rw [hk']
      by_cases e : p.1 = i
      · rw [if_pos e] at hs ⊢
        split
        · exact hs
        · exact .one .any
      · rw [if_neg e] at hs ⊢
        rcases keepR_get live i h.2 with hk | hk
        · rw [hk]; exact hs
        · rw [hk]; exact .one .any
theorem renS_desc (ids : List Nat) : ∀ {s : Slots} {n : Nat}, Desc n s → Desc n (renS ids s)
  | [], _, _ => trivial
  | p :: r, n, h => ⟨h.1, renS_desc ids h.2⟩
theorem renS_get (ids : List Nat) (i : Nat) : ∀ s : Slots, getS (renS ids s) i = renA ids (getS s i)
  | [] => rfl
  | p :: r => by
    simp only [renS]
    rw [getS_cons, getS_cons]
    simp only
    split
    · rfl
    · exact renS_get ids i r
theorem nodupB_inj : ∀ {ids : List Nat}, nodupB ids = true → ∀ (j j' x : Nat), ids[j]? = some x → ids[j']? = some x → j = j'
  | [], _, j, j', x, h, _ => by simp at h
  | y :: ids, hn, j, j', x, h, h' => by
    simp only [nodupB, Bool.and_eq_true, Bool.not_eq_true', List.contains_eq_mem, decide_eq_false_iff_not] at hn
    cases j with
    | zero =>
      cases j' with
      | zero => rfl
      | succ j' =>
        simp at h h'
        subst h
        exact absurd (List.mem_of_getElem? h') hn.1
    | succ j =>
      cases j' with
      | zero =>
        simp at h h'
        subst h'
        exact absurd (List.mem_of_getElem? h) hn.1
      | succ j' => rw [nodupB_inj hn.2 j j' x (by simpa using h) (by simpa using h')]
theorem Rel.gcWith {σ : St} {a : Act} {w : World} (hR : Rel C σ a w) (ids live : List Nat) (hpin : ∀ j, j < C.M0.length → ids[j]? = some j) : Rel C (gcWith ids live σ) a w := by
  obtain ⟨M, X, hI, hS⟩ := hR
  unfold Sx.gcWith
  split
  · rename_i hn
    have get : ∀ (j : Nat) (p : Pm), (keepM ids M)[j]? = some p → ∃ i, ids[j]? = some i ∧ p = M.getD i .res ∧ getB (ids.map fun i => renB ids (getB σ.h i)) j = renB ids (getB σ.h i) := fun j p hj => by
      simp only [keepM, List.getElem?_map, Option.map_eq_some_iff] at hj
      obtain ⟨i, hi, rfl⟩ := hj
      exact ⟨i, hi, rfl, by simp [getB, hi]⟩
    have ofAt : ∀ (i : Nat) (p : Pl), Pm.at p = M.getD i .res → M[i]? = some (.at p) := fun i p h => by
      rw [List.getD_eq_getElem?_getD] at h
      cases hm : M[i]? with
      | none => rw [hm] at h; cases h
      | some q => rw [hm] at h; simp at h; rw [h]
    refine ⟨keepM ids M, X, ⟨hI.os, hI.tape, hI.output, hI.size, hI.frame, hI.xlt, hI.xsub, hI.x0, by simp [keepM], ⟨?_, fun j p hj hn => ?_⟩, fun j p hj hl => ?_, fun j j' p p' hj hj' hl hl' hb => ?_, fun j p hj => ?_⟩, ?_⟩
    · rcases Nat.lt_or_ge 0 C.M0.length with h0 | h0
      · have := (List.getElem?_eq_some_iff.1 (hpin (C.M0.length - 1) (by omega))).1
        simp [keepM]
        omega
      · omega
    · have h1 := hpin j (List.getElem?_eq_some_iff.1 hj).1
      simp only [keepM, List.getElem?_map, h1, Option.map_some, List.getD_eq_getElem?_getD, hI.pin.2 j p hj hn, Option.getD_some]
    · obtain ⟨i, _, hp, hb⟩ := get j _ hj
      rw [hb, renB_live] at hl
      exact hI.live i p (ofAt i p hp) hl
    · obtain ⟨i, hi, hp, hbb⟩ := get j _ hj
      obtain ⟨i', hi', hp', hbb'⟩ := get j' _ hj'
      rw [hbb, renB_live] at hl
      rw [hbb', renB_live] at hl'
      have := hI.inj i i' p p' (ofAt i p hp) (ofAt i' p' hp') hl hl' hb
      subst this
      exact nodupB_inj hn j j' i hi hi'
    · obtain ⟨i, _, hp, hb⟩ := get j _ hj
      rw [hb]
      by_cases hi : i < M.length
      · have : M[i]? = some p := by rw [hp, List.getD_eq_getElem?_getD]; simp [hi]
        exact renB_rd (hI.blk i p this)
      · have : getB σ.h i = .dead := by
          simp only [getB, List.getD_eq_getElem?_getD]
          rw [List.getElem?_eq_none (by rw [← hI.mlen]; omega)]
          rfl
        rw [this]
        exact .dead
    · have hk := keepS_sl live hS
      exact ⟨renS_desc ids hk.desc, fun i v hv => by rw [renS_get]; exact renA_rd ids _ _ (hk.slot i v hv), hk.defers⟩
  · exact ⟨M, X, hI, ⟨trivial, fun i v hv => .one .any, hS.defers⟩⟩
end

theorem Inv.addNil {H : List Blk} {w : World} {M : Mp} {X : Nat → Prop} (hI : Inv C H w M X) (e : TypeId) (sz : Nat) (g : Int → List T) : Inv C (H ++ [.sl e sz 0 g]) w (M ++ [.nil]) X ∧ Ext M (M ++ [.nil]) := by
  have he : Ext M (M ++ [.nil]) := fun id p hp _ => by
    have := (List.getElem?_eq_some_iff.1 hp).1
    rw [List.getElem?_append_left this]; exact hp
  have old : ∀ (j : Nat) (p : Pl), (M ++ [Pm.nil])[j]? = some (Pm.at p) → M[j]? = some (Pm.at p) := fun j p hj => by
    rcases Nat.lt_or_ge j M.length with h | h
    · rw [List.getElem?_append_left h] at hj; exact hj
    · rw [List.getElem?_append_right h] at hj
      cases hk : j - M.length with
      | zero => rw [hk] at hj; simp at hj
      | succ k => rw [hk] at hj; simp at hj
  have hb : ∀ j, j < M.length → getB (H ++ [.sl e sz 0 g]) j = getB H j := fun j hj => by
    unfold getB
    rw [List.getD_eq_getElem?_getD, List.getD_eq_getElem?_getD, List.getElem?_append_left (by rw [← hI.mlen]; exact hj)]
  have lt : ∀ (j : Nat) (p : Pm), M[j]? = some p → j < M.length := fun j p h => (List.getElem?_eq_some_iff.1 h).1
  refine ⟨⟨hI.os, hI.tape, hI.output, hI.size, hI.frame, hI.xlt, hI.xsub, hI.x0, by simp [hI.mlen], ⟨by have := hI.pin.1; simp; omega, hI.pin.2.trans he⟩, fun j p hj hl => ?_, fun j j' p p' hj hj' hl hl' hbb => ?_, fun j p hj => ?_⟩, he⟩
  · have h1 := old j p hj
    rw [hb j (lt j _ h1)] at hl
    exact hI.live j p h1 hl
  · have h1 := old j p hj
    have h2 := old j' p' hj'
    rw [hb j (lt j _ h1)] at hl
    rw [hb j' (lt j' _ h2)] at hl'
    exact hI.inj j j' p p' h1 h2 hl hl' hbb
  · rcases Nat.lt_or_ge j M.length with h | h
    · rw [List.getElem?_append_left h] at hj
      rw [hb j h]
      exact (hI.blk j p hj).mono (fun _ _ => rfl) (fun _ h => h) he (fun _ _ _ => rfl)
    · rw [List.getElem?_append_right h] at hj
      have hj0 : j = M.length := by
        have := (List.getElem?_eq_some_iff.1 hj).1
        simp at this; omega
      subst hj0
      simp at hj
      subst hj
      have : getB (H ++ [.sl e sz 0 g]) M.length = .sl e sz 0 g := by
        unfold getB
        rw [List.getD_eq_getElem?_getD, hI.mlen, List.getElem?_append_right (Nat.le_refl _)]
        simp
      rw [this]
      exact .sl0
theorem Rel.rowS1 {σ : St} {a : Act} {w : World} (hR : Rel C σ a w) (d : Nat) (e : TypeId) (sz : Nat) : Rel C (rowS1 d e sz σ) a w := by
  have key : ((getS σ.s d = .one .nil) ∨ getS σ.s d = .one .emp) → Rel C ⟨putI σ.s d (.one (.row σ.h.length 0)), σ.h ++ [.sl e sz 0 (fun _ => [])]⟩ a w := by
    intro hg
    obtain ⟨M, X, hI, hS⟩ := hR
    obtain ⟨hI', he⟩ := hI.addNil e sz (fun _ => [])
    have hn : (M ++ [.nil])[σ.h.length]? = some .nil := by rw [← hI.mlen, List.getElem?_append_right (Nat.le_refl _)]; simp
    refine ⟨_, X, hI', desc_putI hS.desc, fun i v hv => ?_, hS.defers⟩
    by_cases hd : d = i
    · subst hd
      rcases getS_putI hS.desc d (.one (.row σ.h.length 0)) with h | h
      · rw [h]
        have := hS.slot d v hv
        rcases hg with hg | hg
        · rw [hg] at this
          cases this with | one h => cases h; exact .one (.row0 hn)
        · rw [hg] at this
          cases this with | one h => cases h; exact .one (.row0 hn)
      · rw [h]; exact .one .any
    · rw [getS_putI_ne _ _ hd]
      exact (hS.slot i v hv).mono (fun _ _ => rfl) (fun _ h => h) he
  have key2 : ((getS σ.s d = .one .nil) ∨ getS σ.s d = .one .emp) → Rel C ⟨putI σ.s d (.one (.t (.sl sz 0 (fun _ => [])))), σ.h⟩ a w := by
    intro hg
    obtain ⟨M, X, hI, hS⟩ := hR
    have hnil : ∀ {base : Option Addr} {cap : Nat}, cap ≤ maxLen → RdT w X (.sl sz 0 (fun _ => [])) (.slice base 0 cap) := fun hc => .sl ⟨0, 0, none⟩ (fun _ _ => undef) rfl (Nat.zero_le _) hc (fun i hi => by omega) (fun h => by omega) (fun i f hi => by omega) (fun i f t hi => by omega)
    refine ⟨M, X, hI, desc_putI hS.desc, fun i v hv => ?_, hS.defers⟩
    by_cases hd : d = i
    · subst hd
      rcases getS_putI hS.desc d (.one (.t (.sl sz 0 (fun _ => [])))) with h | h
      · rw [h]
        have := hS.slot d v hv
        rcases hg with hg | hg
        · rw [hg] at this
          cases this with | one h => cases h; exact .one (.t (hnil (Nat.zero_le _)))
        · rw [hg] at this
          cases this with | one h => cases h; exact .one (.t (hnil (Nat.zero_le _)))
      · rw [h]; exact .one .any
    · rw [getS_putI_ne _ _ hd]
      exact hS.slot i v hv
  unfold Sx.rowS1
  split
  · rename_i h
    split
    · exact key2 (.inl h)
    · exact key (.inl h)
  · rename_i h
    split
    · exact key2 (.inr h)
    · exact key (.inr h)
  · exact hR
theorem Rel.rowS {a : Act} {w : World} : ∀ (rows : List (Nat × TypeId × Nat)) {σ : St}, Rel C σ a w → Rel C (rowS rows σ) a w
  | [], σ, h => h
  | r :: rs, σ, h => Rel.rowS rs (h.rowS1 r.1 r.2.1 r.2.2)

theorem reach_pre (H : List Blk) : ∀ (n : Nat) (done todo : List Nat), ∃ r, reach H n done todo = done ++ r
  | 0, done, _ => ⟨[], by simp [reach]⟩
  | n + 1, done, [] => ⟨[], by simp [reach]⟩
  | n + 1, done, x :: todo => by
    simp only [reach]
    split
    · exact reach_pre H n done todo
    · obtain ⟨r, hr⟩ := reach_pre H n (done ++ [x]) (todo ++ refsB (getB H x))
      exact ⟨x :: r, by rw [hr]; simp⟩
theorem Rel.gc {σ : St} {a : Act} {w : World} (hR : Rel C σ a w) (live : List Nat) {pin : Nat} (hp : C.M0.length = pin) : Rel C (gc pin live σ) a w := by
  refine hR.gcWith _ _ (fun j hj => ?_)
  unfold gcIds
  obtain ⟨r, hr⟩ := reach_pre σ.h 64 (List.range pin) (refsS (keepS live σ.s) ++ (List.range pin).flatMap fun j => refsB (getB σ.h j))
  rw [hr, List.getElem?_append_left (by simp; omega), List.getElem?_range (by omega)]

theorem wp_loop_ix {c : Code} {Q : Exit → Act → World → Prop} {a : Act} {w : World} (I : Nat → Act → World → Prop) (h₀ : ∃ d, I d a w)
    (round : ∀ d a w, I d a w → c.wp P (Exit.then (fun a' w' => ∃ d', d' < d ∧ I d' a' w') Q) a w) : (Code.loop c).wp P Q a w := by
  intro b k cs
  have key : ∀ n a w, I n a w →
      ∃ e a' w', Q e a' w' ∧ Arrives P (lone (b.at a (.code c :: .inLoop c :: k)) cs w) b k cs e a' w' := by
    intro n
    induction n using Nat.strongRecOn with
    | _ n ih =>
      intro a w hI
      obtain ⟨e, a₁, w₁, hq, harr⟩ := round n a w hI b (.inLoop c :: k) cs
      cases e with
      | normal =>
        obtain ⟨d', hlt, hI₁⟩ := hq
        obtain ⟨e₂, a₂, w₂, hq₂, harr₂⟩ := ih d' hlt a₁ w₁ hI₁
        exact ⟨e₂, a₂, w₂, hq₂, .of_steps (Steps.trans harr (.one step_inLoop)) harr₂⟩
      | exit id => exact ⟨_, a₁, w₁, hq, .pass (x := .inLoop c) rfl (fun _ _ => .inl (by simp)) harr⟩
      | goto l => exact ⟨_, a₁, w₁, hq, .pass (x := .inLoop c) rfl (fun _ _ => .inl (by simp)) harr⟩
      | ret => exact ⟨_, a₁, w₁, hq, .pass (x := .inLoop c) rfl (fun _ _ => .inl (by simp)) harr⟩
      | panic ch => exact ⟨_, a₁, w₁, hq, .pass (x := .inLoop c) rfl (fun _ _ => .inl (by simp)) harr⟩
      | outgrown => exact ⟨_, a₁, w₁, hq, .pass (x := .inLoop c) rfl (fun _ _ => .inl (by simp)) harr⟩
  obtain ⟨d, hd⟩ := h₀
  obtain ⟨e, a', w', hq, harr⟩ := key d a w hd
  exact ⟨e, a', w', hq, .of_steps (.one step_loop) harr⟩

end Sx
