/- A part of the proof of PolyReadsSaid: texts SxY SxZ. -/
import Derived.Test.YtlnpmgmpakjhgaaGreatSxAQ
set_option linter.all false
section
namespace Sx
open Go
variable {P : Program} {C : Ctx} {τ : TypeId → Option TI} {CN DN : CNt}

def loopU (pin : Nat) (body : St → (Ex → St → Prop) → Prop) (live : List Nat) : Nat → St → (Ex → St → Prop) → Prop
  | 0, _, _ => False
  | n + 1, σ, Q => body σ (fun e σ' => match e with
    | .normal => loopU pin body live n (gc pin live σ') Q
    | .exit i => Q (.exit i) σ'
    | .ret => Q .ret σ')
inductive LoopN (pin : Nat) (body : St → (Ex → St → Prop) → Prop) (σ : St) (Q : Ex → St → Prop) : Prop
  | mk (live : List Nat) (inv : Nat → St → Prop) : (∃ d, inv d (gc pin live σ)) →
      (∀ d σ', inv d σ' → ∀ K : St → Prop, (∀ σ'', (∃ d', d' < d ∧ inv d' σ'') → K σ'') → body σ' (loopK pin live K Q)) →
      LoopN pin body σ Q
  | mr (live : List Nat) (rows : List (Nat × TypeId × Nat)) (inv : Nat → St → Prop) : (∃ d, inv d (gc pin live (rowS rows σ))) →
      (∀ d σ', inv d σ' → ∀ K : St → Prop, (∀ σ'', (∃ d', d' < d ∧ inv d' σ'') → K σ'') → body σ' (loopR pin live rows K Q)) →
      LoopN pin body σ Q
  | un (live : List Nat) (n : Nat) : loopU pin body live n (gc pin live σ) Q → LoopN pin body σ Q

def awp (CN DN : CNt) (q : Qt) (τ : TypeId → Option TI) (pin : Nat) : Code → St → (Ex → St → Prop) → Prop
  | .skip, σ, Q => Q .normal σ
  | .region _ ops false, σ, Q => regRun CN q τ ops.toList σ (Q .normal)
  | .region _ ops true, σ, Q => Need (fun _ => Region.lexB .any ops = true ∧ drawOk τ ops.toList = true) (regRun DN q τ ops.toList σ (Q .normal))
  | .seq a b, σ, Q => awp CN DN q τ pin a σ (seqK (awp CN DN q τ pin b) Q)
  | .cond c t e, σ, Q => match ev σ.s c with
    | .one .tt => awp CN DN q τ pin t σ Q
    | .one .ff => awp CN DN q τ pin e σ Q
    | .one (.t (.bool b)) => cond b (awp CN DN q τ pin t σ Q) (awp CN DN q τ pin e σ Q)
    | _ => False
  | .block id c, σ, Q => awp CN DN q τ pin c σ (blockK id Q)
  | .loop c, σ, Q => LoopN pin (awp CN DN q τ pin c) σ Q
  | .exit id, σ, Q => Q (.exit id) σ
  | .ret, σ, Q => Q .ret σ
  | .label _, σ, Q => Q .normal σ
  | _, _, _ => False

theorem awp_sound (hm : P.follows .mixedOrders = true) (hτ : TabOk P τ) {pin : Nat} (hp : C.M0.length = pin) : ∀ (c : Code) (σ : St) (Q : Ex → St → Prop) (a : Act) (w : World), awp (CallN P) (CallD P) q0 τ pin c σ Q → Rel C σ a w → c.wp P (liftQ C Q) a w
  | .skip, σ, Q, a, w, h, hR => wp_skip ⟨σ, hR, h⟩
  | .region id ops false, σ, Q, a, w, h, hR => by
    simp only [awp] at h
    exact wp_region_list (by simpa using regRun_sound hτ (fun _ _ _ _ h => h) h hR)
  | .region id ops true, σ, Q, a, w, h, hR => by
    simp only [awp] at h
    cases h with | mk hb h => exact draw_sound hm hτ hb.1 hb.2 h hR
  | .seq x y, σ, Q, a, w, h, hR => by
    simp only [awp] at h
    refine wp_seq (wp_mono (awp_sound hm hτ hp x σ _ a w h hR) (fun e a' w' hq => ?_))
    cases e with
    | normal => obtain ⟨σ', hR', h'⟩ := hq; exact awp_sound hm hτ hp y σ' Q a' w' h' hR'
    | exit i => exact hq
    | ret => exact hq
    | goto l => exact hq.elim
    | panic ch => exact hq.elim
    | outgrown => exact hq.elim
  | .cond c x y, σ, Q, a, w, h, hR => by
    simp only [awp] at h
    obtain ⟨M, X, hI, hS⟩ := hR
    split at h
    · rename_i hb; exact wp_cond_true (ev_tt hS hb) (awp_sound hm hτ hp x σ Q a w h ⟨M, X, hI, hS⟩)
    · rename_i hb; exact wp_cond_false (ev_ff hS hb) (awp_sound hm hτ hp y σ Q a w h ⟨M, X, hI, hS⟩)
    · rename_i b hb
      cases b with
      | true => exact wp_cond_true (ev_bool hS hb) (awp_sound hm hτ hp x σ Q a w (by simpa using h) ⟨M, X, hI, hS⟩)
      | false => exact wp_cond_false (ev_bool hS hb) (awp_sound hm hτ hp y σ Q a w (by simpa using h) ⟨M, X, hI, hS⟩)
    · exact h.elim
  | .block id c, σ, Q, a, w, h, hR => by
    simp only [awp] at h
    refine wp_block (wp_mono (awp_sound hm hτ hp c σ _ a w h hR) (fun e a' w' hq => ?_))
    cases e with
    | normal => exact hq
    | exit i =>
      obtain ⟨σ', hR', h'⟩ := hq
      simp only [blockK] at h'
      simp only [Exit.inBlock]
      split
      · rename_i e; rw [if_pos e] at h'; exact ⟨σ', hR', h'⟩
      · rename_i e; rw [if_neg e] at h'; exact ⟨σ', hR', h'⟩
    | ret => exact hq
    | goto l => exact hq.elim
    | panic ch => exact hq.elim
    | outgrown => exact hq.elim
  | .loop c, σ, Q, a, w, h, hR => by
    simp only [awp] at h
    cases h with
    | mk live inv h0 hr =>
      obtain ⟨d, hd⟩ := h0
      refine wp_loop_ix (fun d a w => ∃ σ, inv d σ ∧ Rel C σ a w) ⟨d, _, hd, hR.gc _ hp⟩ (fun d a w hI => ?_)
      obtain ⟨σ', hi, hR'⟩ := hI
      refine wp_mono (awp_sound hm hτ hp c σ' _ a w (hr d σ' hi (fun σ'' => ∃ d', d' < d ∧ inv d' σ'') (fun _ h => h)) hR') (fun e a' w' hq => ?_)
      cases e with
      | normal => obtain ⟨σ2, hR2, d', hlt, hi2⟩ := hq; exact ⟨d', hlt, _, hi2, hR2.gc _ hp⟩
      | exit i => obtain ⟨σ2, hR2, hi2⟩ := hq; exact ⟨_, hR2.gc _ hp, hi2⟩
      | ret => exact hq
      | goto l => exact hq.elim
      | panic ch => exact hq.elim
      | outgrown => exact hq.elim
    | mr live rows inv h0 hr =>
      obtain ⟨d, hd⟩ := h0
      refine wp_loop_ix (fun d a w => ∃ σ, inv d σ ∧ Rel C σ a w) ⟨d, _, hd, (hR.rowS rows).gc _ hp⟩ (fun d a w hI => ?_)
      obtain ⟨σ', hi, hR'⟩ := hI
      refine wp_mono (awp_sound hm hτ hp c σ' _ a w (hr d σ' hi (fun σ'' => ∃ d', d' < d ∧ inv d' σ'') (fun _ h => h)) hR') (fun e a' w' hq => ?_)
      cases e with
      | normal => obtain ⟨σ2, hR2, d', hlt, hi2⟩ := hq; exact ⟨d', hlt, _, hi2, (hR2.rowS rows).gc _ hp⟩
      | exit i => obtain ⟨σ2, hR2, hi2⟩ := hq; exact ⟨_, hR2.gc _ hp, hi2⟩
      | ret => exact hq
      | goto l => exact hq.elim
      | panic ch => exact hq.elim
      | outgrown => exact hq.elim
    | un live n h0 =>
      refine wp_loop_ix (fun d a w => ∃ σ, loopU pin (awp (CallN P) (CallD P) q0 τ pin c) live d σ Q ∧ Rel C σ a w) ⟨n, _, h0, hR.gc _ hp⟩ (fun d a w hI => ?_)
      obtain ⟨σ', hi, hR'⟩ := hI
      cases d with
      | zero => exact hi.elim
      | succ d =>
        refine wp_mono (awp_sound hm hτ hp c σ' _ a w hi hR') (fun e a' w' hq => ?_)
        cases e with
        | normal => obtain ⟨σ2, hR2, hi2⟩ := hq; exact ⟨d, by omega, _, hi2, hR2.gc _ hp⟩
        | exit i => exact hq
        | ret => exact hq
        | goto l => exact hq.elim
        | panic ch => exact hq.elim
        | outgrown => exact hq.elim
  | .exit id, σ, Q, a, w, h, hR => wp_exit ⟨σ, hR, h⟩
  | .ret, σ, Q, a, w, h, hR => wp_ret ⟨σ, hR, h⟩
  | .label l, σ, Q, a, w, h, hR => wp_label ⟨σ, hR, h⟩
  | .rangeFunc .., σ, Q, a, w, h, hR => by simp only [awp] at h
  | .scope .., σ, Q, a, w, h, hR => by simp only [awp] at h
  | .goto .., σ, Q, a, w, h, hR => by simp only [awp] at h
  | .refuse .., σ, Q, a, w, h, hR => by simp only [awp] at h

theorem sem_bind_pure {α : Type} (x : Sem α) : x.bind Sem.pure = x := by
  induction x with
  | frozen a k ih => simp only [Sem.bind]; congr; funext b; exact ih b
  | _ => simp_all [Sem.bind]
theorem sem_bind_assoc {α β γ : Type} (x : Sem α) (f : α → Sem β) (g : β → Sem γ) : (x.bind f).bind g = x.bind fun a => (f a).bind g := by
  induction x with
  | frozen a k ih => simp only [Sem.bind]; congr; funext b; exact ih b
  | _ => simp_all [Sem.bind]
instance : LawfulMonad Sem := LawfulMonad.mk' Sem (fun x => sem_bind_pure x) (fun _ _ => rfl) (fun x f g => sem_bind_assoc x f g)

theorem run_mapM {α β : Type} {f : α → Sem β} {as : Array α} {g : Nat → β} {w : World} (h : ∀ (j : Nat) (hj : j < as.size), (f as[j]).run P w = .ok (g j) w) : ∃ vs : Array β, (as.mapM f).run P w = .ok vs w ∧ vs.toList = (List.range as.size).map g := by
  have key : ∀ (l : List α) (k : Nat), (∀ (j : Nat) (hj : j < l.length), (f l[j]).run P w = .ok (g (k + j)) w) → (l.mapM f).run P w = .ok ((List.range' k l.length).map g) w := by
    intro l
    induction l with
    | nil => intro k _; simp
    | cons x l ih =>
      intro k hl
      have h0 : (f x).run P w = .ok (g k) w := hl 0 (by simp)
      rw [List.mapM_cons, Sem.run_bind, h0, Result.andThen_ok, Sem.run_bind, ih (k + 1) (fun j hj => by have := hl (j + 1) (by simp; omega); simpa [Nat.add_assoc, Nat.add_comm 1 j] using this), Result.andThen_ok, Sem.run_pure]
      simp [List.range'_succ]
  have := key as.toList 0 (fun j hj => by have := h j (by simpa using hj); simpa using this)
  refine ⟨((List.range as.size).map g).toArray, ?_, by simp⟩
  rw [Array.mapM_eq_mapM_toList, map_eq_pure_bind, Sem.run_bind, this, Result.andThen_ok, Sem.run_pure, List.range_eq_range']
  simp

section
variable {w : World} {M : Mp} {X : Nat → Prop} {σ : St} {a : Act}
def resRun (tmps : Array Value) : ResultVar → Sem Value
  | .tmp t => pure (tmps.getD t undef)
  | .cell a t => do loadVar t (← asAddr (tmps.getD a undef))
theorem resAV_rd (hτ : TabOk P τ) (hI : Inv C σ.h w M X) (hS : Sl σ.s a w M X) {r : ResultVar} {x : AV} (h : resAV τ σ r = some x) : ∃ v, (resRun a.tmps r).run P w = .ok v w ∧ RdA w X M x v := by
  cases r with
  | tmp t =>
    simp only [resAV, Option.some.injEq] at h
    subst h
    exact ⟨_, by simp only [resRun, Sem.run_pure], hS.get t⟩
  | cell p t =>
    simp only [resAV] at h
    split at h
    · rename_i b f hp
      split at h
      · rename_i ti hti
        split at h
        · rename_i ty cs hb
          split at h
          · rename_i hl
            cases h
            have hr := hS.get p
            rw [hp] at hr
            generalize hv : a.tmps.getD p undef = v at hr
            cases hr with | one hr => cases hr with | bp hM =>
            rename_i pl
            obtain ⟨arr, h1, h2⟩ := box_cells hI hM hb
            obtain ⟨x, v, hrun, hrd, hx⟩ := loadVar_rd (M := M) (X := X) (K := fun y => y = asV ti.agg (List.take ti.sz (List.drop f cs))) hτ hti (ad := ⟨pl.b, f, none⟩) (cs := cs.drop f) (fun j l hl => by
              rw [List.getElem?_drop] at hl
              rw [cell_at h1]
              have hlt : f + j < arr.size := by
                have := (List.getElem?_eq_some_iff.1 hl).1
                have h3 := h2.1
                simp at h3
                omega
              exact ⟨arr[f + j], by simp [hlt], h2.2 (f + j) l _ hl (by simp [hlt])⟩) (by unfold loadK; rw [if_pos hl])
            refine ⟨v, ?_, by rw [← hx]; exact hrd⟩
            simp only [resRun, hv, asAddr, Sem.run_bind, Sem.run_pure, Result.andThen_ok]
            exact hrun
          · cases h
        · cases h
      · cases h
    · cases h
theorem resAVs_rd (hτ : TabOk P τ) (hI : Inv C σ.h w M X) (hS : Sl σ.s a w M X) : ∀ {rs : List ResultVar} {xs : List AV}, resAVs τ σ rs = some xs → ∃ g : Nat → Value, xs.length = rs.length ∧ ∀ (j : Nat) (r : ResultVar) (x : AV), rs[j]? = some r → xs[j]? = some x → (resRun a.tmps r).run P w = .ok (g j) w ∧ RdA w X M x (g j)
  | [], xs, h => by
    simp only [resAVs, Option.some.injEq] at h
    subst h
    exact ⟨fun _ => undef, rfl, fun j r x hj => by simp at hj⟩
  | r :: rs, xs, h => by
    simp only [resAVs] at h
    split at h
    · rename_i x hx
      split at h
      · rename_i ys hys
        cases h
        obtain ⟨v, hv, hrd⟩ := resAV_rd hτ hI hS hx
        obtain ⟨g, hl, hg⟩ := resAVs_rd hτ hI hS hys
        refine ⟨fun j => match j with | 0 => v | j + 1 => g j, by simp [hl], fun j r' x' hj hx' => ?_⟩
        cases j with
        | zero => simp at hj hx'; subst hj; subst hx'; exact ⟨hv, hrd⟩
        | succ j => exact hg j r' x' (by simpa using hj) (by simpa using hx')
      · cases h
    · cases h
def resOne : List AV → AV
  | [x] => x
  | xs => .tup xs
theorem results_rd (hτ : TabOk P τ) (hI : Inv C σ.h w M X) (hS : Sl σ.s a w M X) {fn : Func} {xs : List AV} (h : resAVs τ σ fn.results.toList = some xs) : ∃ v, (results fn a.tmps).run P w = .ok v w ∧ RdA w X M (resOne xs) v ∧ (∃ vs : List Value, RdAs w X M xs vs ∧ ((∃ u, vs = [u] ∧ v = u) ∨ (vs.length ≠ 1 ∧ v = .tuple vs.toArray))) := by
  obtain ⟨g, hl, hg⟩ := resAVs_rd hτ hI hS h
  obtain ⟨vs, h1, h2⟩ := run_mapM (P := P) (f := resRun a.tmps) (as := fn.results) (g := g) (w := w) (fun j hj => by
    have hx : j < xs.length := by rw [hl]; simpa using hj
    exact (hg j fn.results[j] xs[j] (by simp [hj]) (by simp [hx])).1)
  have hrun : (results fn a.tmps).run P w = .ok (if h : vs.size = 1 then vs[0] else .tuple vs) w := by
    have e : results fn a.tmps = (fn.results.mapM (resRun a.tmps) >>= fun vs => pure (if h : vs.size = 1 then vs[0] else .tuple vs)) := by
      unfold results
      congr
    rw [e, Sem.run_bind, h1, Result.andThen_ok, Sem.run_pure]
  have hxl : xs.length = vs.size := by
    rw [hl, ← Array.length_toList (xs := vs), h2]; simp
  have hrs : RdAs w X M xs vs.toList := by
    refine ⟨by simpa using hxl, fun j x v hx hv => ?_⟩
    rw [h2] at hv
    have hj : j < fn.results.size := by
      have := (List.getElem?_eq_some_iff.1 hx).1
      rw [hl] at this
      simpa using this
    simp [hj] at hv
    subst hv
    exact (hg j fn.results[j] x (by simp [hj]) hx).2
  refine ⟨_, hrun, ?_, vs.toList, hrs, ?_⟩
  · by_cases h1 : vs.size = 1
    · rw [dif_pos h1]
      rcases xs with _ | ⟨x, _ | ⟨y, ys⟩⟩
      · simp at hxl; omega
      · exact hrs.2 0 x vs[0] rfl (by simp [h1])
      · simp at hxl; omega
    · rw [dif_neg h1]
      have : resOne xs = .tup xs := by
        rcases xs with _ | ⟨x, _ | ⟨y, ys⟩⟩
        · rfl
        · simp at hxl; omega
        · rfl
      rw [this]
      exact .tup (by simpa using hxl) (fun j x v hx hv => hrs.2 j x v hx (by simpa using hv))
  · by_cases h1 : vs.size = 1
    · rw [dif_pos h1]
      refine .inl ⟨vs[0], ?_, rfl⟩
      apply List.ext_getElem
      · simp [h1]
      · intro i h2 h3
        simp at h3
        subst h3
        simp
    · rw [dif_neg h1]
      exact .inr ⟨by simpa using h1, by simp⟩
end
end Sx
end

section
namespace Sx
open Go
variable {P : Program} {τ : TypeId → Option TI}

def apI (K : AV → List Blk → Prop) (v : AV) (h : List Blk) : Prop := K v h
def finI (τ : TypeId → Option TI) (rs : List ResultVar) (K : AV → List Blk → Prop) (σ : St) : Prop :=
  match resAVs τ σ rs with
  | some xs => apI K (resOne xs) σ.h
  | none => False
def finKI (τ : TypeId → Option TI) (rs : List ResultVar) (K : AV → List Blk → Prop) : Ex → St → Prop
  | .normal, σ => finI τ rs K σ
  | .ret, σ => finI τ rs K σ
  | .exit _, _ => False

structure FnAt (P : Program) (g : FuncId) (c : Code) (n : Nat) (rs : List ResultVar) : Prop where
  ex : ∃ fn, P.funcs[g]? = some fn ∧ fn.body = some c ∧ (fn.name == "runtime.NumGoroutine") = false ∧ fn.ntmps = n ∧ fn.results.toList = rs
theorem FnAt.of {g : FuncId} {fn : Func} (hf : P.funcs[g]? = some fn) (hb : fn.body.isSome = true) (hn : (fn.name == "runtime.NumGoroutine") = false) : FnAt P g (fn.body.getD .skip) fn.ntmps fn.results.toList := by
  obtain ⟨c, hc⟩ := Option.isSome_iff_exists.1 hb
  exact ⟨fn, hf, by rw [hc]; rfl, hn, rfl, rfl⟩
variable {g : FuncId} {c : Code} {n : Nat} {rs : List ResultVar}
theorem FnAt.ent (h : FnAt P g c n rs) : Ent P g := by
  obtain ⟨fn, a, b, d, _, _⟩ := h.ex
  exact ⟨fn, a, by rw [b]; rfl, d⟩

theorem putAll_sl {a : Act} {w : World} {X : Nat → Prop} {M : Mp} : ∀ (xs : List AV) (k : Nat) (s : Slots), Sl s a w M X → (∀ (j : Nat) (x : AV) (v : Value), xs[j]? = some x → a.tmps[k + j]? = some v → RdA w X M x v) → Sl (putAll k xs s) a w M X
  | [], k, s, hS, _ => hS
  | x :: xs, k, s, hS, h => by
    refine putAll_sl xs (k + 1) _ ?_ (fun j y v hy hv => h (j + 1) y v (by simpa using hy) (by rw [← hv]; congr 1; omega))
    refine ⟨desc_putI hS.desc, fun i u hu => ?_, hS.defers⟩
    by_cases hd : k = i
    · subst hd
      rcases getS_putI hS.desc k x with hg | hg
      · rw [hg]; exact h 0 x u rfl hu
      · rw [hg]; exact .one .any
    · rw [getS_putI_ne s x hd]; exact hS.slot i u hu
theorem Sl.start {w : World} {X : Nat → Prop} {M : Mp} {xs : List AV} {vs : List Value} (h : RdAs w X M xs vs) (n : Nat) : Sl (startS n xs) { tmps := vs.toArray ++ Array.replicate (n - vs.toArray.size) undef, defers := [] } w M X := by
  have hl := h.1
  unfold startS
  rw [nbeq, cond_eq_ite]
  split
  · exact ⟨trivial, fun i v hv => .one .any, rfl⟩
  · rename_i hn
    simp only [decide_eq_true_eq] at hn
    refine putAll_sl xs 0 _ ⟨⟨?_, trivial⟩, fun i v hv => ?_, rfl⟩ (fun j x v hx hv => ?_)
    · simp; omega
    · rw [getS_cons]
      split
      · exact .one .any
      · exact .one .any
    · have hj := (List.getElem?_eq_some_iff.1 hx).1
      rw [Array.getElem?_append, if_pos (by simp; omega)] at hv
      exact h.2 j x v hx (by simpa using hv)

theorem pureC_of_awp (hm : P.follows .mixedOrders = true) (hτ : TabOk P τ) (hF : FnAt P g c n rs) {ts : List TV} {R : TV → Prop}
    (h : awp (CallN P) (CallD P) q0 τ 0 c ⟨startS n (ts.map ofTV), []⟩ (finK q0 τ rs R)) : PureC P g ts R := by
  obtain ⟨fn, hf, hb, hn, hnt, hrs⟩ := hF.ex
  refine ⟨hF.ent, fun w X vs hX hv => calls_of_wp hf hb ?_⟩
  have hargs : RdAs w X [] (ts.map ofTV) vs := ⟨by simpa using hv.1, fun j x v hx hv' => by
    simp only [List.getElem?_map, Option.map_eq_some_iff] at hx
    obtain ⟨t, ht, rfl⟩ := hx
    exact (hv.2 j t v ht hv').toA⟩
  have hR : Rel ⟨w, X, fun _ => False, []⟩ ⟨startS n (ts.map ofTV), []⟩ { tmps := vs.toArray ++ Array.replicate (fn.ntmps - vs.toArray.size) undef, defers := [] } w :=
    ⟨[], X, ⟨rfl, rfl, rfl, Nat.le_refl _, fun _ _ _ => rfl, hX, fun _ h => .inl h, fun _ h => h, rfl, ⟨Nat.le_refl _, Ext.refl _⟩, fun j p hj => by simp at hj, fun j j' p p' hj => by simp at hj, fun j p hj => by simp at hj⟩, by rw [hnt]; exact Sl.start hargs n⟩
  have fin : ∀ a' w' σ, Rel ⟨w, X, fun _ => False, []⟩ σ a' w' → finR q0 τ rs R σ → a'.defers = [] ∧ ∃ v, (results fn a'.tmps).run P w' = .ok v w' ∧ ∃ u r, (Ending.returned v) = .returned u ∧ R r ∧ Go.RowKit.Below w.heap.size w w' ∧ RdV w' (fun b => X b ∨ (w.heap.size ≤ b ∧ b < w'.heap.size)) r u := by
    intro a' w' σ hR' hfin
    obtain ⟨M', X', hI, hS⟩ := hR'
    refine ⟨hS.defers, ?_⟩
    unfold finR at hfin
    have hbelow : Go.RowKit.Below w.heap.size w w' := ⟨hI.os, hI.tape, hI.output, hI.size, fun b hb => hI.frame b hb (fun h => h)⟩
    have hx : ∀ b, X' b → (X b ∨ (w.heap.size ≤ b ∧ b < w'.heap.size)) := fun b hb => by
      rcases hI.xsub b hb with h | h | h
      · exact .inl h
      · exact .inr ⟨h, hI.xlt b hb⟩
      · exact h.elim
    have hY : ∀ id p, M'[id]? = some (.at p) → (getB σ.h id).live = true → (X p.b ∨ (w.heap.size ≤ p.b ∧ p.b < w'.heap.size)) := fun id p hp hl => by
      obtain ⟨h1, h2, _⟩ := hI.live id p hp hl
      exact .inr ⟨h1.elim (fun h => h.elim) (fun h => h), h2⟩
    split at hfin
    · rename_i xs hxs
      obtain ⟨v, hv, _, vs', hrd, hcase⟩ := results_rd hτ hI hS (fn := fn) (by rw [hrs]; exact hxs)
      have key : ∀ ts', pks q0 σ.h xs = some ts' → RdVs w' (fun b => X b ∨ (w.heap.size ≤ b ∧ b < w'.heap.size)) ts' vs' := fun ts' hts => pks_rd hI hx hY hrd hts
      split at hfin
      · rename_i x hts
        have hr := key _ hts
        refine ⟨v, hv, v, x, rfl, hfin, hbelow, ?_⟩
        rcases hcase with ⟨u, rfl, rfl⟩ | ⟨hne, _⟩
        · exact hr.2 0 x _ rfl rfl
        · exact absurd hr.1.symm hne
      · rename_i ts' hno hts
        have hr := key _ hts
        refine ⟨v, hv, v, _, rfl, hfin, hbelow, ?_⟩
        rcases hcase with ⟨u, rfl, rfl⟩ | ⟨hne, rfl⟩
        · exfalso
          have := hr.1
          rcases ts' with _ | ⟨x, _ | ⟨y, ys⟩⟩
          · simp at this
          · exact hno x rfl
          · simp at this
        · exact .tup (by simpa using hr.1) (fun j x v hx hv => hr.2 j x v hx (by simpa using hv))
      · exact hfin.elim
    · exact hfin.elim
  refine wp_mono (awp_sound hm hτ (C := ⟨w, X, fun _ => False, []⟩) rfl c _ _ _ _ h hR) (fun e a' w' hq => ?_)
  cases e with
  | normal => obtain ⟨σ, hR', hfin⟩ := hq; exact fin a' w' σ hR' hfin
  | ret => obtain ⟨σ, hR', hfin⟩ := hq; exact fin a' w' σ hR' hfin
  | exit i => obtain ⟨σ, _, hfin⟩ := hq; exact hfin.elim
  | goto l => exact hq.elim
  | panic ch => exact hq.elim
  | outgrown => exact hq.elim

theorem CallN.of_awp (hm : P.follows .mixedOrders = true) (hτ : TabOk P τ) (hF : FnAt P g c n rs) {args : List AV} {H : List Blk} {K : AV → List Blk → Prop} (hres : ∀ j, getB H j ≠ .res)
    (h : awp (CallN P) (CallD P) q0 τ H.length c ⟨startS n args, H⟩ (finKI τ rs K)) : CallN P g args H K := by
  obtain ⟨fn, hf, hb, hn, hnt, hrs⟩ := hF.ex
  refine ⟨hF.ent, fun C w M X vs hI hv => calls_of_wp hf hb ?_⟩
  have hI0 : Inv ⟨w, X, fun b => ∃ id p, M[id]? = some (.at p) ∧ (getB H id).live = true ∧ p.b = b, M⟩ H w M X :=
    ⟨rfl, rfl, rfl, Nat.le_refl _, fun _ _ _ => rfl, hI.xlt, fun _ h => .inl h, fun _ h => h, hI.mlen, ⟨Nat.le_refl _, Ext.refl _⟩, fun id p hp hl => ⟨.inl ⟨id, p, hp, hl, rfl⟩, (hI.live id p hp hl).2⟩, hI.inj, hI.blk⟩
  have hR : Rel ⟨w, X, fun b => ∃ id p, M[id]? = some (.at p) ∧ (getB H id).live = true ∧ p.b = b, M⟩ ⟨startS n args, H⟩ { tmps := vs.toArray ++ Array.replicate (fn.ntmps - vs.toArray.size) undef, defers := [] } w :=
    ⟨M, X, hI0, by rw [hnt]; exact Sl.start hv n⟩
  have fin : ∀ a' w' σ, Rel ⟨w, X, fun b => ∃ id p, M[id]? = some (.at p) ∧ (getB H id).live = true ∧ p.b = b, M⟩ σ a' w' → finI τ rs K σ → a'.defers = [] ∧ ∃ v, (results fn a'.tmps).run P w' = .ok v w' ∧
      ∃ u x h M' X', (Ending.returned v) = .returned u ∧ Inv C h w' M' X' ∧ Same w w' X ∧ (∀ b, X b → X' b) ∧ Ext M M' ∧ RdA w' X' M' x u ∧ H.length ≤ h.length ∧ (∀ j, getB H j = .res → getB h j = .res) ∧ K x h := by
    intro a' w' σ hR' hfin
    obtain ⟨M', X', hI', hS⟩ := hR'
    refine ⟨hS.defers, ?_⟩
    unfold finI at hfin
    split at hfin
    · rename_i xs hxs
      obtain ⟨v, hrun, hrd, _⟩ := results_rd hτ hI' hS (fn := fn) (by rw [hrs]; exact hxs)
      have hsame : Same w w' X := fun b hb => hI'.frame b (hI.xlt b hb) (fun ⟨id, p, hp, hl, e⟩ => (hI.live id p hp hl).2.2 (by rw [e]; exact hb))
      have hold : ∀ b, (∃ id p, M[id]? = some (.at p) ∧ (getB H id).live = true ∧ p.b = b) → C.B0 b ∨ C.w0.heap.size ≤ b := fun b ⟨id, p, hp, hl, e⟩ => by rw [← e]; exact (hI.live id p hp hl).1
      refine ⟨v, hrun, v, _, σ.h, M', X', rfl, ?_, hsame, hI'.x0, hI'.pin.2, hrd, ?_, fun j hj => absurd hj (hres j), hfin⟩
      · refine ⟨hI'.os.trans hI.os, hI'.tape.trans hI.tape, hI'.output.trans hI.output, Nat.le_trans hI.size hI'.size, fun b h1 h2 => ?_, hI'.xlt, fun b hb => ?_, fun b hb => hI'.x0 b (hI.x0 b hb), hI'.mlen, ⟨Nat.le_trans hI.pin.1 hI'.pin.1, hI.pin.2.trans hI'.pin.2⟩, fun id p hp hl => ?_, hI'.inj, hI'.blk⟩
        · rw [hI'.frame b (Nat.lt_of_lt_of_le h1 hI.size) (fun h => (hold b h).elim h2 (fun h => by omega))]
          exact hI.frame b h1 h2
        · rcases hI'.xsub b hb with h | h | h
          · exact hI.xsub b h
          · exact .inr (.inl (Nat.le_trans hI.size h))
          · exact (hold b h).elim (fun h => .inr (.inr h)) (fun h => .inr (.inl h))
        · obtain ⟨h1, h2, h3⟩ := hI'.live id p hp hl
          refine ⟨?_, h2, h3⟩
          rcases h1 with h1 | h1
          · exact hold _ h1
          · exact .inr (Nat.le_trans hI.size h1)
      · rw [← hI.mlen, ← hI'.mlen]; exact hI'.pin.1
    · exact hfin.elim
  refine wp_mono (awp_sound hm hτ (C := ⟨w, X, fun b => ∃ id p, M[id]? = some (.at p) ∧ (getB H id).live = true ∧ p.b = b, M⟩) hI.mlen c _ _ _ _ h hR) (fun e a' w' hq => ?_)
  cases e with
  | normal => obtain ⟨σ, hR', hfin⟩ := hq; exact fin a' w' σ hR' hfin
  | ret => obtain ⟨σ, hR', hfin⟩ := hq; exact fin a' w' σ hR' hfin
  | exit i => obtain ⟨σ, _, hfin⟩ := hq; exact hfin.elim
  | goto l => exact hq.elim
  | panic ch => exact hq.elim
  | outgrown => exact hq.elim
def slotsOf : List ResultVar → List Nat
  | [] => []
  | .tmp t :: r => t :: slotsOf r
  | .cell p _ :: r => p :: slotsOf r
def finKG (τ : TypeId → Option TI) (pin : Nat) (rs : List ResultVar) (K : AV → List Blk → Prop) : Ex → St → Prop
  | .normal, σ => finI τ rs K (gc pin (slotsOf rs) σ)
  | .ret, σ => finI τ rs K (gc pin (slotsOf rs) σ)
  | .exit _, _ => False

theorem CallN.of_awp_g (hm : P.follows .mixedOrders = true) (hτ : TabOk P τ) (hF : FnAt P g c n rs) {args : List AV} {H : List Blk} {K : AV → List Blk → Prop} (hres : ∀ j, getB H j ≠ .res)
    (h : awp (CallN P) (CallD P) q0 τ H.length c ⟨startS n args, H⟩ (finKG τ H.length rs K)) : CallN P g args H K := by
  obtain ⟨fn, hf, hb, hn, hnt, hrs⟩ := hF.ex
  refine ⟨hF.ent, fun C w M X vs hI hv => calls_of_wp hf hb ?_⟩
  have hI0 : Inv ⟨w, X, fun b => ∃ id p, M[id]? = some (.at p) ∧ (getB H id).live = true ∧ p.b = b, M⟩ H w M X :=
    ⟨rfl, rfl, rfl, Nat.le_refl _, fun _ _ _ => rfl, hI.xlt, fun _ h => .inl h, fun _ h => h, hI.mlen, ⟨Nat.le_refl _, Ext.refl _⟩, fun id p hp hl => ⟨.inl ⟨id, p, hp, hl, rfl⟩, (hI.live id p hp hl).2⟩, hI.inj, hI.blk⟩
  have hR : Rel ⟨w, X, fun b => ∃ id p, M[id]? = some (.at p) ∧ (getB H id).live = true ∧ p.b = b, M⟩ ⟨startS n args, H⟩ { tmps := vs.toArray ++ Array.replicate (fn.ntmps - vs.toArray.size) undef, defers := [] } w :=
    ⟨M, X, hI0, by rw [hnt]; exact Sl.start hv n⟩
  have fin : ∀ a' w' σ, Rel ⟨w, X, fun b => ∃ id p, M[id]? = some (.at p) ∧ (getB H id).live = true ∧ p.b = b, M⟩ σ a' w' → finI τ rs K σ → a'.defers = [] ∧ ∃ v, (results fn a'.tmps).run P w' = .ok v w' ∧
      ∃ u x h M' X', (Ending.returned v) = .returned u ∧ Inv C h w' M' X' ∧ Same w w' X ∧ (∀ b, X b → X' b) ∧ Ext M M' ∧ RdA w' X' M' x u ∧ H.length ≤ h.length ∧ (∀ j, getB H j = .res → getB h j = .res) ∧ K x h := by
    intro a' w' σ hR' hfin
    obtain ⟨M', X', hI', hS⟩ := hR'
    refine ⟨hS.defers, ?_⟩
    unfold finI at hfin
    split at hfin
    · rename_i xs hxs
      obtain ⟨v, hrun, hrd, _⟩ := results_rd hτ hI' hS (fn := fn) (by rw [hrs]; exact hxs)
      have hsame : Same w w' X := fun b hb => hI'.frame b (hI.xlt b hb) (fun ⟨id, p, hp, hl, e⟩ => (hI.live id p hp hl).2.2 (by rw [e]; exact hb))
      have hold : ∀ b, (∃ id p, M[id]? = some (.at p) ∧ (getB H id).live = true ∧ p.b = b) → C.B0 b ∨ C.w0.heap.size ≤ b := fun b ⟨id, p, hp, hl, e⟩ => by rw [← e]; exact (hI.live id p hp hl).1
      refine ⟨v, hrun, v, _, σ.h, M', X', rfl, ?_, hsame, hI'.x0, hI'.pin.2, hrd, ?_, fun j hj => absurd hj (hres j), hfin⟩
      · refine ⟨hI'.os.trans hI.os, hI'.tape.trans hI.tape, hI'.output.trans hI.output, Nat.le_trans hI.size hI'.size, fun b h1 h2 => ?_, hI'.xlt, fun b hb => ?_, fun b hb => hI'.x0 b (hI.x0 b hb), hI'.mlen, ⟨Nat.le_trans hI.pin.1 hI'.pin.1, hI.pin.2.trans hI'.pin.2⟩, fun id p hp hl => ?_, hI'.inj, hI'.blk⟩
        · rw [hI'.frame b (Nat.lt_of_lt_of_le h1 hI.size) (fun h => (hold b h).elim h2 (fun h => by omega))]
          exact hI.frame b h1 h2
        · rcases hI'.xsub b hb with h | h | h
          · exact hI.xsub b h
          · exact .inr (.inl (Nat.le_trans hI.size h))
          · exact (hold b h).elim (fun h => .inr (.inr h)) (fun h => .inr (.inl h))
        · obtain ⟨h1, h2, h3⟩ := hI'.live id p hp hl
          refine ⟨?_, h2, h3⟩
          rcases h1 with h1 | h1
          · exact hold _ h1
          · exact .inr (Nat.le_trans hI.size h1)
      · rw [← hI.mlen, ← hI'.mlen]; exact hI'.pin.1
    · exact hfin.elim
  refine wp_mono (awp_sound hm hτ (C := ⟨w, X, fun b => ∃ id p, M[id]? = some (.at p) ∧ (getB H id).live = true ∧ p.b = b, M⟩) hI.mlen c _ _ _ _ h hR) (fun e a' w' hq => ?_)
  cases e with
  | normal => obtain ⟨σ, hR', hfin⟩ := hq; exact fin a' w' _ (hR'.gc _ hI.mlen) hfin
  | ret => obtain ⟨σ, hR', hfin⟩ := hq; exact fin a' w' _ (hR'.gc _ hI.mlen) hfin
  | exit i => obtain ⟨σ, _, hfin⟩ := hq; exact hfin.elim
  | goto l => exact hq.elim
  | panic ch => exact hq.elim
  | outgrown => exact hq.elim
end Sx
end
