/- A part of the proof of PolyReadsSaid: texts SxO. -/
import Derived.Test.YtlnpmgmpakjhgaaGreatSxAJ
set_option linter.all false
namespace Sx
open Go
variable {P : Program} {C : Ctx} {τ : TypeId → Option TI} {CN : CNt}

def liftQ (C : Ctx) (Q : Ex → St → Prop) : Exit → Act → World → Prop
  | .normal, a, w => ∃ σ, Rel C σ a w ∧ Q .normal σ
  | .exit i, a, w => ∃ σ, Rel C σ a w ∧ Q (.exit i) σ
  | .ret, a, w => ∃ σ, Rel C σ a w ∧ Q .ret σ
  | _, _, _ => False

theorem run_callFunc {g : FuncId} (h : Ent P g) (args : Array Value) (w : World) : (callFunc g args).run P w = .ok (.enter g args) w := by
  obtain ⟨fn, hf, hb, hn⟩ := h
  have hb' : fn.body.isNone = false := by cases hbb : fn.body <;> simp [hbb] at hb ⊢
  unfold callFunc
  simp only [Sem.run_bind, run_program, Result.andThen_ok, hf, hn, Bool.false_eq_true, if_false, hb']
  rfl

section
variable {s : Slots} {a : Act} {w : World} {M : Mp} {X : Nat → Prop} {H : List Blk}

def After (C : Ctx) (H : List Blk) (o : Oper) (ib : Nat) (s : Slots) (K : AV → List Blk → Prop) (next : Act → World → Prop) : Prop :=
  ∀ v h u a' w' M' X', Inv C h w' M' X' → Sl s a' w' M' X' → RdA w' X' M' v u → H.length ≤ h.length → (∀ j, getB H j = .res → (j = ib ∧ lays o.op = true) ∨ getB h j = .res) → K v h → next (a'.put o.dst u) w'

theorem op_sound (hτ : TabOk P τ) (hCN : ∀ g args H K, CN g args H K → CallN P g args H K) (hI : Inv C H w M X) (hS : Sl s a w M X) {o : Oper} {ib : Nat} (hid : lays o.op = true → getB H ib = .res) {K : AV → List Blk → Prop}
    {next : Act → World → Prop} {Q : Exit → Act → World → Prop} (h : opRun CN q0 τ o.op s H ib K) (hn : After C H o ib s K next) : o.wp P a w next Q := by
  by_cases hc : isCall o.op = true
  · cases ho : o.op with
    | call c =>
      obtain ⟨callee, args, argTypes⟩ := c
      cases callee with
      | value f =>
        rw [ho] at h; simp only [opRun] at h
        split at h
        · rename_i g caps hf
          obtain ⟨hE, hcall⟩ := hCN _ _ _ _ h
          have hfr := ev_one hS hf
          generalize haf : a.eval f = vf at hfr
          cases hfr with | fn hcl hcr =>
          rename_i cv
          have hargs : RdAs w X M (args.toList.map (ev s) ++ caps.map AV.one) ((args.toList.map a.eval) ++ cv) := by
            refine ⟨by simp [hcl], fun j x v hx hv => ?_⟩
            rw [List.getElem?_append] at hx hv
            simp only [List.length_map] at hx hv
            split at hx
            · rename_i hlt
              rw [if_pos hlt] at hv
              simp only [List.getElem?_map, Option.map_eq_some_iff] at hx hv
              obtain ⟨y, hy, rfl⟩ := hx
              obtain ⟨z, hz, rfl⟩ := hv
              rw [hy] at hz
              cases hz
              exact hS.ev y
            · rename_i hlt
              rw [if_neg hlt] at hv
              simp only [List.getElem?_map, Option.map_eq_some_iff] at hx
              obtain ⟨y, hy, rfl⟩ := hx
              exact .one (hcr _ y v hy hv)
          have hrun : (execOp a.eval o).run P w = .ok (.enter g ((args.toList.map a.eval) ++ cv).toArray) w := by
            unfold execOp
            simp only [ho, resolve, haf, Deferred.ofValue, Sem.run_bind, Sem.run_pure, Result.andThen_ok, invoke, run_callFunc hE]
            congr 2
            apply Array.ext'
            simp
          unfold Oper.wp
          rw [hrun, Oper.upon_enter]
          refine (hcall C w M X _ hI hargs).mono ?_
          rintro e w' ⟨u, v, h', M', X', rfl, hI', hs, hx, hm, hu, hl, hres, hK⟩
          exact hn v h' u a w' M' X' hI' (hS.mono hs hx hm) hu hl (fun j hj => .inr (hres j hj)) hK
        · exact h.elim
      | invoke r m => rw [ho] at hc; simp [isCall] at hc
      | builtin b => rw [ho] at hc; simp [isCall] at hc
    | _ => rw [ho] at hc; simp [isCall] at hc
  · obtain ⟨v, h', ⟨u, w', M', X', hr, hI', hS', hv, hl, hres⟩, hK⟩ := opRun_step hτ hI hS (by simpa using hc) hid h
    unfold Oper.wp
    rcases hr with hr | ⟨hr, rfl⟩
    · rw [hr, Oper.upon_value]
      exact hn v h' u a w' M' X' hI' hS' hv (by omega) hres hK
    · rw [hr, Oper.upon_skip]
      exact hn v h' undef a w' M' X' hI' hS' hv (by omega) hres hK

theorem gd_val (hS : Sl s a w M X) {d : Nat} {c : Bool} (hd : gdB (getS s d) = some c) : a.tmps[d]? = some (.bool c) := by
  have hr := hS.get d
  have hv : a.tmps.getD d undef = .bool c := by
    generalize a.tmps.getD d undef = v at hr
    generalize getS s d = x at hr hd
    unfold gdB at hd
    split at hd
    · cases hd; cases hr with | one h => cases h; rfl
    · cases hd; cases hr with | one h => cases h; rfl
    · cases hd; cases hr with | one h => cases h with | t h => cases h; rfl
    · cases hd
  have hlt : d < a.tmps.size := by
    by_cases hlt : d < a.tmps.size
    · exact hlt
    · rw [Array.getD_eq_getD_getElem?, Array.getElem?_eq_none (by omega)] at hv
      cases hv
  rw [Array.getD_eq_getD_getElem?] at hv
  simp [hlt] at hv ⊢
  exact hv

theorem yielded_of {ops : List Oper} {j d : Nat} (h : guardSlot ops j = some d) (tmps : Array Value) : yielded ops.toArray tmps j = match tmps[d]? with | some (.bool b) => some b | _ => none := by
  unfold guardSlot at h
  split at h
  · rename_i o ho
    unfold yielded
    have : (ops.toArray[j]?).bind (·.dst) = some d := by simp [ho, h]
    rw [this]
    rfl
  · cases h
end

def KnOk (kn : List (Nat × Bool)) (s : Slots) : Prop := ∀ d b, look kn d = some b → getS s d = .one (.t (.bool b))
theorem look_delK {dst : Option Nat} : ∀ {kn : List (Nat × Bool)} {d : Nat} {b : Bool}, look (delK kn dst) d = some b → dst ≠ some d ∧ look kn d = some b
  | [], d, b, h => by cases h
  | p :: r, d, b, h => by
    simp only [delK] at h
    split at h
    · rename_i hp
      obtain ⟨h1, h2⟩ := look_delK h
      refine ⟨h1, ?_⟩
      simp only [look]
      rw [if_neg (fun e => h1 (by rw [hp, e]))]
      exact h2
    · rename_i hp
      simp only [look] at h ⊢
      split at h
      · rename_i e
        refine ⟨fun e' => hp (by rw [e', e]), ?_⟩
        rw [if_pos e]; exact h
      · rename_i e
        obtain ⟨h1, h2⟩ := look_delK h
        exact ⟨h1, by rw [if_neg e]; exact h2⟩
theorem KnOk.put {kn : List (Nat × Bool)} {s : Slots} (h : KnOk kn s) (dst : Option Nat) (v : AV) : KnOk (delK kn dst) (putS s dst v) := by
  intro d b hd
  obtain ⟨h1, h2⟩ := look_delK hd
  cases dst with
  | none => exact h d b h2
  | some x => rw [putS, getS_putI_ne s v (fun e => h1 (by rw [e]))]; exact h d b h2
theorem KnOk.cons {kn : List (Nat × Bool)} {s : Slots} (h : KnOk kn s) {d : Nat} {c : Bool} (hd : getS s d = .one (.t (.bool c))) : KnOk ((d, c) :: kn) s := by
  intro d' b hd'
  simp only [look] at hd'
  split at hd'
  · rename_i e; cases hd'; rw [← e]; exact hd
  · exact h d' b hd'
theorem runG_op {kn : List (Nat × Bool)} {s : Slots} {H : List Blk} {o : Op} {id : Nat} {K : AV → List Blk → Prop} (hk : KnOk kn s) (h : runG CN q0 τ kn o s H id K) : opRun CN q0 τ o s H id K := by
  unfold runG at h
  split at h
  · rename_i x hx
    unfold pickK at hx
    split at hx
    · rename_i d a b
      split at hx
      · rename_i hl; cases hx; simp only [opRun, ev, hk _ _ hl, cond_true]; exact h
      · rename_i hl; cases hx; simp only [opRun, ev, hk _ _ hl, cond_false]; exact h
      · cases hx
    · cases hx
  · exact h
theorem stepRun_mono {ops : List Oper} {o : Oper} {id : Nat} {σ : St} {K : St → Prop} {c : Bool} {j : Nat} {want : Bool} {d : Nat} (hg : o.guard = some (j, want)) (hd : guardSlot ops j = some d) (hb : gdB (getS σ.s d) = some c)
    (h1 : c = want → opRun CN q0 τ o.op σ.s σ.h id (fun v h => K ⟨putS σ.s o.dst v, h⟩)) (h2 : c ≠ want → K ⟨putS σ.s o.dst (.one .und), σ.h⟩) : stepRun CN τ ops o id σ K := by
  unfold stepRun
  simp only [hg, hd, hb]
  split
  · rename_i e; exact h1 e
  · rename_i e; exact h2 e
theorem opsRun_cons {kn : List (Nat × Bool)} {ops : List Oper} {o : Oper} {r : List Oper} {id : Nat} {σ : St} {K : St → Prop} (hk : KnOk kn σ.s) (h : opsRun CN q0 τ ops kn (o :: r) id σ K) :
    ∃ kn', (∀ v, KnOk kn' (putS σ.s o.dst v)) ∧ stepRun CN τ ops o id σ (fun σ' => opsRun CN q0 τ ops kn' r (if lays o.op then id + 1 else id) σ' K) := by
  simp only [opsRun] at h
  split at h
  · rename_i hg
    refine ⟨_, fun v => hk.put o.dst v, ?_⟩
    unfold stepRun
    simp only [hg]
    exact runG_op hk h
  · rename_i j want hg
    split at h
    · rename_i d hd
      split at h
      · rename_i c hc
        have hb : gdB (getS σ.s d) = some c := by rw [hk d c hc]; rfl
        exact ⟨_, fun v => hk.put o.dst v, stepRun_mono hg hd hb (fun e => runG_op hk (by rw [if_pos e] at h; exact h)) (fun e => by rw [if_neg e] at h; exact h)⟩
      · split at h
        · rename_i hc
          have hb : gdB (getS σ.s d) = some true := by rw [hc]; rfl
          exact ⟨_, fun v => hk.put o.dst v, stepRun_mono hg hd hb (fun e => runG_op hk (by rw [if_pos e] at h; exact h)) (fun e => by rw [if_neg e] at h; exact h)⟩
        · rename_i hc
          have hb : gdB (getS σ.s d) = some false := by rw [hc]; rfl
          exact ⟨_, fun v => hk.put o.dst v, stepRun_mono hg hd hb (fun e => runG_op hk (by rw [if_pos e] at h; exact h)) (fun e => by rw [if_neg e] at h; exact h)⟩
        · rename_i c hc
          have hb : gdB (getS σ.s d) = some c := by rw [hc]; rfl
          have hk' := hk.cons hc
          cases c with
          | true =>
            rw [cond_true] at h
            exact ⟨_, fun v => hk'.put o.dst v, stepRun_mono hg hd hb (fun e => runG_op hk' (by rw [if_pos e] at h; exact h)) (fun e => by rw [if_neg e] at h; exact h)⟩
          | false =>
            rw [cond_false] at h
            exact ⟨_, fun v => hk'.put o.dst v, stepRun_mono hg hd hb (fun e => runG_op hk' (by rw [if_pos e] at h; exact h)) (fun e => by rw [if_neg e] at h; exact h)⟩
        · rename_i hc
          refine ⟨_, fun v => hk.put o.dst v, ?_⟩
          unfold stepRun
          simp only [hg, hd, hc, gdB]
          exact h
        · exact h.elim
    · exact h.elim

theorem opsRun_sound (hτ : TabOk P τ) (hCN : ∀ g args H K, CN g args H K → CallN P g args H K) {ops : List Oper} {Q : Ex → St → Prop} : ∀ (l : List Oper) (kn : List (Nat × Bool)) (ib : Nat) (σ : St) (a : Act) (w : World),
    KnOk kn σ.s → opsRun CN q0 τ ops kn l ib σ (Q .normal) → Rel C σ a w → (∀ j, ib ≤ j → j < ib + nLays l → getB σ.h j = .res) → wpList P ops.toArray (liftQ C Q) l a w
  | [], kn, ib, σ, a, w, _, h, hR, _ => ⟨σ, hR, h⟩
  | o :: l, kn, ib, σ, a, w, hk, h, hR, hres => by
    obtain ⟨M, X, hI, hS⟩ := hR
    have hnl : nLays (o :: l) = (if lays o.op = true then 1 else 0) + nLays l := by
      unfold nLays
      rw [List.filter_cons]
      split <;> simp [*] <;> omega
    have hid : lays o.op = true → getB σ.h ib = .res := fun hl => hres ib (Nat.le_refl _) (by rw [hnl, if_pos hl]; omega)
    obtain ⟨kn', hk', h⟩ := opsRun_cons hk h
    have goOn : opRun CN q0 τ o.op σ.s σ.h ib (fun v h => opsRun CN q0 τ ops kn' l (if lays o.op then ib + 1 else ib) ⟨putS σ.s o.dst v, h⟩ (Q .normal)) →
        o.wp P a w (wpList P ops.toArray (liftQ C Q) l) (liftQ C Q) := by
      intro h
      refine op_sound hτ hCN hI hS hid h (fun v h' u a' w' M' X' hI' hS' hu hl hr hK => ?_)
      refine opsRun_sound hτ hCN l kn' _ _ _ _ (hk' v) hK ⟨M', X', hI', hS'.put o.dst hu⟩ (fun j h1 h2 => ?_)
      have hj : getB σ.h j = .res := hres j (by split at h1 <;> omega) (by rw [hnl]; split at h2 <;> simp_all <;> omega)
      rcases hr j hj with ⟨rfl, hl'⟩ | hr
      · rw [if_pos hl'] at h1; omega
      · exact hr
    have skipOn : opsRun CN q0 τ ops kn' l (if lays o.op then ib + 1 else ib) ⟨putS σ.s o.dst (.one .und), σ.h⟩ (Q .normal) → wpList P ops.toArray (liftQ C Q) l (a.put o.dst undef) w := by
      intro h
      refine opsRun_sound hτ hCN l kn' _ _ _ _ (hk' _) h ⟨M, X, hI, hS.put o.dst (.one .und)⟩ (fun j h1 h2 => ?_)
      exact hres j (by split at h1 <;> omega) (by rw [hnl]; split at h2 <;> simp_all <;> omega)
    unfold stepRun at h
    simp only [wpList]
    split at h
    · rename_i hg
      rw [if_pos (by simp [Region.wanted, hg])]
      exact .inl (goOn h)
    · rename_i j want hg
      split at h
      · rename_i d hd
        have hy := yielded_of hd a.tmps
        split at h
        · rename_i c hc
          rw [gd_val hS hc] at hy
          have hw : Region.wanted o (yielded ops.toArray a.tmps) = (some c == some want) := by
            simp only [Region.wanted, hg, hy]
          rw [hw]
          split at h
          · rename_i hcw; subst hcw; rw [if_pos (by simp)]; exact .inl (goOn h)
          · rename_i hcw; rw [if_neg (by simpa using hcw)]; exact skipOn h
        · split at h
          · rename_i hc
            have hr := hS.get d
            rw [hc] at hr
            have hv : a.tmps.getD d undef = undef := by
              generalize a.tmps.getD d undef = v at hr
              cases hr with | one h => cases h; rfl
            have hno : (match a.tmps[d]? with | some (.bool b) => some b | _ => none) = (none : Option Bool) := by
              rw [Array.getD_eq_getD_getElem?] at hv
              split
              · rename_i b hb
                rw [hb] at hv
                cases hv
              · rfl
            have hw : Region.wanted o (yielded ops.toArray a.tmps) = false := by
              simp only [Region.wanted, hg, hy, hno]
              rfl
            rw [hw, if_neg (by decide)]
            exact skipOn h
          · exact h.elim
      · exact h.elim

theorem Rel.reserve {σ : St} {a : Act} {w : World} (hR : Rel C σ a w) (n : Nat) : Rel C ⟨σ.s, σ.h ++ List.replicate n .res⟩ a w := by
  obtain ⟨M, X, hI, hS⟩ := hR
  have hg : ∀ j, j < σ.h.length → getB (σ.h ++ List.replicate n .res) j = getB σ.h j := fun j hj => by
    simp [getB, List.getD_eq_getElem?_getD, List.getElem?_append_left hj]
  have hm : ∀ (j : Nat) p, (M ++ List.replicate n Pm.res)[j]? = some p → (j < M.length ∧ M[j]? = some p) ∨ (M.length ≤ j ∧ p = .res) := fun j p hj => by
    rw [List.getElem?_append] at hj
    split at hj
    · rename_i h; exact .inl ⟨h, hj⟩
    · rename_i h
      rw [List.getElem?_replicate] at hj
      split at hj
      · cases hj; exact .inr ⟨by omega, rfl⟩
      · cases hj
  have he : Ext M (M ++ List.replicate n Pm.res) := fun j p hj _ => by
    rw [List.getElem?_append_left (List.getElem?_eq_some_iff.1 hj).1]; exact hj
  refine ⟨M ++ List.replicate n .res, X, ⟨hI.os, hI.tape, hI.output, hI.size, hI.frame, hI.xlt, hI.xsub, hI.x0, by simp [hI.mlen], ⟨by have := hI.pin.1; simp; omega, hI.pin.2.trans he⟩, fun j p hj hl => ?_, fun j j' p p' hj hj' hl hl' hb => ?_, fun j p hj => ?_⟩, hS.mono (fun _ _ => rfl) (fun _ h => h) he⟩
  · rcases hm j _ hj with ⟨h1, h2⟩ | ⟨_, h2⟩
    · rw [hg j (by rw [← hI.mlen]; exact h1)] at hl; exact hI.live j p h2 hl
    · cases h2
  · rcases hm j _ hj with ⟨h1, h2⟩ | ⟨_, h2⟩
    · rcases hm j' _ hj' with ⟨h1', h2'⟩ | ⟨_, h2'⟩
      · rw [hg j (by rw [← hI.mlen]; exact h1)] at hl
        rw [hg j' (by rw [← hI.mlen]; exact h1')] at hl'
        exact hI.inj j j' p p' h2 h2' hl hl' hb
      · cases h2'
    · cases h2
  · rcases hm j _ hj with ⟨h1, h2⟩ | ⟨h1, rfl⟩
    · rw [hg j (by rw [← hI.mlen]; exact h1)]
      exact (hI.blk j p h2).mono (fun _ _ => rfl) (fun _ h => h) he (fun _ _ _ => rfl)
    · have hlt : j < M.length + n := by
        have := (List.getElem?_eq_some_iff.1 hj).1
        simpa using this
      have : getB (σ.h ++ List.replicate n .res) j = .res := by
        simp only [getB, List.getD_eq_getElem?_getD]
        rw [List.getElem?_append_right (by rw [← hI.mlen]; exact h1), List.getElem?_replicate, if_pos (by rw [← hI.mlen]; omega)]
        rfl
      rw [this]
      exact .res

theorem regRun_sound (hτ : TabOk P τ) (hCN : ∀ g args H K, CN g args H K → CallN P g args H K) {ops : List Oper} {Q : Ex → St → Prop} {σ : St} {a : Act} {w : World} (h : regRun CN q0 τ ops σ (Q .normal)) (hR : Rel C σ a w) : wpList P ops.toArray (liftQ C Q) ops a w := by
  refine opsRun_sound hτ hCN ops [] _ _ a w (fun d b h => by cases h) h (hR.reserve _) (fun j h1 h2 => ?_)
  simp only [getB, List.getD_eq_getElem?_getD]
  rw [List.getElem?_append_right h1, List.getElem?_replicate, if_pos (by omega)]
  rfl
end Sx
