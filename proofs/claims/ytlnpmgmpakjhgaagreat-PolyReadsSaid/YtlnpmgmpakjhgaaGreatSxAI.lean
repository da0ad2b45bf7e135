/- A part of the proof of PolyReadsSaid: texts SxL2 SxM. -/
import Derived.Test.YtlnpmgmpakjhgaaGreatSxAH
set_option linter.all false
section
namespace Sx
open Go
variable {P : Program} {C : Ctx} {τ : TypeId → Option TI}
section
variable {s : Slots} {a : Act} {w : World} {M : Mp} {X : Nat → Prop} {H : List Blk}

theorem run_copy_zero {dT sT ty elem : TypeId} {i : TypeInfo} (hu : P.underlying dT = some (.slice elem)) (hi : P.info? elem = some i) (d b : Option Addr) (dLen dCap sLen sCap : Nat) (hn : Nat.min sLen dLen = 0) :
    (Builtin.copy_ #[dT, sT] ty #[.slice d dLen dCap, .slice b sLen sCap]).run P w = .ok (goInt 0) w := by
  have hl : ∀ (x : Addr), (loadCells x 0).run P w = .ok #[] w := fun x => by simpa using run_loadCells_list (P := P) (w := w) x [] (by simp)
  cases d <;> cases b <;> simp [Builtin.copy_, run_underlying hu, Builtin.lenOf, Builtin.firstCells, Go.sizeOf, typeInfo, hi, hn, storeCells, hl]
theorem run_copy_some {dT sT ty elem : TypeId} {i : TypeInfo} {sz : Nat} (hu : P.underlying dT = some (.slice elem)) (hi : P.info? elem = some i) (hsz : i.size = sz) {g o : Nat} (dLen dCap : Nat) {ad : Addr} (sLen sCap : Nat) {cur : Array Value} {t : TypeId} {cs : List Value}
    (hg : w.heap[g]? = some (.cells cur t (0, 0))) (hn : cs.length = Nat.min sLen dLen * sz) (hsrc : ∀ j v, cs[j]? = some v → w.cell? (ad.add j) = some v) (hfit : o + cs.length ≤ cur.size) (h1 : ∀ v ∈ cs, v.oneCell' = true) :
    (Builtin.copy_ #[dT, sT] ty #[.slice (some ⟨g, o, none⟩) dLen dCap, .slice (some ad) sLen sCap]).run P w = .ok (goInt (Nat.min sLen dLen)) (w.setRow g (putCells cur o cs)) := by
  subst hsz
  have hl := run_loadCells_list (P := P) (w := w) ad cs hsrc
  rw [hn] at hl
  have hst := run_storeCells_at P g o t cs 0 cur w hg (by simpa using hfit) h1
  simp only [Nat.add_zero] at hst
  have hst' : (storeCells ⟨g, o, none⟩ cs 0).run P w = .ok () (w.setRow g (putCells cur o cs)) := hst
  simp [Builtin.copy_, run_underlying hu, Builtin.lenOf, Builtin.firstCells, Go.sizeOf, typeInfo, hi, hl, hst']

theorem copy_step (hτ : TabOk P τ) (hI : Inv C H w M X) (hS : Sl s a w M X) {o : Oper} {t t' : TypeId} {x y : Operand} {ti te : TI} {e : TypeId}
    (ho : o.op = .call { callee := .builtin .copy, args := #[x, y], argTypes := #[t, t'] }) (ht : τ t = some ti) (hu : ti.und = .slice e) (hte : τ e = some te) {ib : Nat} {K : AV → List Blk → Prop}
    (h : copyOp q0 te (ev s x) (ev s y) H K) : ∃ v h', Stp P C s H ib a w o v h' ∧ K v h' := by
  have hus := und_slice hτ ht hu
  have hT := hτ _ _ hte
  obtain ⟨i, zv, hi, his, hib, hiz, hzs, hzr⟩ := hT.info
  have run : ∀ v w', (Builtin.copy_ #[t, t'] o.type #[a.eval x, a.eval y]).run P w = .ok v w' → (execOp a.eval o).run P w = .ok (.value v) w' := fun v w' hr => by
    unfold execOp
    simp only [ho, resolve, invoke, builtin, Sem.run_bind, Sem.run_pure, Result.andThen_ok, List.map_toArray, List.map_cons, List.map_nil, hr]
  have into : ∀ (b : Nat) (off n m : Int) (hh : Int → List T) (len cap : Nat) (base : Option Addr) (dl dc : Nat) (dbase : Option Addr), a.eval y = .slice base len cap → m = (len : Int) → a.eval x = .slice dbase dl dc → n = (dl : Int) →
      (len = 0 ∨ ∃ (ad : Addr) (news : List Value), base = some ad ∧ news.length = len * te.sz ∧ (∀ j u, news[j]? = some u → w.cell? (ad.add j) = some u) ∧ (∀ u ∈ news, u.oneCell' = true) ∧
        ∀ i, i < len → (hh i).length = te.sz ∧ ∀ f t, (hh i)[f]? = some t → ∃ v, news[i * te.sz + f]? = some v ∧ RdT w X t v) →
      ((M[b]? = some .nil ∧ dl = 0) ∨ ∃ p o, M[b]? = some (.at p) ∧ off = ((o : Nat) : Int) ∧ o + dl ≤ p.u ∧ (0 < dl → dbase = some ⟨p.b, o * p.sz, none⟩)) → copyInto q0 te b off n m hh H K → ∃ v h', Stp P C s H ib a w o v h' ∧ K v h' := by
    intro b off n m hh len cap base dl dc dbase hy hm hx hn hsrc hdst h
    subst hm; subst hn
    unfold copyInto at h
    split at h
    · rename_i ty sz nb g hb
      split at h
      · rename_i hsz
        subst hsz
        have hk : (q0 Int fun _ => minI (len : Int) (dl : Int)) = ((Nat.min len dl : Nat) : Int) := by
          show minI (len : Int) (dl : Int) = _
          unfold minI
          split
          · rw [show Nat.min len dl = len from Nat.min_eq_left (by omega)]
          · rw [show Nat.min len dl = dl from Nat.min_eq_right (by omega)]
        rw [hk] at h
        by_cases h0 : Nat.min len dl = 0
        · have hr := run_copy_zero (P := P) (w := w) (ty := o.type) (dT := t) (sT := t') hus hi dbase base dl dc len cap h0
          rw [h0] at h
          have e0 : cpyFn off ((0 : Nat) : Int) g hh = g := by
            funext j
            unfold cpyFn
            rw [if_neg (by omega)]
          rw [e0] at h
          have e1 : H.set b (.sl ty te.sz nb g) = H := by
            have hlt := getB_lt (H := H) (id := b) (by rw [hb]; simp)
            rw [← hb]
            unfold getB
            rw [List.getD_eq_getElem?_getD]
            simp [hlt]
          rw [e1] at h
          exact ⟨_, _, .still hI hS (u := .int .i64 0) (run _ _ (by rw [hx, hy]; exact hr)) (.one (.t .int)), h⟩
        · rcases hdst with ⟨_, hd0⟩ | ⟨p, oo, hp, hoff, hle, hdb⟩
          · subst hd0; exact absurd (Nat.min_eq_right (Nat.zero_le _)) h0
          · have hmin : Nat.min len dl ≤ len ∧ Nat.min len dl ≤ dl := ⟨Nat.min_le_left _ _, Nat.min_le_right _ _⟩
            subst hoff
            have hB := hI.blk b _ hp
            rw [hb] at hB
            cases hB with | sl h1 h2 h3 h4 h5 h6 h7 h8 =>
            rename_i cur
            obtain ⟨ad, news, hbase, hnl, hnews, hn1, hel⟩ := hsrc.resolve_left (by omega)
            subst hbase
            have hdb' := hdb (by omega)
            rw [h2] at hdb'
            subst hdb'
            generalize hkk : Nat.min len dl = k at *
            have hcl : (news.take (k * te.sz)).length = k * te.sz := by
              rw [List.length_take, hnl]
              exact Nat.min_eq_left (Nat.mul_le_mul_right _ hmin.1)
            have hfit : oo * te.sz + (news.take (k * te.sz)).length ≤ cur.size := by
              rw [hcl, h7, ← Nat.add_mul]
              exact Nat.mul_le_mul_right _ (by omega)
            have hr := run_copy_some (P := P) (w := w) (ty := o.type) (dT := t) (sT := t') hus hi his (g := p.b) (o := oo * te.sz) dl dc (ad := ad) len cap (cur := cur) (cs := news.take (k * te.sz)) h6 (by rw [hcl, hkk])
              (fun j v hv => by
                rw [List.getElem?_take] at hv
                split at hv
                · exact hnews j v hv
                · cases hv) hfit (fun v hv => hn1 v (List.mem_of_mem_take hv))
            have hs : Same w (w.setRow p.b (putCells cur (oo * te.sz) (news.take (k * te.sz)))) X := fun b' hb' => setRow_other w p.b b' _ (fun e => (hI.live b p hp (by rw [hb]; rfl)).2.2 (e ▸ hb'))
            have e2 := putCells_get hfit
            obtain ⟨hI', _⟩ := hI.write hp (by rw [hb]; rfl) (putCells cur (oo * te.sz) (news.take (k * te.sz))) (.sl ty te.sz nb (cpyFn oo k g hh))
              (.sl h1 h2 h3 h4 h5 (setRow_heap w p.b cur _ ty _ h6) (by rw [putCells_size hfit]; exact h7) (fun i hi => by
                by_cases hin : oo ≤ i ∧ i < oo + k
                · have e3 : cpyFn oo k g hh (i : Int) = hh ((i - oo : Nat) : Int) := by
                    unfold cpyFn
                    rw [if_pos (by omega)]
                    congr 1
                    omega
                  rw [e3]
                  obtain ⟨q1, q2⟩ := hel (i - oo) (by omega)
                  refine ⟨q1, fun f t hf => ?_⟩
                  obtain ⟨v, hv, hrr⟩ := q2 f t hf
                  have hfl : f < te.sz := by rw [← q1]; exact (List.getElem?_eq_some_iff.1 hf).1
                  refine ⟨v, ?_, hrr.mono hs (fun _ h => h)⟩
                  have l1 : oo * te.sz ≤ i * te.sz := Nat.mul_le_mul_right _ hin.1
                  have l2 : (i - oo + 1) * te.sz ≤ k * te.sz := Nat.mul_le_mul_right _ (by omega)
                  have l3 : (i - oo) * te.sz = i * te.sz - oo * te.sz := Nat.sub_mul ..
                  rw [Nat.add_mul, l3] at l2
                  rw [e2, hcl, if_pos ⟨by omega, by omega⟩, List.getElem?_take, if_pos (by omega), ← hv]
                  congr 1
                  omega
                · have e3 : cpyFn oo k g hh (i : Int) = g i := by
                    unfold cpyFn
                    rw [if_neg (by omega)]
                  rw [e3]
                  obtain ⟨q1, q2⟩ := h8 i hi
                  refine ⟨q1, fun f t hf => ?_⟩
                  obtain ⟨v, hv, hrr⟩ := q2 f t hf
                  have hfl : f < te.sz := by rw [← q1]; exact (List.getElem?_eq_some_iff.1 hf).1
                  refine ⟨v, ?_, hrr.mono hs (fun _ h => h)⟩
                  rw [e2, hcl, if_neg ?_]
                  · exact hv
                  · rintro ⟨c1, c2⟩
                    apply hin
                    constructor
                    · rcases Nat.lt_or_ge i oo with hlt | hge
                      · have : (i + 1) * te.sz ≤ oo * te.sz := Nat.mul_le_mul_right _ hlt
                        rw [Nat.add_mul] at this; omega
                      · exact hge
                    · rcases Nat.lt_or_ge i (oo + k) with hlt | hge
                      · exact hlt
                      · have : (oo + k) * te.sz ≤ i * te.sz := Nat.mul_le_mul_right _ hge
                        rw [Nat.add_mul] at this; omega)) rfl
            refine ⟨_, _, ⟨_, _, M, X, .inl (run _ _ (by rw [hx, hy]; exact hr)), hI', hS.mono hs (fun _ h => h) (Ext.refl M), ?_, by simp, fun j hj' => .inr ?_⟩, h⟩
            · rw [hkk]; exact .one (.t .int)
            · rw [getB_set (getB_lt (by rw [hb]; simp))]
              split
              · rename_i e; subst e; rw [hb] at hj'; cases hj'
              · exact hj'
      · exact h.elim
    · exact h.elim
  unfold copyOp at h
  split at h
  · rename_i sz m hh hsrc
    split at h
    · rename_i hsz
      subst hsz
      obtain ⟨base, len, cap, hvy, hm, hsrc'⟩ := src_cells hI (hS.ev y) hsrc hT.pos
      split at h
      · rename_i b n hx
        have hxr := ev_one hS hx
        generalize hax : a.eval x = vx at hxr
        cases hxr with
        | row0 hp => exact into b 0 0 m hh len cap base 0 0 _ hvy hm hax rfl hsrc' (.inl ⟨hp, rfl⟩) h
        | row hp hn hl hcu hcm =>
          rename_i p dl
          exact into b 0 n m hh len cap base dl p.c _ hvy hm hax hn hsrc' (.inr ⟨p, 0, hp, rfl, by omega, fun _ => by simp⟩) h
      · rename_i b off n hx
        have hxr := ev_one hS hx
        generalize hax : a.eval x = vx at hxr
        cases hxr with
        | sub0 hp hn => exact into b off n m hh len cap base 0 0 _ hvy hm hax hn hsrc' (.inl ⟨hp, rfl⟩) h
        | sub hp ho' hn hu' hlc hcm hba =>
          rename_i p oo dl dcap dbase
          exact into b off n m hh len cap base dl dcap dbase hvy hm hax hn hsrc' (.inr ⟨p, oo, hp, ho', hu', hba⟩) h
      · exact h.elim
    · exact h.elim
  · exact h.elim
end
end Sx
end

section
namespace Sx
open Go
variable {P : Program} {C : Ctx} {τ : TypeId → Option TI} {CN : CNt}
section
variable {s : Slots} {a : Act} {w : World} {M : Mp} {X : Nat → Prop} {H : List Blk}

def isCall : Op → Bool
  | .call c => match c.callee with | .value _ => true | _ => false
  | _ => false

theorem opRun_step (hτ : TabOk P τ) (hI : Inv C H w M X) (hS : Sl s a w M X) {o : Oper} (hc : isCall o.op = false) {ib : Nat} (hid : lays o.op = true → getB H ib = .res) {K : AV → List Blk → Prop} (h : opRun CN q0 τ o.op s H ib K) :
    ∃ v h', Stp P C s H ib a w o v h' ∧ K v h' := by
  cases ho : o.op with
  | move x =>
    rw [ho] at h; simp only [opRun] at h
    exact ⟨_, H, .still hI hS (by unfold execOp; simp only [ho]; rfl) (hS.ev x), h⟩
  | assign x =>
    rw [ho] at h; simp only [opRun] at h
    exact ⟨_, H, .still hI hS (by unfold execOp; simp only [ho]; rfl) (hS.ev x), h⟩
  | pick c x y =>
    rw [ho] at h; simp only [opRun] at h
    split at h
    · rename_i hb
      exact ⟨_, H, .still hI hS (by unfold execOp; simp only [ho, ev_tt hS hb, asBool, Sem.run_bind, Sem.run_pure, Result.andThen_ok, if_true]) (hS.ev x), h⟩
    · rename_i hb
      exact ⟨_, H, .still hI hS (by unfold execOp; simp only [ho, ev_ff hS hb, asBool, Sem.run_bind, Sem.run_pure, Result.andThen_ok, Bool.false_eq_true, if_false]) (hS.ev y), h⟩
    · rename_i b hb
      have hb' := ev_bool hS hb
      cases b with
      | true => exact ⟨_, H, .still hI hS (by unfold execOp; simp only [ho, hb', asBool, Sem.run_bind, Sem.run_pure, Result.andThen_ok, if_true]) (hS.ev x), h⟩
      | false => exact ⟨_, H, .still hI hS (by unfold execOp; simp only [ho, hb', asBool, Sem.run_bind, Sem.run_pure, Result.andThen_ok, Bool.false_eq_true, if_false]) (hS.ev y), h⟩
    · exact h.elim
  | alloc e => exact alloc_step hτ hI hS ho (hid (by rw [ho]; rfl)) h
  | box e x => exact box_step hτ hI hS ho (hid (by rw [ho]; rfl)) h
  | build t ps => exact build_step hτ hI hS ho h
  | buildSlice t len ps => exact buildSlice_step hτ hI hS ho (hid (by rw [ho]; rfl)) h
  | load t x => exact load_step hτ hI hS ho h
  | store t x y => exact store_step hτ hI hS ho h
  | nilCheck x =>
    rw [ho] at h; simp only [opRun] at h
    split at h
    · rename_i b f hx
      have hxr := ev_one hS hx
      generalize hax : a.eval x = vx at hxr
      cases hxr with | bp hp =>
      exact ⟨_, H, .still hI hS (by unfold execOp; simp only [ho, hax]; rfl) (.one (.bp hp)), h⟩
    · rename_i b i f hx
      have hxr := ev_one hS hx
      generalize hax : a.eval x = vx at hxr
      cases hxr with | ep hp h1 h2 =>
      exact ⟨_, H, .still hI hS (by unfold execOp; simp only [ho, hax]; rfl) (.one (.ep hp h1 h2)), h⟩
    · rename_i cs hx
      have hxr := ev_one hS hx
      generalize hax : a.eval x = vx at hxr
      cases hxr with | fp hp =>
      exact ⟨_, H, .still hI hS (by unfold execOp; simp only [ho, hax]; rfl) (.one (.fp hp)), h⟩
    · rename_i f caps hx
      have hxr := ev_one hS hx
      generalize hax : a.eval x = vx at hxr
      cases hxr with | fn h1 h2 =>
      exact ⟨_, H, .still hI hS (by unfold execOp; simp only [ho, hax]; rfl) (.one (.fn h1 h2)), h⟩
    · exact h.elim
  | binOp op xT x y yT =>
    rw [ho] at h; simp only [opRun] at h
    obtain ⟨r, v, hr, hK, hv, g1, g2⟩ := runOpBin_step (P := P) (w := w) (X := X) (M := M) hτ (hS.ev x) (hS.ev y) h
    refine ⟨_, H, .still hI hS (u := v) ?_ (.one hv), hK⟩
    unfold execOp
    simp only [ho, Sem.run_bind, eqGuard_free (P := P) (w := w) (op := op) (t := xT) (x := x) (y := y) g1 g2, Result.andThen_ok, hr, Sem.run_pure]
  | unOp op t x =>
    rw [ho] at h
    cases op <;> simp only [opRun] at h
    case neg =>
      split at h
      · rename_i k n hx
        exact ⟨_, H, .still hI hS (u := .int k (k.wrap (0 - n))) (by unfold execOp; simp only [ho, ev_int hS hx, Op.unary, Op.intArith, Sem.run_bind, Sem.run_pure, Result.andThen_ok]) (.one (.t .int)), h⟩
      · exact h.elim
    case not =>
      split at h
      · rename_i hx
        exact ⟨_, H, .still hI hS (u := .bool false) (by unfold execOp; simp only [ho, ev_tt hS hx, Op.unary, Sem.run_bind, Sem.run_pure, Result.andThen_ok]; rfl) (.one .ff), h⟩
      · rename_i hx
        exact ⟨_, H, .still hI hS (u := .bool true) (by unfold execOp; simp only [ho, ev_ff hS hx, Op.unary, Sem.run_bind, Sem.run_pure, Result.andThen_ok]; rfl) (.one .tt), h⟩
      · rename_i b hx
        exact ⟨_, H, .still hI hS (u := .bool !b) (by unfold execOp; simp only [ho, ev_bool hS hx, Op.unary, Sem.run_bind, Sem.run_pure, Result.andThen_ok]) (.one (.t .bool)), h⟩
      · exact h.elim
  | convert sT d x =>
    rw [ho] at h; simp only [opRun] at h
    split at h
    · rename_i ts td hts htd
      split at h
      · rename_i k0 k' k n hus hud hx
        refine ⟨_, H, .still hI hS (u := .int k' (k'.wrap n)) ?_ (.one (.t .int)), h⟩
        unfold execOp
        simp only [ho, ev_int hS hx, convert, Sem.run_bind, run_underlying (und_int hτ hts hus), run_underlying (und_int hτ htd hud), Result.andThen_ok, Conv.intToInt, Sem.run_pure]
      · rename_i k0 k' k n hus hud hx
        refine ⟨_, H, .still hI hS (u := .float k' (floatOfInt k' n)) ?_ (.one (.t .flt)), h⟩
        unfold execOp
        simp only [ho, ev_int hS hx, run_convert_int_float w sT d k k' n (by rw [und_int hτ hts hus]; rfl) (und_flt hτ htd hud), Sem.run_bind, Result.andThen_ok, Sem.run_pure]
      · rename_i k0 k' k b hus hud hx
        cases h with | mk hb h =>
        obtain ⟨r, hr⟩ := Option.isSome_iff_exists.1 hb
        refine ⟨_, H, .still hI hS (u := .int k' r) ?_ (.one (by simp only [q0, hr]; exact .t .int)), h⟩
        unfold execOp
        simp only [ho, ev_flt hS hx, run_convert_float_int w sT d k k' b r (by rw [und_flt hτ hts hus]; rfl) (und_int hτ htd hud) hr, Sem.run_bind, Result.andThen_ok, Sem.run_pure]
      · rename_i b hus hud hx
        refine ⟨_, H, .still hI hS (u := .string b) ?_ (.one (.t .str)), h⟩
        unfold execOp
        simp only [ho, ev_str hS hx, convert, Sem.run_bind, run_underlying (und_string hτ hts hus), run_underlying (und_string hτ htd hud), Result.andThen_ok, Sem.run_pure]
      · exact h.elim
    · exact h.elim
  | makeFunc fn first caps =>
    rw [ho] at h
    cases fn <;> simp only [opRun] at h
    rename_i f
    split at h
    · rename_i hf
      have hf' : first = #[] := Array.eq_empty_of_size_eq_zero hf
      subst hf'
      refine ⟨_, H, .still hI hS (u := .func (.func f) #[] (caps.toList.map a.eval).toArray) ?_ (.one (.fn (by simp) (fun j l v hl hv => ?_))), h⟩
      · unfold execOp
        simp only [ho, Instr.makeFunc, Sem.run_bind, Sem.run_pure, Result.andThen_ok]
        have e1 : Array.map a.eval (#[] : Array Operand) = #[] := by simp
        have e2 : Array.map a.eval caps = (caps.toList.map a.eval).toArray := Array.ext' (by simp)
        rw [e1, e2]
      · simp only [List.getElem?_map, Option.map_eq_some_iff] at hl hv
        obtain ⟨x, hx, rfl⟩ := hl
        obtain ⟨y, hy, rfl⟩ := hv
        rw [hx] at hy
        cases hy
        have := hS.ev x
        revert this
        cases hxx : ev s x with
        | one l => intro this; cases this; simp only [oneOf]; assumption
        | agg ls => intro _; simp only [oneOf]; exact .any
        | tup xs => intro _; simp only [oneOf]; exact .any
    · exact h.elim
  | makeMap t r =>
    rw [ho] at h
    cases r with
    | some y => simp only [opRun] at h
    | none =>
      simp only [opRun] at h
      obtain ⟨hI', hs⟩ := hI.push (.map #[] 0)
      refine ⟨_, H, ⟨.map (some w.heap.size), w.alloc (.map #[] 0), M, X, .inl ?_, hI', hS.mono hs (fun _ h => h) (Ext.refl M), .one .any, rfl, fun j hj => .inr hj⟩, h⟩
      unfold execOp
      simp only [ho, Option.map_none, Instr.makeMap, Sem.run_bind, Sem.run_pure, Result.andThen_ok]
      rfl
  | makeSlice t x y => exact makeSlice_step hτ hI hS ho (hid (by rw [ho]; rfl)) h
  | slice t x lo hi mx =>
    rw [ho] at h; simp only [opRun] at h
    split at h
    · rename_i ti ht
      split at h
      · rename_i e hu
        split at h
        · rename_i te hte
          have hh : ∃ r v, (Instr.sliceAt t (a.eval x) (lo.map a.eval) (hi.map a.eval) (mx.map a.eval)).run P w = .ok v w ∧ RdL w X M r v ∧ K (.one r) H := by
            cases hz : zeroB lo hi mx with
            | true => rw [hz, cond_true] at h; exact empOp_step (P := P) hτ ht hu hte (hS.ev x) hz h
            | false => rw [hz, cond_false] at h; exact sliceOp_step (P := P) hτ ht hu hte hS hI (hS.ev x) lo hi mx h
          obtain ⟨r, v, hr, hv, hK⟩ := hh
          exact ⟨_, H, .still hI hS (u := v) (by unfold execOp; simp only [ho, Sem.run_bind, hr, Result.andThen_ok, Sem.run_pure]) (.one hv), hK⟩
        · exact h.elim
      · rename_i hu
        obtain ⟨r, v, hr, hv, hK⟩ := strSliceOp_step (P := P) (und_string hτ ht hu) hS (hS.ev x) lo hi mx h
        exact ⟨_, H, .still hI hS (u := v) (by unfold execOp; simp only [ho, Sem.run_bind, hr, Result.andThen_ok, Sem.run_pure]) (.one hv), hK⟩
      · exact h.elim
    · exact h.elim
  | fieldAddr t x f => exact fieldAddr_step hτ hI hS ho h
  | field t x f => exact field_step hτ hI hS ho h
  | indexAddr t x y => exact indexAddr_step hτ hI hS ho h
  | index t x y => exact index_step hτ hI hS ho h
  | extract x i =>
    rw [ho] at h; simp only [opRun] at h
    split at h
    · rename_i vs hx
      split at h
      · rename_i v hv
        have hxr := hS.ev x
        rw [hx] at hxr
        generalize hax : a.eval x = vx at hxr
        cases hxr with | tup hl hr =>
        rename_i cv
        have hlt : i < cv.size := by rw [← hl]; exact (List.getElem?_eq_some_iff.1 hv).1
        refine ⟨_, H, .still hI hS (u := cv[i]) ?_ (hr i v _ hv (by simp [hlt])), h⟩
        unfold execOp
        have hg : cv[i]? = some cv[i] := by simp [hlt]
        simp only [ho, hax, Instr.extract, hg, Sem.run_bind, Sem.run_pure, Result.andThen_ok]
      · exact h.elim
    · exact h.elim
  | call c =>
    obtain ⟨callee, args, argTypes⟩ := c
    cases callee with
    | value f => rw [ho] at hc; simp [isCall] at hc
    | invoke r m => rw [ho] at h; simp only [opRun] at h
    | builtin b =>
      cases b <;> (try (rw [ho] at h; simp only [opRun] at h; done))
      case len =>
        rw [ho] at h; simp only [opRun] at h
        split at h
        · rename_i x t hx ht
          split at h
          · rename_i ti hti
            have ha : args = #[x] := by cases args; simpa using hx
            have hat : argTypes = #[t] := by cases argTypes; simpa using ht
            subst ha; subst hat
            split at h
            · rename_i e hu
              obtain ⟨n, ⟨b, c, hv⟩, hK⟩ := lenOp_step (hS.ev x) h
              refine ⟨_, H, .still hI hS (u := .int .i64 n) ?_ (.one (.t .int)), hK⟩
              unfold execOp
              simp only [ho, resolve, invoke, builtin, Sem.run_bind, Sem.run_pure, Result.andThen_ok, List.map_toArray, List.map_cons, List.map_nil, hv]
              simp [Builtin.len_, run_underlying (und_slice hτ hti hu), goInt]
            · rename_i hu
              unfold lenStr at h
              split at h
              · rename_i b hb
                refine ⟨_, H, .still hI hS (u := .int .i64 b.size) ?_ (.one (.t .int)), h⟩
                unfold execOp
                simp only [ho, resolve, invoke, builtin, Sem.run_bind, Sem.run_pure, Result.andThen_ok, List.map_toArray, List.map_cons, List.map_nil, ev_str hS hb]
                simp [Builtin.len_, run_underlying (und_string hτ hti hu), goInt]
              · exact h.elim
            · exact h.elim
          · exact h.elim
        · exact h.elim
      case min =>
        rw [ho] at h; simp only [opRun] at h
        split at h
        · rename_i x y hx
          have ha : args = #[x, y] := by cases args; simpa using hx
          subst ha
          split at h
          · rename_i k n k' m h1 h2
            split at h
            · rename_i hk
              subst hk
              refine ⟨_, H, .still hI hS (u := .int k (if m < n then m else n)) ?_ (.one (.t .int)), h⟩
              unfold execOp
              simp only [ho, resolve, invoke, builtin, Sem.run_bind, Sem.run_pure, Result.andThen_ok, List.map_toArray, List.map_cons, List.map_nil, ev_int hS h1, ev_int hS h2]
              simp [Builtin.min_, Builtin.min2]
            · exact h.elim
          · exact h.elim
        · exact h.elim
      case max =>
        rw [ho] at h; simp only [opRun] at h
        split at h
        · rename_i x y hx
          have ha : args = #[x, y] := by cases args; simpa using hx
          subst ha
          split at h
          · rename_i k n k' m h1 h2
            split at h
            · rename_i hk
              subst hk
              refine ⟨_, H, .still hI hS (u := .int k (if m > n then m else n)) ?_ (.one (.t .int)), h⟩
              unfold execOp
              simp only [ho, resolve, invoke, builtin, Sem.run_bind, Sem.run_pure, Result.andThen_ok, List.map_toArray, List.map_cons, List.map_nil, ev_int hS h1, ev_int hS h2]
              simp [Builtin.max_, Builtin.max2]
            · exact h.elim
          · exact h.elim
        · exact h.elim
      case copy =>
        rw [ho] at h; simp only [opRun] at h
        split at h
        · rename_i x y t t' hx ht
          split at h
          · rename_i ti hti
            split at h
            · rename_i e hu
              split at h
              · rename_i te hte
                have ha : args = #[x, y] := by cases args; simpa using hx
                have hat : argTypes = #[t, t'] := by cases argTypes; simpa using ht
                subst ha; subst hat
                exact copy_step hτ hI hS ho hti hu hte h
              · exact h.elim
            · exact h.elim
          · exact h.elim
        · exact h.elim
      case append =>
        rw [ho] at h; simp only [opRun] at h
        split at h
        · rename_i x y t t' hx ht
          split at h
          · rename_i htt
            subst htt
            split at h
            · rename_i ti hti
              split at h
              · rename_i e hu
                split at h
                · rename_i te hte
                  have ha : args = #[x, y] := by cases args; simpa using hx
                  have hat : argTypes = #[t, t] := by cases argTypes; simpa using ht
                  subst ha; subst hat
                  exact append_step hτ hI hS ho hti hu hte (hid (by rw [ho]; rfl)) h
                · exact h.elim
              · exact h.elim
            · exact h.elim
          · exact h.elim
        · exact h.elim
  | _ => rw [ho] at h; simp only [opRun] at h
end
end Sx
end
