/- A part of the proof of PolyReadsSaid: texts SxPR1 SxOpen SxOpen2. -/
import Derived.Test.YtlnpmgmpakjhgaaGreatSxBK
import Derived.Test.YtlnpmgmpakjhgaaGreatSxBW
import Derived.Test.YtlnpmgmpakjhgaaGreatSxAS
import Derived.Test.YtlnpmgmpakjhgaaGreatSxAX
import Derived.ChangeArms
import Derived.ChangeOld
import Derived.DataElems
import Derived.DataReads
import Derived.Test.YtlnpmgmpakjhgaaGreatSxAT
set_option linter.all false
section
set_option maxRecDepth 100000
namespace Sx
open Go

structure ReadsOk (n : Nat) (g : Int → List T) (M1 M2 : T) (v : Int) (r : Rat) (b1 b2 : Bool) (l : List Int) : Prop where
  c1 : PureF Pg F.poly_Coef (fun q => [.one (.sl 5 (q Int fun _ => (n : Int)) g), .agg [M1, M2]]) (fun q => .agg (ratL q r))
  c2 : PureF Pg F.amortcostref20_Coef (fun q => [.one (.sl 5 (q Int fun _ => (n : Int)) g), .agg [M1, M2]]) (fun q => .agg (ratL q r))
  hr : rlen r ≤ 100000000
  n1 : PureF Pg F.poly_NonNegative (fun q => [.one (.sl 5 (q Int fun _ => (n : Int)) g)]) (fun q => .one (.bool b1))
  n2 : PureF Pg F.amortcostref20_NonNegative (fun q => [.one (.sl 5 (q Int fun _ => (n : Int)) g)]) (fun q => .one (.bool b1))
  m1 : PureF Pg F.poly_Mentions (fun q => [.one (.sl 5 (q Int fun _ => (n : Int)) g), .one (.int .i64 v)]) (fun q => .one (.bool b2))
  m2 : PureF Pg F.amortcostref20_Mentions (fun q => [.one (.sl 5 (q Int fun _ => (n : Int)) g), .one (.int .i64 v)]) (fun q => .one (.bool b2))
  v1 : PureF Pg F.poly_Vars (fun q => [.one (.sl 5 (q Int fun _ => (n : Int)) g)]) (fun q => .one (intsT l))
  v2 : PureF Pg F.amortcostref20_Vars (fun q => [.one (.sl 5 (q Int fun _ => (n : Int)) g)]) (fun q => .one (intsT l))
  hl : l.length ≤ lenB

theorem reads_main (n : Nat) (g : Int → List T) (M1 M2 : T) (v : Int) (r : Rat) (b1 b2 : Bool) (l : List Int) (S1 S2 : Prop)
    (hT : PureC Pg F.amortcostkeep_Terms [.one (.sl 5 n g), .one (.int .i64 10)] (fun x => ∃ b, x = .one (.bool b) ∧ (b = true → S1)))
    (hM : PureC Pg F.amortcostkeep_Mono [.agg [M1, M2]] (fun x => ∃ b, x = .one (.bool b) ∧ (b = true → S2)))
    (hS : S1 → S2 → ReadsOk n g M1 M2 v r b1 b2 l)
    (hA : PureF Pg F.amortcostlaw20_awake (fun _ => []) (fun _ => .one (.bool true))) :
    PureF Pg F.amortcostlaw20_PolyReads (fun q => [.one (.sl 5 (q Int fun _ => (n : Int)) g), .agg [M1, M2], .one (.int .i64 v)]) (fun _ => .one (.bool true)) := by
  refine walkF mixed tau_ok At.amortcostlaw20_PolyReads (fun CN DN q R hCN hDN hq hR => ?_)
  have fin : R (.one (.bool true)) := hR _ .refl
  clear hR
  (conv => cbv)
  refine call_rel (ts := fun q => [.one (.sl 5 (q Int fun _ => (n : Int)) g), .one (.int .i64 10)]) hq hCN hT rfl (fun x hx => ?_)
  obtain ⟨b, rfl, hb⟩ := hx
  (conv => cbv)
  cases b
  · have e1 : (q Bool fun _ => !false) = true := by subst hq; rfl
    rw [e1]
    exact fin
  · have e1 : (q Bool fun _ => !true) = false := by subst hq; rfl
    rw [e1]
    dsimp only
    refine call_rel (ts := fun _ => _) hq hCN hM rfl (fun x hx => ?_)
    obtain ⟨b, rfl, hb'⟩ := hx
    (conv => cbv)
    cases b
    · have e1 : (q Bool fun _ => !false) = true := by subst hq; rfl
      rw [e1]
      exact fin
    · have e1 : (q Bool fun _ => !true) = false := by subst hq; rfl
      rw [e1]
      have h := hS (hb rfl) (hb' rfl)
      dsimp only
      refine Need.mk (by (exact ⟨by kernel_rfl, by kernel_rfl⟩)) ?_
      refine call_fd hq hDN h.c1 rfl ?_
      obtain ⟨sb, x, y, e, hsb, hx, hy⟩ := ratL_open q r
      have hsame := sameRat_c r h.hr
      rw [e]
      (conv => cbv)
      refine call_fd hq hDN h.c2 rfl ?_
      rw [e]
      (conv => cbv)
      refine call_fd hq hDN hsame (by rw [e]; rfl) ?_
      (conv => cbv)
      refine call_fd hq hDN h.n1 rfl ?_
      (conv => cbv)
      refine call_fd hq hDN h.n2 rfl ?_
      (conv => cbv)
      have eb : (q Bool fun _ => b1 == b1) = true := by subst hq; simp [q0]
      rw [eb]
      dsimp only
      refine call_fd hq hDN h.m1 rfl ?_
      (conv => cbv)
      refine call_fd hq hDN h.m2 rfl ?_
      (conv => cbv)
      have eb2 : (q Bool fun _ => b2 == b2) = true := by subst hq; simp [q0]
      rw [eb2]
      dsimp only
      have hv1 := h.v1
      have hv2 := h.v2
      have hsi := sameInts_c l h.hl
      generalize intsT l = t at *
      refine call_fd hq hDN hv1 rfl ?_
      (conv => cbv)
      refine call_fd hq hDN hv2 rfl ?_
      (conv => cbv)
      refine call_fd hq hDN hsi rfl ?_
      (conv => cbv)
      refine call_fd hq hDN hA rfl ?_
      (conv => cbv)
      exact fin
end Sx
end

section
namespace Sx
open Go Go.ChangeShapes
variable {H : Type} {enc : TypeId × Value → H} {P : Program} {w : World} {base : Nat} {spare : Nat → Bool} {held : Bool}

def Old (w : World) (b : Nat) : Prop := b < w.heap.size
def RdTs (w : World) (X : Nat → Prop) (ts : List T) (cs : List Value) : Prop := ts.length = cs.length ∧ ∀ (j : Nat) (t : T) (v : Value), ts[j]? = some t → cs[j]? = some v → RdT w X t v
theorem RdTs.one {X : Nat → Prop} {t : T} {v : Value} (h : RdT w X t v) : RdTs w X [t] [v] := ⟨rfl, fun j a b ha hb => by
  cases j with
  | zero => simp at ha hb; subst ha; subst hb; exact h
  | succ j => simp at ha⟩
theorem RdTs.app {X : Nat → Prop} {t t' : List T} {v v' : List Value} (h : RdTs w X t v) (h' : RdTs w X t' v') : RdTs w X (t ++ t') (v ++ v') := ⟨by simp [h.1, h'.1], fun j a b ha hb => by
  rw [List.getElem?_append] at ha hb
  rw [h.1] at ha
  split at ha
  · rename_i hlt; rw [if_pos hlt] at hb; exact h.2 j a b ha hb
  · rename_i hlt; rw [if_neg hlt] at hb; exact h'.2 _ a b ha hb⟩
theorem RdTs.head {X : Nat → Prop} {t : T} {v : Value} (h : RdTs w X [t] [v]) : RdT w X t v := h.2 0 t v rfl rfl
theorem old_cell {a : Addr} {v : Value} (h : w.cell? a = some v) : Old w a.block := by
  unfold World.cell? at h
  split at h
  · rename_i hb; exact (Array.getElem?_eq_some_iff.1 hb).1
  · cases h

theorem open_slice {α : Type} (dflt : α) (L : α → List T) (Ok : α → Prop) {t e : TypeId} {sz fuel : Nat} {cs : List Value} {x : DataW H × List MemPlace} (ht : P.underlying t = some (.slice e)) (hsz : P.cellsOf e = sz) (hpos : 0 < sz) (hL : ∀ a, (L a).length = sz)
    (h : DataW.trod enc P w base spare held fuel t cs = some x)
    (he : ∀ n cs' x', n < fuel → DataW.trod enc P w base spare held n e cs' = some x' → ∃ a, RdTs w (Old w) (L a) cs' ∧ Ok a) :
    ∃ (n : Nat) (G : Int → α), n ≤ maxLen ∧ (∀ i : Nat, i < n → Ok (G i)) ∧ RdTs w (Old w) [.sl sz (n : Int) (fun i => L (G i))] cs := by
  rcases DataW.trod_slice ht h with ⟨rfl, _⟩ | ⟨a, len, cap, elems, rest, n, rfl, rfl, rfl, hb, hl, hm, hlen, hel, hsp, hns⟩
  · exact ⟨0, fun _ => dflt, Nat.zero_le _, fun i hi => absurd hi (by omega), .one (.sl ⟨0, 0, none⟩ (fun _ _ => undef) rfl (Nat.le_refl _) (Nat.zero_le _) (fun i hi => absurd hi (by omega)) (fun h0 => absurd h0 (by omega)) (fun i f hi => absurd hi (by omega)) (fun i f t hi => absurd hi (by omega)))⟩
  · have key : ∀ i : Nat, i < len → ∃ (cs' : List Value) (a' : α), (base ≤ a.block ∧ cs'.length = sz ∧ ∀ f, f < sz → w.cell? (a.add (i * sz + f)) = cs'[f]?) ∧ RdTs w (Old w) (L a') cs' ∧ Ok a' := by
      intro i hi
      have h1 := hel i hi
      have hei : elems[i]? = some (elems[i]'(by omega)) := List.getElem?_eq_getElem (by omega)
      rw [hei, Option.bind_eq_some_iff] at h1
      obtain ⟨cs', hc, hy⟩ := h1
      obtain ⟨a', hr, hok⟩ := he n cs' _ (by omega) hy
      obtain ⟨_, hcl, hcc⟩ := World.cells?_some hc
      rw [hsz] at hcl hcc
      refine ⟨cs', a', ⟨hb, hcl, fun f hf => ?_⟩, hr, hok⟩
      rw [← hcc f hf, Addr.add_add]
    refine ⟨len, fun i => if h : i.toNat < len then Classical.choose (Classical.choose_spec (key i.toNat h)) else dflt, by omega, fun i hi => ?_, .one (.sl a (fun i f => if h : i < len then ((Classical.choose (key i h))[f]?).getD undef else undef) rfl hl hm (fun i hi => ?_) (fun h0 => ⟨rfl, ?_⟩) (fun i f hi hf => ?_) (fun i f t hi ht => ?_))⟩
    · have hi' : (i : Int).toNat < len := by omega
      simp only [dif_pos hi']
      exact (Classical.choose_spec (Classical.choose_spec (key _ hi'))).2.2
    · exact hL _
    · obtain ⟨cs', a', ⟨_, hcl, hcc⟩, _⟩ := key 0 h0
      have h1 := hcc 0 hpos
      rw [List.getElem?_eq_getElem (by omega)] at h1
      have := old_cell h1
      rwa [add_block] at this
    · rw [dif_pos hi]
      obtain ⟨a', ⟨_, hcl, hcc⟩, _⟩ := Classical.choose_spec (key i hi)
      rw [hcc f hf, List.getElem?_eq_getElem (by omega)]
      rfl
    · rw [dif_pos hi]
      have hi' : (i : Int).toNat < len := by omega
      simp only [dif_pos hi'] at ht
      have hs := Classical.choose_spec (Classical.choose_spec (key (i : Int).toNat hi'))
      have e0 : Classical.choose (key (i : Int).toNat hi') = Classical.choose (key i hi) := by congr
      have hfl := (List.getElem?_eq_some_iff.1 ht).1
      rw [hL] at hfl
      obtain ⟨⟨_, hcl, _⟩, hr, _⟩ := hs
      rw [e0] at hcl
      refine hr.2 f t _ ht ?_
      rw [e0, List.getElem?_eq_getElem (by omega)]
      rfl

theorem open_field {t : TypeId} {fs : Array Field} {fuel : Nat} {cs : List Value} {x : DataW H × List MemPlace} (ht : P.underlying t = some (.struct fs)) (h : DataW.trod enc P w base spare held fuel t cs = some x) :
    ∃ n, fuel = n + 1 ∧ cs.length = P.cellsOf t ∧ ∀ (i : Nat) (f : Field), fs[i]? = some f → ∃ y, DataW.trod enc P w base spare held n f.type ((cs.drop f.offset).take (P.cellsOf f.type)) = some y := by
  obtain ⟨xs, n, hn, _, hl, hxl, hf⟩ := DataW.trod_struct ht h
  refine ⟨n, hn, hl, fun i f hi => ?_⟩
  have hlt := (Array.getElem?_eq_some_iff.1 hi).1
  rw [hf i f hi, List.getElem?_eq_getElem (by omega)]
  exact ⟨_, rfl⟩
theorem open_i {t : TypeId} {k : IntKind} {fuel : Nat} {cs : List Value} {x : DataW H × List MemPlace} (ht : P.underlying t = some (.int k)) (h : DataW.trod enc P w base spare held fuel t cs = some x) : ∃ n, (Lit.int k n).wf = true ∧ RdTs w (Old w) [.int k n] cs := by
  obtain ⟨n, rfl, _, hw⟩ := DataW.trod_int ht h
  exact ⟨n, hw, .one .int⟩
theorem open_b {t : TypeId} {fuel : Nat} {cs : List Value} {x : DataW H × List MemPlace} (ht : P.underlying t = some .bool) (h : DataW.trod enc P w base spare held fuel t cs = some x) : ∃ b, RdTs w (Old w) [.bool b] cs := by
  obtain ⟨n, rfl, _⟩ := DataW.trod_bool ht h
  exact ⟨n, .one .bool⟩
end Sx
end

section
namespace Sx
open Go Go.ChangeShapes
variable {H : Type} {enc : TypeId × Value → H} {w : World} {base : Nat} {spare : Nat → Bool} {held : Bool}

def fieldIs (P : Program) (t i off ty sz : Nat) : Bool := match P.underlying t with
  | some (.struct fs) => (match fs[i]? with | some f => Nat.beq f.offset off && Nat.beq f.type ty && Nat.beq (P.cellsOf ty) sz | none => false)
  | _ => false
def sliceIs (P : Program) (t e sz : Nat) : Bool := match P.underlying t with
  | some (.slice e') => Nat.beq e' e && Nat.beq (P.cellsOf e) sz
  | _ => false
theorem open_f {P : Program} {t fuel : Nat} {cs : List Value} {x : DataW H × List MemPlace} (h : DataW.trod enc P w base spare held fuel t cs = some x) {i off ty sz : Nat} (hf : fieldIs P t i off ty sz = true) :
    ∃ n y, n < fuel ∧ DataW.trod enc P w base spare held n ty ((cs.drop off).take sz) = some y := by
  unfold fieldIs at hf
  split at hf
  · rename_i fs ht
    split at hf
    · rename_i f hfi
      simp only [Bool.and_eq_true] at hf
      obtain ⟨⟨h1, h2⟩, h3⟩ := hf
      have h1 := Nat.eq_of_beq_eq_true h1
      have h2 : f.type = ty := Nat.eq_of_beq_eq_true h2
      have h3 := Nat.eq_of_beq_eq_true h3
      subst h1; subst h2; subst h3
      obtain ⟨n, hn, _, hh⟩ := open_field ht h
      obtain ⟨y, hy⟩ := hh i f hfi
      exact ⟨n, y, by omega, hy⟩
    · cases hf
  · cases hf
theorem open_len {P : Program} {t fuel : Nat} {cs : List Value} {x : DataW H × List MemPlace} (h : DataW.trod enc P w base spare held fuel t cs = some x) {i off ty sz c : Nat} (hf : fieldIs P t i off ty sz = true) (hc : Nat.beq (P.cellsOf t) c = true) : cs.length = c := by
  unfold fieldIs at hf
  split at hf
  · rename_i fs ht
    obtain ⟨n, hn, hl, hh⟩ := open_field ht h
    rw [hl]
    exact Nat.eq_of_beq_eq_true hc
  · cases hf
theorem open_s {P : Program} {α : Type} (dflt : α) (L : α → List T) (Ok : α → Prop) {t e sz fuel : Nat} {cs : List Value} {x : DataW H × List MemPlace} (hs : sliceIs P t e sz = true) (hpos : 0 < sz) (hL : ∀ a, (L a).length = sz)
    (h : DataW.trod enc P w base spare held fuel t cs = some x)
    (he : ∀ n cs' x', n < fuel → DataW.trod enc P w base spare held n e cs' = some x' → ∃ a, RdTs w (Old w) (L a) cs' ∧ Ok a) :
    ∃ (n : Nat) (G : Int → α), n ≤ maxLen ∧ (∀ i : Nat, i < n → Ok (G i)) ∧ RdTs w (Old w) [.sl sz (n : Int) (fun i => L (G i))] cs := by
  unfold sliceIs at hs
  split at hs
  · rename_i e' ht
    simp only [Bool.and_eq_true] at hs
    obtain ⟨h1, h2⟩ := hs
    have h1 : e' = e := Nat.eq_of_beq_eq_true h1
    have h2 := Nat.eq_of_beq_eq_true h2
    subst h1; subst h2
    exact open_slice dflt L Ok ht rfl hpos hL h he
  · cases hs
theorem RdTs.cut {X : Nat → Prop} {cs : List Value} {k : Nat} {t t' : List T} (h : RdTs w X t (cs.take k)) (h' : RdTs w X t' (cs.drop k)) : RdTs w X (t ++ t') cs := by
  have := h.app h'
  rwa [List.take_append_drop] at this
theorem RdTs.eqs {X : Nat → Prop} {cs cs' : List Value} {t : List T} (h : RdTs w X t cs) (e : cs = cs') : RdTs w X t cs' := e ▸ h
theorem RdTs.lst {X : Nat → Prop} {cs : List Value} {t : List T} {n : Nat} (h : RdTs w X t cs) (e : cs.length = n) : RdTs w X t (cs.take n) := h.eqs (by rw [← e, List.take_length])

theorem u_int : Pg.underlying 3 = some (.int .i64) := by kernel_rfl
theorem u_bool : Pg.underlying 4 = some .bool := by kernel_rfl
theorem wf64 {n : Int} (h : (Lit.int .i64 n).wf = true) : -9223372036854775808 ≤ n ∧ n ≤ 9223372036854775807 := by
  simp only [Lit.wf, Bool.and_eq_true, decide_eq_true_eq] at h
  simp [IntKind.min, IntKind.max, IntKind.bits, IntKind.signed] at h
  omega
theorem wf32 {n : Int} (h : (Lit.int .u32 n).wf = true) : 0 ≤ n ∧ n < 4294967296 := by
  simp only [Lit.wf, Bool.and_eq_true, decide_eq_true_eq] at h
  simp [IntKind.min, IntKind.max, IntKind.bits, IntKind.signed] at h
  omega
theorem open_limbs {fuel : Nat} {cs : List Value} {x : DataW H × List MemPlace} (h : DataW.trod enc Pg w base spare held fuel 47 cs = some x) :
    ∃ (n : Nat) (V : Int → Int), n ≤ maxLen ∧ (∀ i : Nat, i < n → 0 ≤ V i ∧ V i < 4294967296) ∧ RdTs w (Old w) [.sl 1 (n : Int) (fun i => [.int .u32 (V i)])] cs :=
  open_s 0 (fun n => [.int .u32 n]) (fun n => 0 ≤ n ∧ n < 4294967296) (t := 47) (e := 196) (sz := 1) (by kernel_rfl) (by decide) (fun _ => rfl) h (fun n cs' x' _ h' => by
    obtain ⟨n, hw, hr⟩ := open_i (k := .u32) (show Pg.underlying 196 = some (.int .u32) by kernel_rfl) h'
    exact ⟨n, hr, wf32 hw⟩)
theorem open_raw {fuel : Nat} {cs : List Value} {x : DataW H × List MemPlace} (h : DataW.trod enc Pg w base spare held fuel 49 cs = some x) :
    ∃ r : Raw, RdTs w (Old w) (r.L q0) cs ∧ ∀ k, r.n ≤ k → r.m ≤ k → r.Ok k := by
  have hl := open_len (c := 3) h (i := 0) (off := 0) (ty := 4) (sz := 1) (by kernel_rfl) (by kernel_rfl)
  obtain ⟨_, _, _, h0⟩ := open_f h (i := 0) (off := 0) (ty := 4) (sz := 1) (by kernel_rfl)
  obtain ⟨_, _, _, h1⟩ := open_f h (i := 1) (off := 1) (ty := 47) (sz := 1) (by kernel_rfl)
  obtain ⟨_, _, _, h2⟩ := open_f h (i := 2) (off := 2) (ty := 47) (sz := 1) (by kernel_rfl)
  obtain ⟨b, r0⟩ := open_b u_bool h0
  obtain ⟨n, V, _, hV, r1⟩ := open_limbs h1
  obtain ⟨m, W, _, hW, r2⟩ := open_limbs h2
  refine ⟨⟨b, n, V, m, W⟩, ?_, fun k hn hm => ⟨hn, hm, hV, hW⟩⟩
  match cs, hl with
  | [c0, c1, c2], _ => exact (r0.app (r1.app r2) :)
theorem open_lt {fuel : Nat} {cs : List Value} {x : DataW H × List MemPlace} (h : DataW.trod enc Pg w base spare held fuel 187 cs = some x) : ∃ t : LTm, RdTs w (Old w) t.L cs := by
  have hl := open_len (c := 2) h (i := 0) (off := 0) (ty := 3) (sz := 1) (by kernel_rfl) (by kernel_rfl)
  obtain ⟨_, _, _, h0⟩ := open_f h (i := 0) (off := 0) (ty := 3) (sz := 1) (by kernel_rfl)
  obtain ⟨_, _, _, h1⟩ := open_f h (i := 1) (off := 1) (ty := 2) (sz := 1) (by kernel_rfl)
  obtain ⟨a, _, r0⟩ := open_i u_int h0
  obtain ⟨b, _, r1⟩ := open_i (show Pg.underlying 2 = some (.int .i64) by kernel_rfl) h1
  refine ⟨⟨a, b⟩, ?_⟩
  match cs, hl with
  | [c0, c1], _ => exact (r0.app r1 :)
theorem open_ln {fuel : Nat} {cs : List Value} {x : DataW H × List MemPlace} (h : DataW.trod enc Pg w base spare held fuel 55 cs = some x) : ∃ l : Ln, RdTs w (Old w) l.L cs ∧ l.Ok := by
  have hl := open_len (c := 2) h (i := 0) (off := 0) (ty := 2) (sz := 1) (by kernel_rfl) (by kernel_rfl)
  obtain ⟨_, _, _, h0⟩ := open_f h (i := 0) (off := 0) (ty := 2) (sz := 1) (by kernel_rfl)
  obtain ⟨_, _, _, h1⟩ := open_f h (i := 1) (off := 1) (ty := 53) (sz := 1) (by kernel_rfl)
  obtain ⟨a, _, r0⟩ := open_i (show Pg.underlying 2 = some (.int .i64) by kernel_rfl) h0
  obtain ⟨n, G, hn, _, r1⟩ := open_s ⟨0, 0⟩ LTm.L (fun _ => True) (t := 53) (e := 187) (sz := 2) (by kernel_rfl) (by decide) (fun _ => rfl) h1 (fun n cs' x' _ h' => by
    obtain ⟨t, ht⟩ := open_lt h'
    exact ⟨t, ht, trivial⟩)
  refine ⟨⟨a, n, G⟩, ?_, Nat.le_trans hn (by decide)⟩
  match cs, hl with
  | [c0, c1], _ => exact (r0.app r1 :)
theorem open_ix : ∀ {fuel : Nat} {cs : List Value} {x : DataW H × List MemPlace}, DataW.trod enc Pg w base spare held fuel 52 cs = some x → ∃ t : Ix, RdTs w (Old w) t.L cs ∧ t.Ok := by
  intro fuel
  induction fuel using Nat.strongRecOn with
  | _ fuel ih =>
    intro cs x h
    have hl := open_len (c := 2) h (i := 0) (off := 0) (ty := 3) (sz := 1) (by kernel_rfl) (by kernel_rfl)
    obtain ⟨_, _, _, h0⟩ := open_f h (i := 0) (off := 0) (ty := 3) (sz := 1) (by kernel_rfl)
    obtain ⟨m, _, hm, h1⟩ := open_f h (i := 1) (off := 1) (ty := 50) (sz := 1) (by kernel_rfl)
    obtain ⟨a, _, r0⟩ := open_i u_int h0
    obtain ⟨n, G, hn, hG, r1⟩ := open_s .leaf Ix.L Ix.Ok (t := 50) (e := 52) (sz := 2) (by kernel_rfl) (by decide) (fun _ => rfl) h1 (fun n cs' x' hn h' => ih n (by omega) h')
    refine ⟨.mk a n G, ?_, by rw [Ix.Ok]; exact ⟨Nat.le_trans hn (by decide), hG⟩⟩
    match cs, hl with
    | [c0, c1], _ => exact (r0.app r1 :)
theorem open_fc {fuel : Nat} {cs : List Value} {x : DataW H × List MemPlace} (h : DataW.trod enc Pg w base spare held fuel 168 cs = some x) : ∃ f : Fct, RdTs w (Old w) f.L cs ∧ f.ix.Ok := by
  have hl := open_len (c := 3) h (i := 0) (off := 0) (ty := 3) (sz := 1) (by kernel_rfl) (by kernel_rfl)
  obtain ⟨_, _, _, h0⟩ := open_f h (i := 0) (off := 0) (ty := 3) (sz := 1) (by kernel_rfl)
  obtain ⟨_, _, _, h1⟩ := open_f h (i := 1) (off := 1) (ty := 52) (sz := 2) (by kernel_rfl)
  obtain ⟨a, _, r0⟩ := open_i u_int h0
  obtain ⟨t, r1, ho⟩ := open_ix h1
  refine ⟨⟨a, t⟩, ?_, ho⟩
  match cs, hl with
  | [c0, c1, c2], _ => exact (r0.app r1 :)
theorem open_am {fuel : Nat} {cs : List Value} {x : DataW H × List MemPlace} (h : DataW.trod enc Pg w base spare held fuel 177 cs = some x) : ∃ f : Atm, RdTs w (Old w) f.L cs ∧ f.lin.Ok := by
  have hl := open_len (c := 3) h (i := 0) (off := 0) (ty := 55) (sz := 2) (by kernel_rfl) (by kernel_rfl)
  obtain ⟨_, _, _, h0⟩ := open_f h (i := 0) (off := 0) (ty := 55) (sz := 2) (by kernel_rfl)
  obtain ⟨_, _, _, h1⟩ := open_f h (i := 1) (off := 2) (ty := 3) (sz := 1) (by kernel_rfl)
  obtain ⟨l, r0, ho⟩ := open_ln h0
  obtain ⟨a, _, r1⟩ := open_i u_int h1
  refine ⟨⟨l, a⟩, ?_, ho⟩
  match cs, hl with
  | [c0, c1, c2], _ => exact (r0.app r1 :)
theorem open_mon {fuel : Nat} {cs : List Value} {x : DataW H × List MemPlace} (h : DataW.trod enc Pg w base spare held fuel 85 cs = some x) : ∃ m : Mon, RdTs w (Old w) m.L cs ∧ m.Ok := by
  have hl := open_len (c := 2) h (i := 0) (off := 0) (ty := 82) (sz := 1) (by kernel_rfl) (by kernel_rfl)
  obtain ⟨_, _, _, h0⟩ := open_f h (i := 0) (off := 0) (ty := 82) (sz := 1) (by kernel_rfl)
  obtain ⟨_, _, _, h1⟩ := open_f h (i := 1) (off := 1) (ty := 83) (sz := 1) (by kernel_rfl)
  obtain ⟨n, F, hn, hF, r0⟩ := open_s ⟨0, .leaf⟩ Fct.L (fun f => f.ix.Ok) (t := 82) (e := 168) (sz := 3) (by kernel_rfl) (by decide) (fun _ => rfl) h0 (fun n cs' x' _ h' => open_fc h')
  obtain ⟨m, A, hm, hA, r1⟩ := open_s ⟨⟨0, 0, fun _ => ⟨0, 0⟩⟩, 0⟩ Atm.L (fun f => f.lin.Ok) (t := 83) (e := 177) (sz := 3) (by kernel_rfl) (by decide) (fun _ => rfl) h1 (fun n cs' x' _ h' => open_am h')
  refine ⟨⟨n, F, m, A⟩, ?_, ⟨Nat.le_trans hn (by decide), Nat.le_trans hm (by decide), hF, hA⟩⟩
  match cs, hl with
  | [c0, c1], _ => exact (r0.app r1 :)
def Trm.L (t : Trm) : List T := t.coef.L q0 ++ t.mono.L
structure Trm.Ok (t : Trm) : Prop where
  mono : t.mono.Ok
  coef : ∀ k, t.coef.n ≤ k → t.coef.m ≤ k → t.coef.Ok k
theorem open_trm {fuel : Nat} {cs : List Value} {x : DataW H × List MemPlace} (h : DataW.trod enc Pg w base spare held fuel 96 cs = some x) : ∃ m : Trm, RdTs w (Old w) m.L cs ∧ m.Ok := by
  have hl := open_len (c := 5) h (i := 0) (off := 0) (ty := 49) (sz := 3) (by kernel_rfl) (by kernel_rfl)
  obtain ⟨_, _, _, h0⟩ := open_f h (i := 0) (off := 0) (ty := 49) (sz := 3) (by kernel_rfl)
  obtain ⟨_, _, _, h1⟩ := open_f h (i := 1) (off := 3) (ty := 85) (sz := 2) (by kernel_rfl)
  obtain ⟨l, r0, ho⟩ := open_raw h0
  obtain ⟨a, r1, ha⟩ := open_mon h1
  refine ⟨⟨l, a⟩, ?_, ⟨ha, ho⟩⟩
  match cs, hl with
  | [c0, c1, c2, c3, c4], _ => exact (r0.app r1 :)
def Trm.zero : Trm := ⟨⟨false, 0, fun _ => 0, 0, fun _ => 0⟩, ⟨0, fun _ => ⟨0, .leaf⟩, 0, fun _ => ⟨⟨0, 0, fun _ => ⟨0, 0⟩⟩, 0⟩⟩⟩

theorem open_terms {fuel : Nat} {cs : List Value} {x : DataW H × List MemPlace} (h : DataW.trod enc Pg w base spare held fuel 60 cs = some x) :
    ∃ (n : Nat) (G : Int → Trm), n ≤ maxLen ∧ (∀ i : Nat, i < n → (G i).Ok) ∧ RdTs w (Old w) [.sl 5 (n : Int) (fun i => (G i).L)] cs :=
  open_s Trm.zero Trm.L Trm.Ok (t := 60) (e := 96) (sz := 5) (by kernel_rfl) (by decide) (fun _ => rfl) h (fun n cs' x' _ h' => open_trm h')
end Sx
end
