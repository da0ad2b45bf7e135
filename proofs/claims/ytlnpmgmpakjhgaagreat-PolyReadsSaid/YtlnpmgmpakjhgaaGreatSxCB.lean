/- The statement PolyReadsSaid holds: called with any list of terms, any monomial and any variable that can be read as data, the Go function PolyReads returns true, and each argument reads afterwards as it read before. No conditions beyond the row's own. -/
import Derived.Test.YtlnpmgmpakjhgaaGreatSxCA
import Derived.Test.YtlnpmgmpakjhgaaGreatRows
import Derived.WalkKit
import Derived.ProofKit
import Derived.OpenShut
import Derived.ShutString
import Derived.ChangeOld
import Derived.Below
import Derived.Carry
import Derived.Test.YtlnpmgmpakjhgaaGreatSxBY
import Derived.Test.YtlnpmgmpakjhgaaGreatSxBZ
import Derived.Test.YtlnpmgmpakjhgaaGreatSxBX
set_option linter.all false
section
namespace Sx.PolyReadsFacts
open Go Go.Proofs Go.Proofs.YtlnpmgmpakjhgaaGreat
set_option maxRecDepth 1000000
theorem and_mk {a b : Bool} (ha : a = true) (hb : b = true) : (a && b) = true := by rw [ha, hb]; rfl
theorem all : joinedFacts Tryz.prog 6 Tryz.f6 Rows.polyReadsSpec Rows.polyReadsRow = true := by
  unfold joinedFacts
  exact and_mk (and_mk (and_mk (and_mk (and_mk (and_mk (and_mk (and_mk (and_mk (and_mk (and_mk (and_mk (and_mk (and_mk (and_mk (and_mk (and_mk (and_mk (and_mk (and_mk (and_mk (and_mk (and_mk (and_mk (and_mk (and_mk (and_mk (and_mk (and_mk (and_mk (and_mk k0 k1) k2) k3) k4) k5) k6) k7) k8) k9) k10) k11) k12) k13) k14) k15) k16) k17) k18) k19) k20) k21) k22) k23) k24) k25) k26) k27) k28) k29) k30) k31
end Sx.PolyReadsFacts
end

section
namespace Sx
open Go Go.Proofs Go.Proofs.YtlnpmgmpakjhgaaGreat Go.ChangeShapes Go.WideShapes Go.ChangeAt Go.RowKit

theorem own : ownKnob Tryz.prog.godebug = none := by kernel_rfl
theorem laidOut : laidOutB Tryz.prog = true := PolyReadsFacts.k1
theorem isStruct {P : Program} {w : World} {r : Reach} {base t : Nat} {v : Value} {i off ty sz : Nat} (hf : fieldIs P t i off ty sz = true) (h : Value.okWide P w r base t v) : ∃ cs, v = .agg cs := by
  unfold fieldIs at hf
  unfold Value.okWide at h
  split at hf
  · rename_i fs ht
    rw [ht] at h
    obtain ⟨cs, hv, _⟩ := h
    exact ⟨cs, hv⟩
  · cases hf
theorem RdTs.agg {w : World} {X : Nat → Prop} {ts : List T} {cs : Array Value} (h : RdTs w X ts cs.toList) : RdV w X (.agg ts) (.agg cs) :=
  .agg (by rw [h.1, Array.length_toList]) (fun j t v ht hv => h.2 j t v ht (by rw [Array.getElem?_toList]; exact hv))

set_option maxRecDepth 100000 in
theorem lifted (os : Os) (started : os.Started) (H : Type) (enc : TypeId × Value → H) :
    ReturnsInHanded {} Tryz.checked os 6 .any (Rows.polyReadsSpec.pre6 enc Tryz.prog Tryz.f6 Rows.polyReadsRow.domain false) (Rows.polyReadsSpec.post enc Tryz.prog Tryz.f6 false true false false) := by
  refine returnsInHanded_of_change (C := Tryz.checked) own started (by kernel_rfl) Tryz.func6
    (ChangeSpec.witness6 (enc := enc) (C := Tryz.checked) false ⟨#[], #[.slice none 0 0, .agg #[.slice none 0 0, .slice none 0 0], .int .i64 0], []⟩ 8 (by kernel_rfl) (by kernel_rfl) (by kernel_rfl) (by kernel_rfl)) ?_
  intro W base args ds gs before hval0 hW hcnd _
  have hval : ∀ (j : Nat) t v, Tryz.f6.params[j]? = some t → args[j]? = some v → Value.okWide Tryz.prog W .any base t v := hval0
  have hW' := hW
  obtain ⟨p, q, hA0, hV, rfl, hfz, hnd⟩ := hW
  have hA : DataW.TrodAll enc Tryz.prog W 0 (fun _ => true) true Tryz.f6.params.toList args.toList ds p := hA0
  rw [Tryz.params6] at hA hval
  obtain ⟨v0, vs0, d0, ds0, p0, q0, hargs, rfl, rfl, h0, r0⟩ := trodAll_cons hA
  obtain ⟨v1, vs1, d1, ds1, p1, q1, rfl, rfl, rfl, h1, r1⟩ := trodAll_cons r0
  obtain ⟨v2, vs2, d2, ds2, p2, q2, rfl, rfl, rfl, h2, r2⟩ := trodAll_cons r1
  obtain ⟨rfl, rfl, rfl⟩ := trodAll_nil r2
  obtain rfl : args = #[v0, v1, v2] := by cases args; simp_all
  obtain ⟨rfl, rfl⟩ := trodVars_none hV
  have k0 := h0
  have lt0 : ∀ x ∈ p0, x.block < W.heap.size := by obtain ⟨m, hm⟩ := k0; exact DataW.trod_lt m _ _ _ hm
  have k1 := h1
  have lt1 : ∀ x ∈ p1, x.block < W.heap.size := by obtain ⟨m, hm⟩ := k1; exact DataW.trod_lt m _ _ _ hm
  obtain ⟨a0, len0, cap0, rfl⟩ := okWide_slice (show Tryz.prog.underlying 60 = some (.slice 96) by kernel_rfl) (hval 0 60 v0 rfl rfl)
  obtain ⟨c1, rfl⟩ := isStruct (i := 0) (off := 0) (ty := 82) (sz := 1) (by kernel_rfl) (hval 1 85 v1 rfl rfl)
  obtain ⟨a2, rfl, rfl, rfl, w2⟩ := open_int (show Tryz.prog.underlying 3 = some (.int .i64) by kernel_rfl) (hval 2 3 v2 rfl rfl) h2
  obtain ⟨m0, h0⟩ := h0
  obtain ⟨m1, h1⟩ := h1
  obtain ⟨n, G, hn, hG, hr0⟩ := open_terms h0
  obtain ⟨m, hr1, hm⟩ := open_mon h1
  clear hA0 hval0
  have hc := reads_c awake_c n (Nat.le_trans hn (by decide)) G hG m hm a2
  have hrun := hc.2 W (Old W) [.slice a0 len0 cap0, .agg c1, .int .i64 a2] (fun b hb => hb) ⟨rfl, fun j x v hx hv => by
    rcases j with _ | _ | _ | j
    · simp at hx hv; subst hx; subst hv; exact .one hr0.head
    · simp at hx hv; subst hx; subst hv; exact hr1.agg
    · simp at hx hv; subst hx; subst hv; exact .one .int
    · simp at hx⟩
  refine hrun.mono fun e W' ⟨u, r, he, hr, bel, hu⟩ => ?_
  subst he
  subst hr
  cases hu with | one hu =>
  cases hu
  exact ⟨_, rfl, _, _, _, [], _, [], hW', trodAll_mk1 (shut_bool (show Tryz.prog.underlying 4 = some .bool by kernel_rfl) _), (trodAll_cons_mk (Below.trod laidOut (by kernel_rfl) (of_decide_eq_true (by kernel_rfl)) k0 bel lt0) (trodAll_cons_mk (Below.trod laidOut (by kernel_rfl) (of_decide_eq_true (by kernel_rfl)) k1 bel lt1) (trodAll_cons_mk (shut_int (show Tryz.prog.underlying 3 = some (.int .i64) by kernel_rfl) w2) trodAll_mk0))), rfl, bel.frame _, fun h => by cases h⟩

theorem inst : Tryz.f6.isInstance Tryz.prog Rows.polyReadsRow.origin Rows.polyReadsRow.targs := of_decide_eq_true (by kernel_rfl)
theorem wrap : Tryz.f6.isWrapper Tryz.prog Rows.polyReadsRow.wrapper Rows.polyReadsRow.mainSum := by
  unfold Func.isWrapper; first | (rw [if_pos (by decide +kernel)]; kernel_rfl) | (rw [if_neg (by decide +kernel)]; exact ⟨rfl, rfl⟩)
theorem named6 : Tryz.prog.funcNamed Rows.polyReadsRow.func = some 6 := by kernel_rfl
theorem over : Rows.polyReadsRow.holds Tryz.pinned (OpenSpec.ofChange Rows.polyReadsSpec) :=
  OpenClaim.holds_of_wide 6 Tryz.f6 rfl rfl rfl rfl rfl rfl rfl ⟨rfl, rfl, rfl, rfl, rfl⟩ rfl rfl rfl rfl rfl named6 Tryz.func6 PolyReadsFacts.all
    inst wrap (fun os started H enc _ => lifted os started H enc)
theorem proved : Rows.PolyReadsSaid := over
end Sx
end

namespace Go.Proofs.YtlnpmgmpakjhgaaGreat
theorem proved_PolyReadsSaid : Rows.PolyReadsSaid := Sx.proved
end Go.Proofs.YtlnpmgmpakjhgaaGreat
