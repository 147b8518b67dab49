import Derived.Test.YtidcpndlloppdaaGreatZWA
import Derived.Test.YtidcpndlloppdaaGreatZY21d
import Derived.Test.YtidcpndlloppdaaGreatZInit
/-
 Layer 21: whatever the input,AbsmRuns returns true,and the input reads as it did.
 Conditions: none.
-/
set_option maxRecDepth 100000
set_option linter.unusedVariables false
namespace Go.Proofs.YtidcpndlloppdaaGreat
open Go.ChangeShapes Go.WideShapes Go.ChangeAt Go.RowKit
namespace absmRuns
theorem lifted (os : Os) (started : os.Started) (H : Type) (enc : TypeId × Value → H) :
   ReturnsInHanded {} Tryz.checked os 3 .any (Rows.absmRunsSpec.pre6 enc Tryz.prog Tryz.f3 Rows.absmRunsRow.domain false) (Rows.absmRunsSpec.post enc Tryz.prog Tryz.f3 false true false false) := by
 refine returnsInHanded_of_change (C := Tryz.checked) own17 started (by kernel_rfl) Tryz.func3
   (ChangeSpec.witness6 (enc := enc) (C := Tryz.checked) false ⟨#[], #[.agg ⟨[.slice none 0 0]⟩,.int .i64 0,.slice none 0 0,.int .u16 0],[]⟩ 8 (by kernel_rfl) (by kernel_rfl) (by kernel_rfl) (by kernel_rfl)) ?_
 intro W base args ds gs before hval0 hW hcnd _
 have hval : ∀ (j : Nat) t v,Tryz.f3.params[j]? = some t → args[j]? = some v → Value.okWide Tryz.prog W .any base t v := hval0
 have hW' := hW
 obtain ⟨p,q,hA0,hV,rfl,hfz,hnd⟩ := hW
 have hA : DataW.TrodAll enc Tryz.prog W 0 (fun _ => true) true Tryz.f3.params.toList args.toList ds p := hA0
 rw [Tryz.params3] at hA hval
 obtain ⟨v0,vs0,d0,ds0,p0,q0,hargs,rfl,rfl,h0,r0⟩ := trodAll_cons hA
 obtain ⟨v1,vs1,d1,ds1,p1,q1,rfl,rfl,rfl,h1,r1⟩ := trodAll_cons r0
 obtain ⟨v2,vs2,d2,ds2,p2,q2,rfl,rfl,rfl,h2,r2⟩ := trodAll_cons r1
 obtain ⟨v3,vs3,d3,ds3,p3,q3,rfl,rfl,rfl,h3,r3⟩ := trodAll_cons r2
 obtain ⟨rfl,rfl,rfl⟩ := trodAll_nil r3
 obtain rfl : args = #[v0,v1,v2,v3] := by cases args; simp_all
 obtain ⟨rfl,rfl⟩ := trodVars_none hV
 obtain ⟨c0,rfl,s0⟩ := okWide_struct Tryz.underlying24 (hval 0 24 v0 rfl rfl)
 obtain ⟨x1,rfl,rfl,rfl,wx1⟩ := open_int Tryz.underlying3 (hval 1 3 v1 rfl rfl) h1
 obtain ⟨a2,l2,cap2,rfl⟩ := okWide_slice (e := 5) (by kernel_rfl) (hval 2 25 v2 rfl rfl)
 obtain ⟨x3,rfl,rfl,rfl,wx3⟩ := open_int (t := 26) (k := .u16) (by kernel_rfl) (hval 3 26 v3 rfl rfl) h3
 have lt : ∀ {t : TypeId} {v : Value} {d : DataW H} {ps : List MemPlace},DataW.Trod enc Tryz.prog W 0 (fun _ => true) true t v d ps → ∀ x ∈ ps,x.block < W.heap.size := fun h => by obtain ⟨m,hm⟩ := h; exact DataW.trod_lt m _ _ _ hm
 have k0 := h0
 obtain ⟨_,m0⟩ := h0
 obtain ⟨P0,pc0,pr0,e0,hP0⟩ := read_prog m0
 obtain rfl : c0 = ⟨[.slice P0 pr0.length pc0]⟩ := Array.toList_inj.1 e0
 have k2 := h2
 obtain ⟨_,m2⟩ := h2
 obtain ⟨_,_,_,xs2,e2,hb2⟩ := read_bytes m2
 cases e2
 refine (gives3 hP0 x1 hb2 (by have := u16_bd wx3; omega)).mono fun e W' ⟨he,bel⟩ => ?_
 subst he
 exact ⟨_,rfl,_,_,_,[],_,[],hW',trodAll_mk1 (shut_bool Tryz.underlying4 _),(trodAll_cons_mk (Below.trod laidOut17 (by kernel_rfl) (of_decide_eq_true (by kernel_rfl)) k0 bel (lt k0)) (trodAll_cons_mk (shut_int Tryz.underlying3 wx1) (trodAll_cons_mk (Below.trod laidOut17 (by kernel_rfl) (of_decide_eq_true (by kernel_rfl)) k2 bel (lt k2)) (trodAll_cons_mk (shut_int (t := 26) (k := .u16) (by kernel_rfl) wx3) trodAll_mk0)))),rfl,bel.frame _,fun h => by cases h⟩
end absmRuns
theorem joined3 : joinedFacts Tryz.prog 3 Tryz.f3 Rows.absmRunsSpec Rows.absmRunsRow = true := by
 unfold joinedFacts
 rw [mayEnter_ok,liftsFinal_ok,make_ok]
 kernel_rfl
theorem absmRuns.over : Rows.absmRunsRow.holds Tryz.pinned (OpenSpec.ofChange Rows.absmRunsSpec) :=
 OpenClaim.holds_of_wide 3 Tryz.f3 rfl rfl rfl rfl rfl rfl rfl ⟨rfl,rfl,rfl,rfl,rfl⟩ rfl rfl rfl rfl rfl (by kernel_rfl) Tryz.func3 joined3
   (of_decide_eq_true (by kernel_rfl)) (by unfold Func.isWrapper; first | (rw [if_pos (by decide +kernel)]; kernel_rfl) | (rw [if_neg (by decide +kernel)]; exact ⟨rfl,rfl⟩))
   (fun os started H enc _ => absmRuns.lifted os started H enc)
theorem absmRuns_holds : Rows.AbsmRunsSaid := absmRuns.over
end Go.Proofs.YtidcpndlloppdaaGreat
