import Derived.Test.YtidcpndlloppdaaGreatZP21b
import Derived.Laws.FloatBits
/-
 Layer 21,plain: the words that acts make are words; what one act keeps.
 Conditions: the program is right.
-/
set_option linter.unusedVariables false
set_option linter.unusedSimpArgs false
set_option maxRecDepth 20000
namespace Go.Proofs.YtidcpndlloppdaaGreat
open Ieee
theorem neF_ltO {a : Nat} (h : a < 2 * SW) : neF a < 2 * SW := by
 unfold neF; split
 · decide
 · exact xor_lt h
theorem flr_infO {a : Nat} (ha : a < 2 * SW) (h : rg a = IR) : flr a = a := by
 unfold flr
 rw [read_inf h]
 show double.write (.infinity (ngw a)) = a
 simp only [Format.write,dbl_inf]
 rw [← h,wd_self ha]
theorem sw2 : 2 * SW = 18446744073709551616 := by decide
theorem w2 : 2 ^ double.width = 2 * SW := by decide
theorem nwM_lt (n : Int) : nw n < 18446744073709551616 := by
 rw [← sw2]
 exact cn_lt (by have h : FloatKind.nearest .f64 n < 2 ^ double.width := double.write_lt (.number (n < 0) n.natAbs 0); rwa [w2] at h)
theorem oddN_lt (n : Int) : oddN n < 18446744073709551616 := by
 unfold oddN NO SW
 split
 · omega
 split
 · omega
 split
 · omega
 split
 · omega
 split <;> omega
theorem far_ltM {op : BinOp} (h : op = .add ∨ op = .sub ∨ op = .mul ∨ op = .quo) (a b : Nat) : far op a b < 18446744073709551616 := by
 rw [← sw2]
 unfold far
 split
 · rename_i r hr
   refine cn_lt ?_
   rw [← w2]
   rcases h with rfl | rfl | rfl | rfl
   · exact double.add_lt hr
   · exact double.sub_lt hr
   · exact double.mul_lt hr
   · exact double.div_lt hr
 · unfold NO SW; omega
theorem neF_ltM {a : Nat} (h : a < 18446744073709551616) : neF a < 18446744073709551616 := by rw [← sw2] at h ⊢; exact neF_ltO h
theorem flF_ltM {a : Nat} (h : a < 18446744073709551616) : flF a < 18446744073709551616 := by
 rw [← sw2] at h ⊢
 unfold flF
 split
 · unfold NO SW; omega
 · rename_i hn
   refine cn_lt ?_
   have h1 : ¬ IR < rg a := by simpa [nanw] using hn
   by_cases h2 : rg a = IR
   · rw [flr_infO h h2]; exact h
   · exact (floor_law h (by omega)).1
theorem mnF_ltM {a b : Nat} (ha : a < 18446744073709551616) (hb : b < 18446744073709551616) : mnF a b < 18446744073709551616 := by
 unfold mnF NO; split
 · omega
 · split <;> assumption
theorem mxF_ltM {a b : Nat} (ha : a < 18446744073709551616) (hb : b < 18446744073709551616) : mxF a b < 18446744073709551616 := by
 unfold mxF NO; split
 · omega
 · split <;> assumption
theorem bW_lt (b : Bool) : bW b < 18446744073709551616 := by unfold bW; split <;> exact nwM_lt _
theorem twoN_lt (op : Int) {a b : Nat} (ha : a < 18446744073709551616) (hb : b < 18446744073709551616) : twoN op a b < 18446744073709551616 := by
 unfold twoN
 split
 · exact far_ltM (.inl rfl) _ _
 split
 · exact far_ltM (.inr (.inl rfl)) _ _
 split
 · exact far_ltM (.inr (.inr (.inl rfl))) _ _
 split
 · exact far_ltM (.inr (.inr (.inr rfl))) _ _
 split
 · exact mnF_ltM ha hb
 split
 · exact mxF_ltM ha hb
 split <;> exact bW_lt _
def Sim (op : Int) : Prop := op ≠ 17 ∧ op ≠ 21 ∧ op ≠ 22 ∧ op ≠ 23 ∧ op ≠ 24 ∧ op ≠ 25 ∧ op ≠ 26
structure Res (p : List Fnc) (g : Fnc) (x z : Frm) : Prop where
 inn : FrIn p z g
 wd : FrmWd z
 top : TopOk p z
 f : z.f = x.f
 dfd : z.dfd = x.dfd
section
variable {p : List Fnc} {g : Fnc} {x : Frm}
theorem At.lt (h : FrIn p x g) (ht : At p x 0) : x.pc < (g.code.length : Int) := by have := ht.pc; rwa [fnD_eq h.fn] at this
theorem res_go (h : FrIn p x g) {i : Ins} {n : Nat} (hi : InsIn p g i x n) {z : Frm} (hw : FrmWd z) (hf : z.f = x.f) (hd : z.dfd = x.dfd) (hm : z.mode = x.mode) (hl : z.locals.length = x.locals.length) (hds : z.dfs = x.dfs)
   (ho : (z.ops.length : Int) = (x.ops.length : Int) - n + pushesI i.op) (ht : z.pc ∈ nextM x.pc.toNat i.op i.a) : Res p g x z := by
 obtain ⟨t0,t1,t2⟩ := hi.next _ ht
 refine ⟨⟨by rw [hf]; exact h.fn,⟨t0,by omega⟩,by rw [hm]; exact h.mode,by rw [hl]; exact h.locals,by have := hi.after; omega,by rw [hds]; exact h.room,by rw [hds]; exact h.dfs⟩,hw,fun _ => ⟨?_, ?_⟩,hf,hd⟩
 · rw [hf,fnD_eq h.fn]; exact t1
 · rw [hf,t2,ho]; omega
theorem next_one {i : Ins} {at_ : Nat} (h15 : i.op ≠ 15) (h16 : i.op ≠ 16) (h18 : i.op ≠ 18) (h20 : i.op ≠ 20) : nextM at_ i.op i.a = [(at_ : Int) + 1] := by
 unfold nextM; rw [if_neg (by omega),if_neg h15,if_neg h16]
theorem shape_a {np : Nat} {i : Ins} (h : shapedI np g i = true) (hs : sizedF g = true) : ((rowT i.op).1 = 2 → 0 ≤ i.a ∧ i.a < 6) ∧ ((rowT i.op).1 = 3 → 0 ≤ i.a ∧ i.a < g.locals - g.refs) ∧ ((rowT i.op).1 = 4 → 0 ≤ i.a ∧ i.a < (g.code.length : Int)) ∧
   ((rowT i.op).1 = 5 → (0 ≤ i.a ∧ i.a < (np : Int)) ) ∧ ((rowT i.op).1 = 6 → 0 ≤ i.a ∧ i.a < g.refs) ∧ ((rowT i.op).1 = 7 → (0 ≤ i.a ∧ i.a < g.refs) ∧ 0 ≤ i.b ∧ i.b < g.refs) ∧ (rowT i.op).2.2.2 = true := by
 have hb := sized_bd hs
 unfold shapedI shapedM at h
 rw [Bool.and_eq_true,Bool.and_eq_true] at h
 obtain ⟨⟨h1,h2⟩,h3⟩ := h
 unfold kindM withinM at h3
 rw [wrap_id (n := g.locals - g.refs) (by omega) (by omega)] at h3
 refine ⟨fun e => ?_,fun e => ?_,fun e => ?_,fun e => ?_,fun e => ?_,fun e => ?_,h1⟩
 all_goals rw [e] at h3
 · simpa using h3
 · simpa using h3
 · simpa using h3
 · simpa using h3
 · simpa using h3
 · simpa using h3
theorem toNat_lt {xs : List Int} (h : Wd xs) (i : Nat) : (xs.getD i 0).toNat < 18446744073709551616 := by have := getD_wdM h i; omega
theorem res_stop (h : FrIn p x g) (ht : At p x 0) {i : Ins} {n : Nat} (hi : InsIn p g i x n) {z : Frm} (hw : FrmWd z) (hf : z.f = x.f) (hd : z.dfd = x.dfd) (hm : 1 ≤ z.mode ∧ z.mode ≤ 2) (hl : z.locals.length = x.locals.length) (hds : z.dfs = x.dfs)
   (ho : z.ops.length ≤ x.ops.length) (hpc : z.pc = x.pc + 1) : Res p g x z := by
 have := At.lt h ht
 have h0 := h.pc.1
 have h8 := h.ops
 exact ⟨⟨by rw [hf]; exact h.fn,by rw [hpc]; omega,by omega,by rw [hl]; exact h.locals,by omega,by rw [hds]; exact h.room,by rw [hds]; exact h.dfs⟩,hw,fun h => by omega,hf,hd⟩
theorem defer_mem : ∀ {l : List Ins} {i : Ins},i ∈ l → i.op = 19 → hasDefer l = true
 | [],i,h,_ => by cases h
 | y :: r,i,h,e => by
   unfold hasDefer
   rcases List.mem_cons.1 h with rfl | hm
   · rw [e]; rfl
   · rw [defer_mem hm e]; simp
theorem push_two {op : Int} (hv : (rowT op).2.2.2 = true) (c1 : ¬ op = 1) (c2 : ¬ op = 2) (c3 : ¬ op = 3) (c4 : ¬ op = 4) (c9 : ¬ op = 9) (c10 : ¬ op = 10) (c15 : ¬ op = 15) (c16 : ¬ op = 16) (c18 : ¬ op = 18) (c19 : ¬ op = 19) (c20 : ¬ op = 20) (c27 : ¬ op = 27)
   (s17 : op ≠ 17) (s21 : op ≠ 21) (s22 : op ≠ 22) (s23 : op ≠ 23) (s24 : op ≠ 24) (s25 : op ≠ 25) (s26 : op ≠ 26) : pushesI op = 1 := by
 unfold pushesI
 unfold rowT at hv ⊢
 rw [if_neg c1,if_neg c2,if_neg c3,if_neg c4] at hv ⊢
 by_cases h : op = 5 ∨ op = 6 ∨ op = 7 ∨ op = 8 ∨ op = 11 ∨ op = 12 ∨ op = 13 ∨ op = 14
 · rw [if_pos h]
 · rw [if_neg h,if_neg (by omega),if_neg c15,if_neg c16,if_neg s17,if_neg (by omega),if_neg c19,if_neg s21,if_neg (by omega),if_neg s24,if_neg s26] at hv
   cases hv
set_option maxHeartbeats 2000000 in
theorem sim_res (hr : Rt p) (h : FrIn p x g) (hw : FrmWd x) (ht : At p x 0) (hmem : insAt g x.pc ∈ g.code) (hs : Sim (insAt g x.pc).op) : Res p g x (simM (insAt g x.pc) (popL p (insAt g x.pc) x) (popF p (insAt g x.pc) x)) := by
 obtain ⟨hi,hmem⟩ := ins_in hr h ht
 obtain ⟨hgp,hsz⟩ := h.wrap hr
 have hlt := At.lt h ht
 have h0 := h.pc.1
 generalize hI : insAt g x.pc = i at hi hmem hs
 obtain ⟨s17,s21,s22,s23,s24,s25,s26⟩ := hs
 have hy := pop_wd (p := p) (i := i) hw
 have hlw := popL_wd (p := p) (i := i) hw
 have hlen := popL_len hi.enough
 have hol := popF_len hi.enough
 have hen := hi.enough
 have hsh := shape_a hi.shape hsz
 have hnat : ((x.pc.toNat : Nat) : Int) = x.pc := by omega
 -- a step that goes on at the next place
 have go : ∀ {z : Frm},FrmWd z → z.f = x.f → z.dfd = x.dfd → z.mode = x.mode → z.locals.length = x.locals.length → z.dfs = x.dfs → (z.ops.length : Int) = (x.ops.length : Int) - popN p i + pushesI i.op → z.pc = x.pc + 1 → i.op ≠ 15 → i.op ≠ 18 → i.op ≠ 20 → Res p g x z := fun {z} a b c d e f k l h15 h18 h20 => by
   refine res_go h hi a b c d e f k ?_
   unfold nextM
   rw [if_neg (by omega),if_neg h15,hnat,l]
   split <;> simp
 have pushes : ∀ {ws : List Int},Wd ws → (ws.length : Int) = pushesI i.op → i.op ≠ 15 → i.op ≠ 18 → i.op ≠ 20 → Res p g x (pushF (popF p i x) ws) := fun {ws} hws hl h15 h18 h20 => by
   refine go (hy.push hws) rfl rfl rfl rfl rfl ?_ rfl h15 h18 h20
   unfold pushF
   rw [List.length_append,hol, ← hl]; omega
 have pI : ∀ {op k : Int},i.op = op → pushesI op = k → pushesI i.op = k := fun e e2 => by rw [e]; exact e2
 unfold simM
 by_cases c1 : i.op = 1
 · rw [if_pos c1]; exact pushes (wd_one (nwM_lt _)) (by rw [c1]; rfl) (by omega) (by omega) (by omega)
 rw [if_neg c1]
 by_cases c2 : i.op = 2
 · rw [if_pos c2]; exact pushes (wd_one (oddN_lt _)) (by rw [c2]; rfl) (by omega) (by omega) (by omega)
 rw [if_neg c2]
 by_cases c3 : i.op = 3
 · rw [if_pos c3]; exact pushes (wd_one' (getD_wdM hy.locals _)) (by rw [c3]; rfl) (by omega) (by omega) (by omega)
 rw [if_neg c3]
 by_cases c4 : i.op = 4
 · rw [if_pos c4]
   refine go ⟨hy.value,hy.locals.setM _ (getD_wdM hlw 0),hy.ops,hy.args⟩ rfl rfl rfl (by simp [popF]) rfl ?_ rfl (by omega) (by omega) (by omega)
   rw [show pushesI i.op = 0 by rw [c4]; rfl]; simp only; rw [hol]; omega
 rw [if_neg c4]
 by_cases c9 : i.op = 9
 · rw [if_pos c9]; exact pushes (wd_one (neF_ltM (toNat_lt hlw 0))) (by rw [c9]; rfl) (by omega) (by omega) (by omega)
 rw [if_neg c9]
 by_cases c10 : i.op = 10
 · rw [if_pos c10]; exact pushes (wd_one (flF_ltM (toNat_lt hlw 0))) (by rw [c10]; rfl) (by omega) (by omega) (by omega)
 rw [if_neg c10]
 by_cases c15 : i.op = 15
 · rw [if_pos c15]
   refine res_go h hi ⟨hy.value,hy.locals,hy.ops,hy.args⟩ rfl rfl rfl rfl rfl ?_ ?_
   · rw [show pushesI i.op = 0 by rw [c15]; rfl]; simp only; rw [hol]; omega
   · unfold nextM; rw [if_neg (by omega),if_pos c15]; simp
 rw [if_neg c15]
 by_cases c16 : i.op = 16
 · rw [if_pos c16]
   split
   · refine res_go h hi ⟨hy.value,hy.locals,hy.ops,hy.args⟩ rfl rfl rfl rfl rfl ?_ ?_
     · rw [show pushesI i.op = 0 by rw [c16]; rfl]; simp only; rw [hol]; omega
     · unfold nextM; rw [if_neg (by omega),if_neg c15,if_pos c16]; simp
   · refine go hy rfl rfl rfl rfl rfl ?_ rfl (by omega) (by omega) (by omega)
     rw [show pushesI i.op = 0 by rw [c16]; rfl,hol]; omega
 rw [if_neg c16]
 have hpo : (popF p i x).ops.length ≤ x.ops.length := by omega
 by_cases c18 : i.op = 18
 · rw [if_pos c18]
   exact res_stop h ht hi ⟨getD_wdM hlw 0,hy.locals,hy.ops,hy.args⟩ rfl rfl ⟨by simp,by simp⟩ rfl rfl hpo rfl
 rw [if_neg c18]
 by_cases c20 : i.op = 20
 · rw [if_pos c20]
   exact res_stop h ht hi ⟨getD_wdM hlw 0,hy.locals,hy.ops,hy.args⟩ rfl rfl ⟨by simp,by simp⟩ rfl rfl hpo rfl
 rw [if_neg c20]
 by_cases c19 : i.op = 19
 · rw [if_pos c19]
   have hdef : hasDefer g.code = true := defer_mem hmem c19
   have hroom : roomM g = 4 := by unfold roomM; rw [if_pos hdef]
   have hxr := h.room
   split
   · exact res_stop h ht hi ⟨w64_nat _ (oddN_lt 1),hy.locals,hy.ops,hy.args⟩ rfl rfl ⟨by simp,by simp⟩ rfl rfl hpo rfl
   · rename_i hne
     have hne' : x.dfs.length ≠ 4 := hne
     have ha := hsh.2.2.2.1 (by rw [c19]; rfl)
     obtain ⟨gd,hgd⟩ := fnAt_in ha.1 ha.2
     have hgs := sized_bd (hr.sized gd (fnAt_mem hgd).1)
     have hpn : (popN p i : Int) = gd.params := by
       unfold popN popsM
       rw [show (rowT i.op).2.1 = -1 by rw [c19]; rfl,if_pos (by omega),paramsM_in (by omega) (fnAt_mem hgd).2.2.1,if_neg (by omega)]
       omega
     have hpc1 : x.pc + 1 ∈ nextM x.pc.toNat i.op i.a := by rw [next_one (by omega) (by omega) (by omega) (by omega),hnat]; simp
     obtain ⟨t0,t1,t2⟩ := hi.next _ hpc1
     refine ⟨⟨h.fn,⟨t0,by show x.pc + 1 ≤ _; omega⟩,h.mode,h.locals,by have := h.ops; show (popF p i x).ops.length ≤ 8; omega, ?_,fun d hd => ?_⟩,⟨hy.value,hy.locals,hy.ops,fun d hd => ?_⟩,fun _ => ⟨?_, ?_⟩,rfl,rfl⟩
     · show (x.dfs ++ [_]).length ≤ roomM g
       rw [List.length_append]; simp only [List.length_cons,List.length_nil]; omega
     · rcases List.mem_append.1 hd with hd | hd
       · exact h.dfs d hd
       · rw [List.mem_singleton] at hd; subst hd
         unfold dfrM
         simp only
         rw [hgd]
         simp only
         rw [beq_iff_eq,hlen,hpn]
     · rcases List.mem_append.1 hd with hd | hd
       · exact hy.args d hd
       · rw [List.mem_singleton] at hd; subst hd; exact hlw
     · show x.pc + 1 < ((fnD p x.f).code.length : Int)
       rw [fnD_eq h.fn]; exact t1
     · show depM p x.f (x.pc + 1) = ((popF p i x).ops.length : Int) + 0
       rw [t2,hol,show pushesI i.op = 0 by rw [c19]; rfl]; omega
 rw [if_neg c19]
 by_cases c27 : i.op = 27
 · rw [if_pos c27]
   refine go hy rfl rfl rfl rfl rfl ?_ rfl (by omega) (by omega) (by omega)
   rw [show pushesI i.op = 0 by rw [c27]; rfl,hol]; omega
 rw [if_neg c27]
 have hv := hsh.2.2.2.2.2.2
 have hp1 : pushesI i.op = 1 := push_two hv c1 c2 c3 c4 c9 c10 c15 c16 c18 c19 c20 c27 s17 s21 s22 s23 s24 s25 s26
 exact pushes (wd_one (twoN_lt _ (toNat_lt hlw 0) (toNat_lt hlw 1))) (by rw [hp1]; rfl) (by omega) (by omega) (by omega)
end
end Go.Proofs.YtidcpndlloppdaaGreat
