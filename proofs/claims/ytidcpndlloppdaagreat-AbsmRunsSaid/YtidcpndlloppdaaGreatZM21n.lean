import Derived.Test.YtidcpndlloppdaaGreatZM21k
import Derived.Test.YtidcpndlloppdaaGreatZM21c
/-
 Layer 21: one act: Step.
 Conditions: the machine lies in memory as told; the program is right.
-/
set_option linter.unusedVariables false
set_option linter.unusedSimpArgs false
set_option maxRecDepth 20000
namespace Go.Proofs.YtidcpndlloppdaaGreat
open Go.RowKit
section
variable {w : World} {B g : Nat} {C : Option Addr} {c : Nat} {p : List Fnc} {m : Mach} {F T : Value} {ss : List Sl}
theorem mach_keep {w0 : World} {m' : Mach} {F0 T0 : Value} {ss0 : List Sl} (hc : ExtS w0.heap.size (Foot g F0 T0 ss0) w0 w) (h : MachAt w B g C c p m' F T ss) (hf : ∀ k,Foot g F T ss k → Foot g F0 T0 ss0 k ∨ w0.heap.size ≤ k) {v : Value} :
   Ret w0.heap.size w (IsT w0 (Foot g F0 T0 ss0) (fun u w' => u = v ∧ MachQ w0 B g C c p F0 T0 ss0 m' w') v) :=
 mach_ret (hc.chg (Chg.refl _ _) fun k _ hk => hk) h hf
set_option maxHeartbeats 4000000 in
theorem turns39 (hr : Rt p) (h : MachAt w B g C c p m F T ss) (ho : MOk p m) {n : Nat} (hl : Lim m n) (hn : n ≤ 100000000) :
   MachT 39 [.pointer (some ⟨g,0,none⟩)] w B g C c p F T ss (.int .i64 (stepM p m).2) (stepM p m).1 := by
 have l1 := hl.refs
 have l2 := hl.frames
 have l3 := hl.trace
 refine turns_of (V39.sound ?_)
 unfold V39.vc
 simp only [own_add,bx_add,Nat.add_zero]
 refine ⟨m.ended,h.cell (i := 3) rfl, ?_⟩
 have same : Chg (Foot g F T ss) w w := Chg.refl _ _
 unfold stepM
 by_cases he : m.ended = true
 · rw [if_pos he,if_pos he]
   exact mach_ret (m' := m) same h fun k hk => .inl hk
 have hen : m.ended = false := by simpa using he
 rw [if_neg he,if_neg he]
 refine ⟨m.parked,h.cell (i := 4) rfl, ?_⟩
 by_cases hp : m.parked = true
 · rw [if_pos hp,if_pos hp]
   exact mach_ret (m' := m) same h fun k hk => .inl hk
 rw [if_neg hp,if_neg hp]
 refine ⟨m.begun,h.cell (i := 2) rfl, ?_⟩
 unfold goM
 by_cases hb : m.begun = false
 · rw [if_pos (by simp [hb]),if_pos hb]
   simp only
   have h1 : MachAt (w.setCell ⟨g,2,none⟩ (.bool true)) B g C c p { m with begun := true } F T ss := mach_set (m := { m with begun := true }) h.head rfl h.pcs h.base h.prog
   refine ⟨⟨_,h.cell (i := 2) rfl⟩,h.frozen 2,m.first,h1.cell (i := 1) rfl, ?_⟩
   obtain ⟨fn,hfn,hpar⟩ := ho.first
   obtain ⟨hf0,ht0⟩ := ho.fresh hb
   have hchg : Chg (Foot g F T ss) w (w.setCell ⟨g,2,none⟩ (.bool true)) := same.setCell _ fun _ => .inl rfl
   have hs := sized_bd (hr.sized fn (fnAt_mem hfn).1)
   refine call_mach (m' := enterM p { m with begun := true } m.first [] false) hchg.size h1 (fun w1 e1 h2 => turns77 hr h2 (by show m.frames.length ≤ _; rw [hf0]; simp) hfn (nums_nil .u64 w1) (by omega) false) fun w2 F' T' ss' h2 e2 hf2 => ⟨rfl, ?_⟩
   exact mach_ret (m' := enterM p { m with begun := true } m.first [] false) (e2.chg hchg fun k _ hk => hk) h2 fun k hk => by simpa using hf2 k hk
 have hbt : m.begun = true := by simpa using hb
 rw [if_neg (by simp [hbt]),if_neg hb]
 cases hm : m.frames with
 | nil => have := (ho.gone hbt).2 hm; exact absurd this he
 | cons x r =>
   obtain ⟨G,cap,s,t,rfl,rfl,htl,hBG,_⟩ := h.open hm
   have hp' := h.pcs
   rw [hm] at hp'
   have hF := h.cell (i := 6) rfl
   rw [hm] at l2
   simp only [List.length_cons] at l2
   have cell : ∀ {j v},(frmC x s)[j]? = some v → w.cell? ⟨G,r.length * 8 + j,none⟩ = some v := fun hv => owns_cell hp'.frames (stackC_top htl hv)
   refine ⟨_,_,_,hF,_,_,_,hF,_,rfl, ?_⟩
   rw [top_ix (by omega)]
   simp only [Int.toNat_natCast,own_add,bx_add,Nat.add_zero,Nat.zero_add]
   refine ⟨by omega,by omega,x.mode,cell (j := 2) rfl, ?_⟩
   by_cases h0 : x.mode = 0
   · rw [if_pos (by simpa using h0),if_pos h0]
     refine call_mach (m' := runMach p m x r) (Nat.le_refl _) h (fun w1 e1 h1 => turns78 hr h1 hm ho hbt h0 (by omega) (by omega) (by omega)) fun w2 F' T' ss' h2 e2 hf2 => ⟨rfl, ?_⟩
     exact mach_keep e2 h2 hf2
   · rw [if_neg (by simpa using h0),if_neg h0]
     refine call_mach (m' := leaveM p m x r) (Nat.le_refl _) h (fun w1 e1 h1 => turns79 hr h1 hm ho h0 (by omega) (by omega)) fun w2 F' T' ss' h2 e2 hf2 => ⟨rfl, ?_⟩
     exact mach_keep e2 h2 hf2
theorem call_step {B0 : Nat} {bs : List Nat} {K : Value → World → Prop} (hB : B0 ≤ w.heap.size) (hr : Rt p) (h : MachAt w B g C c p m F T ss) (ho : MOk p m) {n : Nat} (hl : Lim m n) (hn : n ≤ 100000000)
   (hk : ∀ w' F' T' ss',MachAt w' B g C c p (stepM p m).1 F' T' ss' → ExtS B0 (Foot g F T ss) w w' → (∀ k,Foot g F' T' ss' k → Foot g F T ss k ∨ w.heap.size ≤ k) → K (.int .i64 (stepM p m).2) w') : CallK Tryz.prog 39 [.pointer (some ⟨g,0,none⟩)] B0 w bs K :=
 call_mach hB h (fun w1 _ h1 => turns39 hr h1 ho hl hn) hk
end
end Go.Proofs.YtidcpndlloppdaaGreat

/-
 Layer 21: what stands aside of a machine; two machines.
 Conditions: none.
-/
set_option linter.unusedVariables false
set_option linter.unusedSimpArgs false
set_option maxRecDepth 20000
namespace Go.Proofs.YtidcpndlloppdaaGreat
open Go.RowKit
def Aside (P : World → Prop) (S : Nat → Prop) (w : World) : Prop := ∃ w1,P w1 ∧ ∀ q v,w1.cell? q = some v → w.cell? q = some v ∧ ¬ S q.block
def KeptP (P : World → Prop) : Prop := ∀ w w',(∀ q v,w.cell? q = some v → w'.cell? q = some v) → P w → P w'
section
variable {P : World → Prop} {S S' : Nat → Prop} {w w' : World}
theorem Aside.keep (h : Aside P S w) (hk : KeepsOff S w w') (hS : ∀ k,S' k → S k ∨ w.heap.size ≤ k) : Aside P S' w' := by
 obtain ⟨w1,h1,h2⟩ := h
 refine ⟨w1,h1,fun q v hq => ?_⟩
 obtain ⟨a,b⟩ := h2 q v hq
 refine ⟨hk q v a b,fun hs => ?_⟩
 rcases hS _ hs with hs | hs
 · exact b hs
 · have := cell_lt a; omega
theorem Aside.mono (h : Aside P S w) (hS : ∀ k,S' k → S k) : Aside P S' w := by
 obtain ⟨w1,h1,h2⟩ := h
 exact ⟨w1,h1,fun q v hq => ⟨(h2 q v hq).1,fun hs => (h2 q v hq).2 (hS _ hs)⟩⟩
theorem POff.aside {C : Option Addr} {p : List Fnc} (h : POff S w C p) : Aside (fun w => ProgAt w C p.length p) S w := h.at_
theorem Aside.poff {C : Option Addr} {p : List Fnc} (h : Aside (fun w => ProgAt w C p.length p) S w) : POff S w C p := ⟨h⟩
end
section
variable {w : World} {B : Nat} {p : List Fnc} {g : Nat} {C : Option Addr} {c : Nat} {m : Mach} {F T : Value} {ss : List Sl} {g' : Nat} {C' : Option Addr} {c' : Nat} {m' : Mach} {F' T' : Value} {ss' : List Sl}
theorem POff.mono {S S' : Nat → Prop} (h : POff S w C p) (hS : ∀ k,S' k → S k) : POff S' w C p := (h.aside.mono hS).poff
end
end Go.Proofs.YtidcpndlloppdaaGreat
