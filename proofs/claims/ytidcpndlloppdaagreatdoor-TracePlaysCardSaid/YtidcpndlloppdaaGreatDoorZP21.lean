import Derived.Test.YtidcpndlloppdaaGreatDoorZEngD
import Derived.Test.YtidcpndlloppdaaGreatDoorZK17
import Derived.Test.YtidcpndlloppdaaGreatDoorZVB
import Derived.Test.YtidcpndlloppdaaGreatDoorZM29
import Derived.Test.YtidcpndlloppdaaGreatDoorZFT
/-
  The maker of programs by numbers, as a plain rule; how it lies in memory; calls of its functions.
  Conditions: none.
-/
set_option linter.unusedVariables false
set_option linter.unusedSimpArgs false
namespace Go.Proofs.YtidcpndlloppdaaGreatDoor
open Go.RowKit
structure MSt where
  ns : List Int
  p : List Fnc
  f : Nat
  depth : List Int
  now : Int
section
variable {B g : Nat} {w : World} {s : MSt} {A : Option Addr} {ln cn : Nat} {vF vD : Value} {cs : List Value}
end
section
variable {B g : Nat} {S : Nat → Prop} {w0 w : World} {s : MSt} {A : Option Addr} {ln cn : Nat} {vF vD : Value} {cs : List Value}
end
end Go.Proofs.YtidcpndlloppdaaGreatDoor
set_option linter.unusedVariables false
set_option linter.unusedSimpArgs false
namespace Go.Proofs.YtidcpndlloppdaaGreatDoor
open Go.RowKit
structure Run (P : Int → Int → Int) (xs : List Ins) (D E : List Int) : Prop where
  len : D.length = xs.length
  low : ∀ d ∈ D, 0 ≤ d
  ok : ∀ j x d, xs[j]? = some x → D[j]? = some d → P x.op x.a ≤ d ∧ d - P x.op x.a + pushesI x.op ≤ 8 ∧
    ∀ t ∈ nextM j x.op x.a, 0 ≤ t ∧ (D ++ E)[t.toNat]? = some (d - P x.op x.a + pushesI x.op)
def HeadOk (x : Fnc) : Prop := 0 ≤ x.params ∧ x.params ≤ 3 ∧ x.params ≤ x.locals ∧ x.locals ≤ x.params + 4 ∧ 0 ≤ x.refs ∧ x.refs ≤ x.locals - x.params
def FormOk (np : Nat) (x : Fnc) (i : Ins) : Prop := ∀ n : Nat, (i.op = 15 ∨ i.op = 16 → 0 ≤ i.a ∧ i.a < n) → shapedM np x.locals x.refs n i.op i.a i.b = true
def DoneF (np : Nat) (P : Int → Int → Int) (x : Fnc) : Prop := 1 ≤ x.code.length ∧ x.code.length ≤ 62 ∧ (∀ i ∈ x.code, FormOk np x i) ∧ ∃ D, Run P x.code D [] ∧ D[0]? = some 0
theorem firstNot_none {α : Type} {f : α → Bool} : ∀ {l : List α} {i : Nat}, (∀ x ∈ l, f x = true) → firstNot f l i = none
  | [], i, h => rfl
  | y :: r, i, h => by
    unfold firstNot
    rw [if_pos (h y List.mem_cons_self)]
    exact firstNot_none fun x hx => h x (List.mem_cons_of_mem _ hx)
theorem shapesM_none {np : Nat} : ∀ {l : List Fnc} {i : Nat}, (∀ f ∈ l, ∀ x ∈ f.code, shapedI np f x = true) → shapesM np l i = none
  | [], i, h => rfl
  | y :: r, i, h => by
    unfold shapesM
    rw [firstNot_none (h y List.mem_cons_self)]
    exact shapesM_none fun f hf => h f (List.mem_cons_of_mem _ hf)
theorem flowsM_none {p : List Fnc} : ∀ {l : List Fnc} {i : Nat}, (∀ f ∈ l, ∃ d, depthsM p f.code = .inr d) → flowsM p l i = none
  | [], i, h => rfl
  | y :: r, i, h => by
    unfold flowsM
    obtain ⟨d, hd⟩ := h y List.mem_cons_self
    rw [hd]
    exact flowsM_none fun f hf => h f (List.mem_cons_of_mem _ hf)
theorem check_zero {p : List Fnc} (h1 : 1 ≤ p.length) (h8 : p.length ≤ 8) (hs : ∀ x ∈ p, sizedF x = true) (hf : ∀ f ∈ p, ∀ x ∈ f.code, shapedI p.length f x = true) (hd : ∀ f ∈ p, ∃ d, depthsM p f.code = .inr d) : checkM p = (0, 0, 0) := by
  unfold checkM
  rw [if_neg (by omega), firstNot_none hs]
  simp only
  rw [shapesM_none hf]
  simp only
  rw [flowsM_none hd]
end Go.Proofs.YtidcpndlloppdaaGreatDoor
set_option linter.unusedVariables false
set_option linter.unusedSimpArgs false
namespace Go.Proofs.YtidcpndlloppdaaGreatDoor
open Go.RowKit
structure Cur (s : MSt) (E : List Int) : Prop where
  pos : 1 ≤ s.p.length
  few : s.p.length ≤ 5
  f : s.f < s.p.length
  heads : ∀ x ∈ s.p, HeadOk x
  zero : ∀ x, s.p[0]? = some x → x.params = 0
  done : ∀ i x, i < s.f → s.p[i]? = some x → DoneF s.p.length (popsM s.p) x
  todo : ∀ i x, s.f < i → s.p[i]? = some x → x.code = []
  run : ∀ x, s.p[s.f]? = some x → Run (popsM s.p) x.code s.depth (s.now :: E) ∧ ∀ i ∈ x.code, FormOk s.p.length x i
  start : (s.depth ++ [s.now])[0]? = some 0
  now : 0 ≤ s.now ∧ s.now ≤ 8
end Go.Proofs.YtidcpndlloppdaaGreatDoor
set_option linter.unusedVariables false
set_option linter.unusedSimpArgs false
namespace Go.Proofs.YtidcpndlloppdaaGreatDoor
open Go.RowKit
end Go.Proofs.YtidcpndlloppdaaGreatDoor
set_option linter.unusedVariables false
set_option linter.unusedSimpArgs false
namespace Go.Proofs.YtidcpndlloppdaaGreatDoor
open Go.RowKit
section
variable {B g : Nat} {w : World} {s : MSt} {A : Option Addr} {ln cn : Nat} {vF vD : Value} {cs : List Value}
end
end Go.Proofs.YtidcpndlloppdaaGreatDoor
set_option linter.unusedVariables false
set_option linter.unusedSimpArgs false
namespace Go.Proofs.YtidcpndlloppdaaGreatDoor
open Go.RowKit
end Go.Proofs.YtidcpndlloppdaaGreatDoor
set_option linter.unusedVariables false
set_option linter.unusedSimpArgs false
namespace Go.Proofs.YtidcpndlloppdaaGreatDoor
open Go.RowKit
structure Step (n : Nat) (s s' : MSt) : Prop where
  cur : Cur s' []
  f : s'.f = s.f
  p : s'.p.length = s.p.length
  pops : popsM s'.p = popsM s.p
  dep : s'.depth.length ≤ s.depth.length + n
section
variable {B g : Nat} {S : Nat → Prop} {w0 w : World} {s : MSt} {A : Option Addr} {ln cn : Nat} {vF vD : Value} {cs : List Value}
end
end Go.Proofs.YtidcpndlloppdaaGreatDoor
set_option linter.unusedVariables false
set_option linter.unusedSimpArgs false
namespace Go.Proofs.YtidcpndlloppdaaGreatDoor
open Go.RowKit
end Go.Proofs.YtidcpndlloppdaaGreatDoor
set_option linter.unusedVariables false
set_option linter.unusedSimpArgs false
namespace Go.Proofs.YtidcpndlloppdaaGreatDoor
open Go.RowKit
end Go.Proofs.YtidcpndlloppdaaGreatDoor
set_option linter.unusedVariables false
set_option linter.unusedSimpArgs false
namespace Go.Proofs.YtidcpndlloppdaaGreatDoor
open Go.RowKit
section
variable {B g : Nat} {w0 : World} {vF0 vD0 : Value} {cs0 : List Value}
end
end Go.Proofs.YtidcpndlloppdaaGreatDoor
set_option linter.unusedVariables false
set_option linter.unusedSimpArgs false
namespace Go.Proofs.YtidcpndlloppdaaGreatDoor
open Go.RowKit
section
variable {w0 : World} {g : Nat} {q2 : Nat}
end
end Go.Proofs.YtidcpndlloppdaaGreatDoor

/-
  Layer 21, plain: the machine by lists: what it is, what one act does, what holds of it at any time.
  Conditions: none.
-/
set_option linter.unusedVariables false
set_option linter.unusedSimpArgs false
set_option maxRecDepth 20000
namespace Go.Proofs.YtidcpndlloppdaaGreatDoor
def oddN (n : Int) : Nat := if n = 0 then NO else if n = 1 then 9218868437227405312 else if n = 2 then 18442240474082181120 else if n = 3 then SW else if n = 4 then 9218868437227405311 else 1
def bW (b : Bool) : Nat := if b = true then nw 1 else nw 0
def twoN (op : Int) (a b : Nat) : Nat :=
  if op = 5 then far .add a b else if op = 6 then far .sub a b else if op = 7 then far .mul a b else if op = 8 then far .quo a b else if op = 11 then mnF a b else if op = 12 then mxF a b
  else if op = 13 then bW (ltF a b) else bW (eqF a b)
structure Mach where
  first : Int
  begun : Bool
  ended : Bool
  parked : Bool
  refs : Int
  /-- the top one is ahead -/
  frames : List Frm
  trace : List Mk
def newM (f : Int) : Mach := ⟨f, false, false, false, 0, [], []⟩
def fnD (p : List Fnc) (f : Int) : Fnc := (fnAt p f).getD ⟨0, 0, 0, []⟩
def locM (n : Int) (args : List Int) : List Int := (args ++ List.replicate n.toNat 0).take n.toNat
def newF (p : List Fnc) (f : Int) (args : List Int) (dfd : Bool) : Frm := ⟨f, 0, 0, dfd, 0, [], locM (fnD p f).locals args, []⟩
def pushF (y : Frm) (ws : List Int) : Frm := { y with ops := y.ops ++ ws }
def insAt (g : Fnc) (pc : Int) : Ins := (g.code[pc.toNat]?).getD ⟨0, 0, 0⟩
def recvM (m : Mach) (y : Frm) (r : List Frm) : Mach := match r with
  | u :: r' => if y.dfd = true ∧ u.mode = 2 then { m with frames := pushF y [u.value, (nw 1 : Nat)] :: { u with mode := 1, value := (nw 0 : Nat) } :: r', trace := m.trace ++ [⟨2, u.value.toNat⟩] }
    else { m with frames := pushF y [(nw 0 : Nat), (nw 0 : Nat)] :: u :: r' }
  | [] => { m with frames := [pushF y [(nw 0 : Nat), (nw 0 : Nat)]] }
def simM (i : Ins) (l : List Int) (y : Frm) : Frm :=
  if i.op = 1 then pushF y [(nw i.a : Nat)]
  else if i.op = 2 then pushF y [(oddN i.a : Nat)]
  else if i.op = 3 then pushF y [y.locals.getD i.a.toNat 0]
  else if i.op = 4 then { y with locals := y.locals.set i.a.toNat (l.getD 0 0) }
  else if i.op = 9 then pushF y [(neF (l.getD 0 0).toNat : Nat)]
  else if i.op = 10 then pushF y [(flF (l.getD 0 0).toNat : Nat)]
  else if i.op = 15 then { y with pc := i.a }
  else if i.op = 16 then if trF (l.getD 0 0).toNat = true then { y with pc := i.a } else y
  else if i.op = 18 then { y with value := l.getD 0 0, mode := 1 }
  else if i.op = 20 then { y with value := l.getD 0 0, mode := 2 }
  else if i.op = 19 then if y.dfs.length = 4 then { y with value := (oddN 1 : Nat), mode := 2 } else { y with dfs := y.dfs ++ [⟨i.a, l⟩] }
  else if i.op = 27 then y
  else pushF y [(twoN i.op (l.getD 0 0).toNat (l.getD 1 0).toNat : Nat)]
def refAt (g : Fnc) (y : Frm) (k : Int) : Nat := y.locals.length - g.refs.toNat + k.toNat
def actM (p : List Fnc) (m : Mach) (g : Fnc) (i : Ins) (l : List Int) (y : Frm) (r : List Frm) : Mach :=
  if i.op = 17 then { m with frames := newF p i.a l false :: y :: r }
  else if i.op = 21 then recvM m y r
  else if i.op = 22 then { m with frames := y :: r, trace := m.trace ++ [⟨1, (l.getD 0 0).toNat⟩] }
  else if i.op = 23 then { m with frames := { y with locals := y.locals.set (refAt g y i.a) (m.refs + 1) } :: r, refs := m.refs + 1 }
  else if i.op = 24 then { m with frames := { y with locals := y.locals.set (refAt g y i.a) (y.locals.getD (refAt g y i.b) 0) } :: r }
  else if i.op = 25 then { m with frames := { y with locals := y.locals.set (refAt g y i.a) 0 } :: r }
  else if i.op = 26 then { m with frames := y :: r, parked := true }
  else { m with frames := simM i l y :: r }
def popN (p : List Fnc) (i : Ins) : Nat := (popsM p i.op i.a).toNat
def popF (p : List Fnc) (i : Ins) (x : Frm) : Frm := { x with pc := x.pc + 1, ops := x.ops.take (x.ops.length - popN p i) }
def popL (p : List Fnc) (i : Ins) (x : Frm) : List Int := x.ops.drop (x.ops.length - popN p i)
def runMach (p : List Fnc) (m : Mach) (x : Frm) (r : List Frm) : Mach :=
  actM p m (fnD p x.f) (insAt (fnD p x.f) x.pc) (popL p (insAt (fnD p x.f) x.pc) x) (popF p (insAt (fnD p x.f) x.pc) x) r
def leaveM (p : List Fnc) (m : Mach) (x : Frm) (r : List Frm) : Mach :=
  match x.dfs.getLast? with
  | some d => { m with frames := newF p d.f d.args true :: { x with dfs := x.dfs.dropLast } :: r }
  | none => match r with
    | [] => { m with frames := [], ended := true, trace := m.trace ++ [⟨if x.mode = 2 then 4 else 3, x.value.toNat⟩] }
    | u :: r' => if x.mode = 2 then { m with frames := { u with mode := 2, value := x.value } :: r' } else if x.dfd = true then { m with frames := u :: r' } else { m with frames := pushF u [x.value] :: r' }
def goM (p : List Fnc) (m : Mach) : Mach :=
  if m.begun = false then { m with begun := true, frames := newF p m.first [] false :: m.frames } else
  match m.frames with
  | [] => m
  | x :: r => if x.mode = 0 then runMach p m x r else leaveM p m x r
def stepM (p : List Fnc) (m : Mach) : Mach × Int := if m.ended = true then (m, 7) else if m.parked = true then (m, 8) else (goM p m, 0)
def wakeM (m : Mach) : Mach := { m with parked := false }
structure Rt (p : List Fnc) : Prop where
  few : 1 ≤ p.length ∧ p.length ≤ 8
  sized : ∀ f ∈ p, sizedF f = true
  shaped : ∀ f ∈ p, ∀ x ∈ f.code, shapedI p.length f x = true
  flow : ∀ f ∈ p, ∃ d, depthsM p f.code = .inr d
theorem rt_of {p : List Fnc} (h : (checkM p).1 = 0) : Rt p := by
  unfold checkM at h
  split at h
  · simp at h
  rename_i hl
  split at h
  · simp at h
  rename_i hs
  split at h
  · simp at h
  rename_i hsh
  split at h
  · simp at h
  rename_i hf
  exact ⟨by omega, firstNot_all hs, shapesM_all hsh, flowsM_all hf⟩
theorem Rt.check {p : List Fnc} (h : Rt p) : checkM p = (0, 0, 0) := check_zero h.few.1 h.few.2 h.sized h.shaped h.flow
theorem Rt.fewP {p : List Fnc} (h : Rt p) : Few p := (check_ok (by rw [h.check])).1
theorem Rt.jmp {p : List Fnc} (h : Rt p) : ∀ f ∈ p, ∀ x ∈ f.code, x.op = 15 ∨ x.op = 16 → 0 ≤ x.a := (check_ok (by rw [h.check])).2.2.1
theorem fnAt_mem {p : List Fnc} {f : Int} {g : Fnc} (h : fnAt p f = some g) : g ∈ p ∧ 0 ≤ f ∧ p[f.toNat]? = some g ∧ f < (p.length : Int) := by
  unfold fnAt at h
  split at h
  · cases h
  · have := (List.getElem?_eq_some_iff.1 h).1
    exact ⟨List.mem_of_getElem? h, by omega, h, by omega⟩
theorem fnD_eq {p : List Fnc} {f : Int} {g : Fnc} (h : fnAt p f = some g) : fnD p f = g := by unfold fnD; rw [h]; rfl
theorem fnAt_in {p : List Fnc} {f : Int} (h0 : 0 ≤ f) (h1 : f < (p.length : Int)) : ∃ g, fnAt p f = some g := by
  refine ⟨p[f.toNat]'(by omega), ?_⟩
  unfold fnAt
  rw [if_neg (by omega)]
  exact List.getElem?_eq_getElem _
def depM (p : List Fnc) (f pc : Int) : Int := match depthsM p (fnD p f).code with
  | .inr d => d.getD pc.toNat 0
  | .inl _ => 0
theorem Rt.ins {p : List Fnc} (h : Rt p) {f : Int} {g : Fnc} (hg : fnAt p f = some g) {pc : Int} (h0 : 0 ≤ pc) (h1 : pc < (g.code.length : Int)) : g.code[pc.toNat]? = some (insAt g pc) ∧ insAt g pc ∈ g.code := by
  have : g.code[pc.toNat]? = some (g.code[pc.toNat]'(by omega)) := List.getElem?_eq_getElem _
  unfold insAt
  rw [this]
  exact ⟨rfl, List.getElem_mem _⟩
theorem Rt.steady {p : List Fnc} (h : Rt p) {f : Int} {g : Fnc} (hg : fnAt p f = some g) {pc : Int} (h0 : 0 ≤ pc) (h1 : pc < (g.code.length : Int)) (hd : 0 ≤ depM p f pc) :
    popsM p (insAt g pc).op (insAt g pc).a ≤ depM p f pc ∧ depM p f pc - popsM p (insAt g pc).op (insAt g pc).a + pushesI (insAt g pc).op ≤ 8 ∧
    ∀ t ∈ nextM pc.toNat (insAt g pc).op (insAt g pc).a, 0 ≤ t ∧ t < (g.code.length : Int) ∧ depM p f t = depM p f pc - popsM p (insAt g pc).op (insAt g pc).a + pushesI (insAt g pc).op := by
  obtain ⟨hm, hf0, _, _⟩ := fnAt_mem hg
  obtain ⟨d, hdd⟩ := h.flow g hm
  obtain ⟨h2, h3, h4⟩ := depths_still h.fewP (h.jmp g hm) hdd
  obtain ⟨hi, him⟩ := h.ins hg h0 h1
  unfold depM at hd ⊢
  rw [fnD_eq hg, hdd] at hd ⊢
  simp only at hd ⊢
  obtain ⟨k1, k2, k3⟩ := h2 pc.toNat _ hi hd
  refine ⟨k1, k2, fun t ht => ⟨?_, (k3 t ht).1, (k3 t ht).2⟩⟩
  unfold nextM at ht
  split at ht
  · cases ht
  split at ht
  · rename_i h15
    rw [List.mem_singleton] at ht; subst ht
    exact h.jmp g hm _ him (.inl h15)
  split at ht
  · rename_i h16
    rcases List.mem_cons.1 ht with rfl | ht
    · exact h.jmp g hm _ him (.inr h16)
    · rw [List.mem_singleton] at ht; omega
  · rw [List.mem_singleton] at ht; omega
theorem Rt.dep0 {p : List Fnc} (h : Rt p) {f : Int} {g : Fnc} (hg : fnAt p f = some g) : depM p f 0 = 0 ∧ 0 < (g.code.length : Int) := by
  obtain ⟨hm, hf0, _, _⟩ := fnAt_mem hg
  obtain ⟨d, hdd⟩ := h.flow g hm
  obtain ⟨h2, h3, h4⟩ := depths_still h.fewP (h.jmp g hm) hdd
  have hs := sized_bd (h.sized g hm)
  unfold depM
  rw [fnD_eq hg, hdd]
  exact ⟨h4 hs.2.2.2.2.2.2.1, by omega⟩
theorem Rt.dep_bd {p : List Fnc} (h : Rt p) {f : Int} {g : Fnc} (hg : fnAt p f = some g) (pc : Int) : -1 ≤ depM p f pc ∧ depM p f pc ≤ 8 := by
  obtain ⟨hm, hf0, _, _⟩ := fnAt_mem hg
  obtain ⟨d, hdd⟩ := h.flow g hm
  obtain ⟨h2, h3, h4⟩ := depths_still h.fewP (h.jmp g hm) hdd
  unfold depM
  rw [fnD_eq hg, hdd]
  simp only
  by_cases hl : pc.toNat < d.length
  · rw [List.getD, List.getElem?_eq_getElem hl]
    exact h3.2 _ (List.getElem_mem hl)
  · rw [List.getD, List.getElem?_eq_none (by omega)]; simp
end Go.Proofs.YtidcpndlloppdaaGreatDoor
