import Derived.Test.YtidcpndlloppdaaZM29
import Derived.Test.YtidcpndlloppdaaZVB
import Derived.Test.YtidcpndlloppdaaZM17
/-
  Layer 2: the lesser and the greater one, ranks, comparisons: what calls return.
  Conditions: none.
-/
set_option linter.unusedVariables false
set_option linter.unusedSimpArgs false
namespace Go.Proofs.Ytidcpndlloppdaa
open Go.RowKit Ieee
def mnF (a b : Nat) : Nat := if nanw a = true ∨ nanw b = true then NO else if rk b < rk a then b else a
def mxF (a b : Nat) : Nat := if nanw a = true ∨ nanw b = true then NO else if rk a < rk b then b else a
theorem cn_id {a : Nat} (h : ¬ nanw a = true) : cn a = a := by unfold cn; rw [if_neg h]
section
variable {w : World}
theorem gives101 (a b : Nat) : Gives Try.prog 101 [.float .f64 a, .float .f64 b] w (.float .f64 (pickN true .lt a b)) := by
  refine gives_of (V101.sound ?_)
  unfold V101.vc
  exact run_lone (Nat.le_refl _) (lone_min _ _) fun v w' he hv => ⟨_, hv, ret_is he.below rfl⟩
theorem gives102 (a b : Nat) : Gives Try.prog 102 [.float .f64 a, .float .f64 b] w (.float .f64 (pickN false .gt a b)) := by
  refine gives_of (V102.sound ?_)
  unfold V102.vc
  exact run_lone (Nat.le_refl _) (lone_max _ _) fun v w' he hv => ⟨_, hv, ret_is he.below rfl⟩
theorem ext_vc {g : Nat} {f : Nat → Nat → Nat} {F : Nat → Nat → Nat} (hg : ∀ (a b : Nat) (w : World), Gives Try.prog g [.float .f64 a, .float .f64 b] w (.float .f64 (f a b))) {a b : Nat}
    (hF : (nanw a = true ∨ nanw b = true → F a b = NO) ∧ (¬ nanw a = true → ¬ nanw b = true → cn (f a b) = F a b)) :
    CallK Try.prog 36 [.int .u64 (a : Int)] w.heap.size w [] fun v w_1 => ∃ x10 : Nat, v = .float .f64 x10 ∧ CallK Try.prog 36 [.int .u64 (b : Int)] w.heap.size w_1 [] fun v_1 w_2 => ∃ x12 : Nat, v_1 = .float .f64 x12 ∧
      CallK Try.prog 50 [.float .f64 x10] w.heap.size w_2 [] fun v_2 w_3 => ∃ b14 : Bool, v_2 = .bool b14 ∧
      if b14 = false
      then (CallK Try.prog 50 [.float .f64 x12] w.heap.size w_3 [] fun v_3 w_4 => ∃ b17 : Bool, v_3 = .bool b17 ∧
        if b17 = true
        then (Ret w.heap.size w_4 (IsV w (.int .u64 (F a b : Nat)) (.int .u64 9221120237041090560)))
        else (CallK Try.prog g [.float .f64 x10, .float .f64 x12] w.heap.size w_4 [] fun v_4 w_5 => ∃ x22 : Nat, v_4 = .float .f64 x22 ∧
          CallK Try.prog 32 [.float .f64 x22] w.heap.size w_5 [] fun v_5 w_6 => ∃ x23 : Int, v_5 = .int .u64 x23 ∧ Ret w.heap.size w_6 (IsV w (.int .u64 (F a b : Nat)) (.int .u64 x23))))
      else (Ret w.heap.size w_3 (IsV w (.int .u64 (F a b : Nat)) (.int .u64 9221120237041090560))) := by
  refine call_gives (Below.refl _ _) (fun _ _ _ => gives36 a) fun w1 _ h1 => ⟨_, rfl, ?_⟩
  refine call_gives h1 (fun _ _ _ => gives36 b) fun w2 _ h2 => ⟨_, rfl, ?_⟩
  refine call_gives h2 (fun _ _ _ => gives50 a) fun w3 _ h3 => ⟨_, rfl, ?_⟩
  split
  · rename_i na
    refine call_gives h3 (fun _ _ _ => gives50 b) fun w4 _ h4 => ⟨_, rfl, ?_⟩
    split
    · rename_i nb
      exact ret_is h4 (by rw [hF.1 (.inr nb)]; rfl)
    · rename_i nb
      refine call_gives h4 (fun _ _ _ => hg a b _) fun w5 _ h5 => ⟨_, rfl, ?_⟩
      refine call_gives h5 (fun _ _ _ => gives32 _) fun w6 _ h6 => ⟨_, rfl, ret_is h6 ?_⟩
      rw [hF.2 (by rw [na]; decide) nb]
  · rename_i na
    exact ret_is h3 (by rw [hF.1 (.inl (by simpa using na))]; rfl)
theorem gives92 {a b : Nat} (ha : a < 2 * SW) (hb : b < 2 * SW) : Gives Try.prog 92 [.int .u64 (a : Int), .int .u64 (b : Int)] w (.int .u64 (mnF a b : Nat)) := by
  refine gives_of (V92.sound ?_)
  unfold V92.vc
  refine call_gives (v := .int .u64 (mnF a b : Nat)) (Below.refl _ _) (fun w1 _ _ => gives_of (V100a.sound (ext_vc (g := 101) (f := pickN true .lt) (F := mnF) (fun a b _ => gives101 a b) ⟨fun h => by unfold mnF; rw [if_pos h], fun na nb => ?_⟩))) fun w1 _ h1 => ⟨_, rfl, ret_is h1 rfl⟩
  rw [min_law ha hb (by simpa using na) (by simpa using nb)]
  have e : mnF a b = if rk b < rk a then b else a := by unfold mnF; rw [if_neg (fun h => by rcases h with h | h; exact na h; exact nb h)]
  rw [e]
  split
  · exact cn_id nb
  · exact cn_id na
theorem gives93 {a b : Nat} (ha : a < 2 * SW) (hb : b < 2 * SW) : Gives Try.prog 93 [.int .u64 (a : Int), .int .u64 (b : Int)] w (.int .u64 (mxF a b : Nat)) := by
  refine gives_of (V93.sound ?_)
  unfold V93.vc
  refine call_gives (v := .int .u64 (mxF a b : Nat)) (Below.refl _ _) (fun w1 _ _ => gives_of (V100b.sound (ext_vc (g := 102) (f := pickN false .gt) (F := mxF) (fun a b _ => gives102 a b) ⟨fun h => by unfold mxF; rw [if_pos h], fun na nb => ?_⟩))) fun w1 _ h1 => ⟨_, rfl, ret_is h1 rfl⟩
  rw [max_law ha hb (by simpa using na) (by simpa using nb)]
  have e : mxF a b = if rk a < rk b then b else a := by unfold mxF; rw [if_neg (fun h => by rcases h with h | h; exact na h; exact nb h)]
  rw [e]
  split
  · exact cn_id nb
  · exact cn_id na
def ltF (a b : Nat) : Bool := double.order a b == some .lt
def eqF (a b : Nat) : Bool := double.order a b == some .eq
theorem cmp_vc {f : Nat} (hf : ∀ (a : Nat) (w : World), Gives Try.prog f [.int .u64 (a : Int)] w (.float .f64 a)) (a b : Nat) (F : Nat → Nat → Bool) :
    CallK Try.prog f [.int .u64 (a : Int)] w.heap.size w [] fun v w_1 => ∃ x6 : Nat, v = .float .f64 x6 ∧ CallK Try.prog f [.int .u64 (b : Int)] w.heap.size w_1 [] fun v_1 w_2 => ∃ x8 : Nat, v_1 = .float .f64 x8 ∧
      Ret w.heap.size w_2 (IsV w (.bool (F a b)) (.bool (F x6 x8))) := by
  refine call_gives (Below.refl _ _) (fun _ _ _ => hf a _) fun w1 _ h1 => ⟨_, rfl, ?_⟩
  refine call_gives h1 (fun _ _ _ => hf b _) fun w2 _ h2 => ⟨_, rfl, ret_is h2 rfl⟩
theorem gives95 (a b : Nat) : Gives Try.prog 95 [.int .u64 (a : Int), .int .u64 (b : Int)] w (.bool (ltF a b)) := gives_of (V95.sound (cmp_vc (fun a _ => gives36 a) a b ltF))
theorem gives96 (a b : Nat) : Gives Try.prog 96 [.int .u64 (a : Int), .int .u64 (b : Int)] w (.bool (eqF a b)) := gives_of (V96.sound (cmp_vc (fun a _ => gives36 a) a b eqF))
def trF (a : Nat) : Bool := decide (rg a ≠ 0)
theorem eq_zero (a : Nat) : (double.order a 0 == some Ordering.eq) = decide (rg a = 0) := by
  rw [eq_order]
  have h0 : nanw 0 = false := by decide
  have h1 : sr 0 = 0 := by decide
  rw [h0, h1]
  by_cases h : nanw a = true
  · rw [h]
    have : ¬ rg a = 0 := by unfold nanw IR at h; simp at h; omega
    simp [this]
  · have h : nanw a = false := by simpa using h
    rw [h]
    simp only [Bool.not_false, Bool.true_and]
    refine decide_eq_decide.2 ?_
    unfold sr sgn
    split <;> omega
theorem gives68 (a : Nat) : Gives Try.prog 68 [.int .u64 (a : Int)] w (.bool (trF a)) := by
  refine gives_of (V68.sound ?_)
  unfold V68.vc
  refine call_gives (Below.refl _ _) (fun _ _ _ => gives36 a) fun w1 _ h1 => ⟨_, rfl, ret_is h1 (congrArg Value.bool ?_)⟩
  show (!(double.order a 0 == some Ordering.eq)) = _
  rw [eq_zero]; unfold trF
  by_cases h : rg a = 0 <;> simp [h]
end
end Go.Proofs.Ytidcpndlloppdaa

/-
  Layer 21, plain: the machine by lists: what it is, what one act does, what holds of it at any time.
  Conditions: none.
-/
set_option linter.unusedVariables false
set_option linter.unusedSimpArgs false
set_option maxRecDepth 20000
namespace Go.Proofs.Ytidcpndlloppdaa
def oddN (n : Int) : Nat := if n = 0 then NO else if n = 1 then 9218868437227405312 else if n = 2 then 18442240474082181120 else if n = 3 then SW else if n = 4 then 9218868437227405311 else 1
def bW (b : Bool) : Nat := if b = true then nw 1 else nw 0
def twoN (op : Int) (a b : Nat) : Nat :=
  if op = 5 then far .add a b else if op = 6 then far .sub a b else if op = 7 then far .mul a b else if op = 8 then far .quo a b else if op = 11 then mnF a b else if op = 12 then mxF a b
  else if op = 13 then bW (ltF a b) else bW (eqF a b)
structure Mach where
  first : Int
  begun : Bool
  ended : Bool
  parked : Bool
  refs : Int
  /-- the top one is ahead -/
  frames : List Frm
  trace : List Mk
def newM (f : Int) : Mach := ⟨f, false, false, false, 0, [], []⟩
def fnD (p : List Fnc) (f : Int) : Fnc := (fnAt p f).getD ⟨0, 0, 0, []⟩
def locM (n : Int) (args : List Int) : List Int := (args ++ List.replicate n.toNat 0).take n.toNat
def newF (p : List Fnc) (f : Int) (args : List Int) (dfd : Bool) : Frm := ⟨f, 0, 0, dfd, 0, [], locM (fnD p f).locals args, []⟩
def pushF (y : Frm) (ws : List Int) : Frm := { y with ops := y.ops ++ ws }
def insAt (g : Fnc) (pc : Int) : Ins := (g.code[pc.toNat]?).getD ⟨0, 0, 0⟩
def recvM (m : Mach) (y : Frm) (r : List Frm) : Mach := match r with
  | u :: r' => if y.dfd = true ∧ u.mode = 2 then { m with frames := pushF y [u.value, (nw 1 : Nat)] :: { u with mode := 1, value := (nw 0 : Nat) } :: r', trace := m.trace ++ [⟨2, u.value.toNat⟩] }
    else { m with frames := pushF y [(nw 0 : Nat), (nw 0 : Nat)] :: u :: r' }
  | [] => { m with frames := [pushF y [(nw 0 : Nat), (nw 0 : Nat)]] }
def simM (i : Ins) (l : List Int) (y : Frm) : Frm :=
  if i.op = 1 then pushF y [(nw i.a : Nat)]
  else if i.op = 2 then pushF y [(oddN i.a : Nat)]
  else if i.op = 3 then pushF y [y.locals.getD i.a.toNat 0]
  else if i.op = 4 then { y with locals := y.locals.set i.a.toNat (l.getD 0 0) }
  else if i.op = 9 then pushF y [(neF (l.getD 0 0).toNat : Nat)]
  else if i.op = 10 then pushF y [(flF (l.getD 0 0).toNat : Nat)]
  else if i.op = 15 then { y with pc := i.a }
  else if i.op = 16 then if trF (l.getD 0 0).toNat = true then { y with pc := i.a } else y
  else if i.op = 18 then { y with value := l.getD 0 0, mode := 1 }
  else if i.op = 20 then { y with value := l.getD 0 0, mode := 2 }
  else if i.op = 19 then if y.dfs.length = 4 then { y with value := (oddN 1 : Nat), mode := 2 } else { y with dfs := y.dfs ++ [⟨i.a, l⟩] }
  else if i.op = 27 then y
  else pushF y [(twoN i.op (l.getD 0 0).toNat (l.getD 1 0).toNat : Nat)]
def refAt (g : Fnc) (y : Frm) (k : Int) : Nat := y.locals.length - g.refs.toNat + k.toNat
def actM (p : List Fnc) (m : Mach) (g : Fnc) (i : Ins) (l : List Int) (y : Frm) (r : List Frm) : Mach :=
  if i.op = 17 then { m with frames := newF p i.a l false :: y :: r }
  else if i.op = 21 then recvM m y r
  else if i.op = 22 then { m with frames := y :: r, trace := m.trace ++ [⟨1, (l.getD 0 0).toNat⟩] }
  else if i.op = 23 then { m with frames := { y with locals := y.locals.set (refAt g y i.a) (m.refs + 1) } :: r, refs := m.refs + 1 }
  else if i.op = 24 then { m with frames := { y with locals := y.locals.set (refAt g y i.a) (y.locals.getD (refAt g y i.b) 0) } :: r }
  else if i.op = 25 then { m with frames := { y with locals := y.locals.set (refAt g y i.a) 0 } :: r }
  else if i.op = 26 then { m with frames := y :: r, parked := true }
  else { m with frames := simM i l y :: r }
def popN (p : List Fnc) (i : Ins) : Nat := (popsM p i.op i.a).toNat
def popF (p : List Fnc) (i : Ins) (x : Frm) : Frm := { x with pc := x.pc + 1, ops := x.ops.take (x.ops.length - popN p i) }
def popL (p : List Fnc) (i : Ins) (x : Frm) : List Int := x.ops.drop (x.ops.length - popN p i)
def runMach (p : List Fnc) (m : Mach) (x : Frm) (r : List Frm) : Mach :=
  actM p m (fnD p x.f) (insAt (fnD p x.f) x.pc) (popL p (insAt (fnD p x.f) x.pc) x) (popF p (insAt (fnD p x.f) x.pc) x) r
def leaveM (p : List Fnc) (m : Mach) (x : Frm) (r : List Frm) : Mach :=
  match x.dfs.getLast? with
  | some d => { m with frames := newF p d.f d.args true :: { x with dfs := x.dfs.dropLast } :: r }
  | none => match r with
    | [] => { m with frames := [], ended := true, trace := m.trace ++ [⟨if x.mode = 2 then 4 else 3, x.value.toNat⟩] }
    | u :: r' => if x.mode = 2 then { m with frames := { u with mode := 2, value := x.value } :: r' } else if x.dfd = true then { m with frames := u :: r' } else { m with frames := pushF u [x.value] :: r' }
def goM (p : List Fnc) (m : Mach) : Mach :=
  if m.begun = false then { m with begun := true, frames := newF p m.first [] false :: m.frames } else
  match m.frames with
  | [] => m
  | x :: r => if x.mode = 0 then runMach p m x r else leaveM p m x r
def stepM (p : List Fnc) (m : Mach) : Mach × Int := if m.ended = true then (m, 7) else if m.parked = true then (m, 8) else (goM p m, 0)
def wakeM (m : Mach) : Mach := { m with parked := false }
def refsF (p : List Fnc) (x : Frm) : List Int := (x.locals.drop (x.locals.length - (fnD p x.f).refs.toNat)).filter fun w => w != 0
def rootsM (p : List Fnc) (m : Mach) : List Int := m.frames.flatMap (refsF p)
structure Rt (p : List Fnc) : Prop where
  few : 1 ≤ p.length ∧ p.length ≤ 8
  sized : ∀ f ∈ p, sizedF f = true
  shaped : ∀ f ∈ p, ∀ x ∈ f.code, shapedI p.length f x = true
  flow : ∀ f ∈ p, ∃ d, depthsM p f.code = .inr d
theorem rt_of {p : List Fnc} (h : (checkM p).1 = 0) : Rt p := by
  unfold checkM at h
  split at h
  · simp at h
  rename_i hl
  split at h
  · simp at h
  rename_i hs
  split at h
  · simp at h
  rename_i hsh
  split at h
  · simp at h
  rename_i hf
  exact ⟨by omega, firstNot_all hs, shapesM_all hsh, flowsM_all hf⟩
theorem Rt.check {p : List Fnc} (h : Rt p) : checkM p = (0, 0, 0) := check_zero h.few.1 h.few.2 h.sized h.shaped h.flow
theorem Rt.fewP {p : List Fnc} (h : Rt p) : Few p := (check_ok (by rw [h.check])).1
theorem Rt.jmp {p : List Fnc} (h : Rt p) : ∀ f ∈ p, ∀ x ∈ f.code, x.op = 15 ∨ x.op = 16 → 0 ≤ x.a := (check_ok (by rw [h.check])).2.2.1
theorem fnAt_mem {p : List Fnc} {f : Int} {g : Fnc} (h : fnAt p f = some g) : g ∈ p ∧ 0 ≤ f ∧ p[f.toNat]? = some g ∧ f < (p.length : Int) := by
  unfold fnAt at h
  split at h
  · cases h
  · have := (List.getElem?_eq_some_iff.1 h).1
    exact ⟨List.mem_of_getElem? h, by omega, h, by omega⟩
theorem fnD_eq {p : List Fnc} {f : Int} {g : Fnc} (h : fnAt p f = some g) : fnD p f = g := by unfold fnD; rw [h]; rfl
theorem fnAt_in {p : List Fnc} {f : Int} (h0 : 0 ≤ f) (h1 : f < (p.length : Int)) : ∃ g, fnAt p f = some g := by
  refine ⟨p[f.toNat]'(by omega), ?_⟩
  unfold fnAt
  rw [if_neg (by omega)]
  exact List.getElem?_eq_getElem _
def depM (p : List Fnc) (f pc : Int) : Int := match depthsM p (fnD p f).code with
  | .inr d => d.getD pc.toNat 0
  | .inl _ => 0
theorem Rt.ins {p : List Fnc} (h : Rt p) {f : Int} {g : Fnc} (hg : fnAt p f = some g) {pc : Int} (h0 : 0 ≤ pc) (h1 : pc < (g.code.length : Int)) : g.code[pc.toNat]? = some (insAt g pc) ∧ insAt g pc ∈ g.code := by
  have : g.code[pc.toNat]? = some (g.code[pc.toNat]'(by omega)) := List.getElem?_eq_getElem _
  unfold insAt
  rw [this]
  exact ⟨rfl, List.getElem_mem _⟩
theorem Rt.steady {p : List Fnc} (h : Rt p) {f : Int} {g : Fnc} (hg : fnAt p f = some g) {pc : Int} (h0 : 0 ≤ pc) (h1 : pc < (g.code.length : Int)) (hd : 0 ≤ depM p f pc) :
    popsM p (insAt g pc).op (insAt g pc).a ≤ depM p f pc ∧ depM p f pc - popsM p (insAt g pc).op (insAt g pc).a + pushesI (insAt g pc).op ≤ 8 ∧
    ∀ t ∈ nextM pc.toNat (insAt g pc).op (insAt g pc).a, 0 ≤ t ∧ t < (g.code.length : Int) ∧ depM p f t = depM p f pc - popsM p (insAt g pc).op (insAt g pc).a + pushesI (insAt g pc).op := by
  obtain ⟨hm, hf0, _, _⟩ := fnAt_mem hg
  obtain ⟨d, hdd⟩ := h.flow g hm
  obtain ⟨h2, h3, h4⟩ := depths_still h.fewP (h.jmp g hm) hdd
  obtain ⟨hi, him⟩ := h.ins hg h0 h1
  unfold depM at hd ⊢
  rw [fnD_eq hg, hdd] at hd ⊢
  simp only at hd ⊢
  obtain ⟨k1, k2, k3⟩ := h2 pc.toNat _ hi hd
  refine ⟨k1, k2, fun t ht => ⟨?_, (k3 t ht).1, (k3 t ht).2⟩⟩
  unfold nextM at ht
  split at ht
  · cases ht
  split at ht
  · rename_i h15
    rw [List.mem_singleton] at ht; subst ht
    exact h.jmp g hm _ him (.inl h15)
  split at ht
  · rename_i h16
    rcases List.mem_cons.1 ht with rfl | ht
    · exact h.jmp g hm _ him (.inr h16)
    · rw [List.mem_singleton] at ht; omega
  · rw [List.mem_singleton] at ht; omega
theorem Rt.dep0 {p : List Fnc} (h : Rt p) {f : Int} {g : Fnc} (hg : fnAt p f = some g) : depM p f 0 = 0 ∧ 0 < (g.code.length : Int) := by
  obtain ⟨hm, hf0, _, _⟩ := fnAt_mem hg
  obtain ⟨d, hdd⟩ := h.flow g hm
  obtain ⟨h2, h3, h4⟩ := depths_still h.fewP (h.jmp g hm) hdd
  have hs := sized_bd (h.sized g hm)
  unfold depM
  rw [fnD_eq hg, hdd]
  exact ⟨h4 hs.2.2.2.2.2.2.1, by omega⟩
theorem Rt.dep_bd {p : List Fnc} (h : Rt p) {f : Int} {g : Fnc} (hg : fnAt p f = some g) (pc : Int) : -1 ≤ depM p f pc ∧ depM p f pc ≤ 8 := by
  obtain ⟨hm, hf0, _, _⟩ := fnAt_mem hg
  obtain ⟨d, hdd⟩ := h.flow g hm
  obtain ⟨h2, h3, h4⟩ := depths_still h.fewP (h.jmp g hm) hdd
  unfold depM
  rw [fnD_eq hg, hdd]
  simp only
  by_cases hl : pc.toNat < d.length
  · rw [List.getD, List.getElem?_eq_getElem hl]
    exact h3.2 _ (List.getElem_mem hl)
  · rw [List.getD, List.getElem?_eq_none (by omega)]; simp
end Go.Proofs.Ytidcpndlloppdaa
