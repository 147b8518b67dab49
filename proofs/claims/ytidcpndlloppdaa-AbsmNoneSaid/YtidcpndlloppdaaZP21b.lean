import Derived.Test.YtidcpndlloppdaaZP21
/-
  Layer 21, plain: what holds of the machine at any time is kept by each act.
  Conditions: the program is right.
-/
set_option linter.unusedVariables false
set_option linter.unusedSimpArgs false
set_option maxRecDepth 20000
namespace Go.Proofs.Ytidcpndlloppdaa
structure FrOk (p : List Fnc) (x : Frm) : Prop where
  may : mayM p x = true
  wd : FrmWd x
structure FrIn (p : List Fnc) (x : Frm) (g : Fnc) : Prop where
  fn : fnAt p x.f = some g
  pc : 0 ≤ x.pc ∧ x.pc ≤ (g.code.length : Int)
  mode : 0 ≤ x.mode ∧ x.mode ≤ 2
  locals : (x.locals.length : Int) = g.locals
  ops : x.ops.length ≤ 8
  room : x.dfs.length ≤ roomM g
  dfs : ∀ d ∈ x.dfs, dfrM p d = true
theorem FrOk.inn {p : List Fnc} {x : Frm} (h : FrOk p x) : ∃ g, FrIn p x g := by
  have hm := h.may
  unfold mayM at hm
  split at hm
  · rename_i g hg
    rw [Bool.and_eq_true, decide_eq_true_eq, List.all_eq_true] at hm
    obtain ⟨⟨h1, h2, h3, h4, h5, h6, h7⟩, h8⟩ := hm
    exact ⟨g, hg, ⟨h1, h2⟩, ⟨h3, h4⟩, h5, h6, h7, h8⟩
  · cases hm
theorem FrIn.ok {p : List Fnc} {x : Frm} {g : Fnc} (h : FrIn p x g) (hw : FrmWd x) : FrOk p x := by
  refine ⟨?_, hw⟩
  unfold mayM
  rw [h.fn]
  simp only
  rw [Bool.and_eq_true, decide_eq_true_eq, List.all_eq_true]
  exact ⟨⟨h.pc.1, h.pc.2, h.mode.1, h.mode.2, h.locals, h.ops, h.room⟩, h.dfs⟩
theorem FrIn.wrap {p : List Fnc} {x : Frm} {g : Fnc} (h : FrIn p x g) (hr : Rt p) : g ∈ p ∧ sizedF g = true := ⟨(fnAt_mem h.fn).1, hr.sized g (fnAt_mem h.fn).1⟩
theorem w64_nat (n : Nat) (h : n < 18446744073709551616) : 0 ≤ ((n : Nat) : Int) ∧ ((n : Nat) : Int) < 18446744073709551616 := by omega
theorem locM_len {n : Int} (h : 0 ≤ n) (args : List Int) : ((locM n args).length : Int) = n := by
  unfold locM
  rw [List.length_take, List.length_append, List.length_replicate]
  omega
theorem locM_wd {n : Int} {args : List Int} (h : Wd args) : Wd (locM n args) := fun x hx => by
  unfold locM at hx
  rcases List.mem_append.1 (List.mem_of_mem_take hx) with hx | hx
  · exact h x hx
  · rw [(List.mem_replicate.1 hx).2]; omega
theorem newF_in {p : List Fnc} (hr : Rt p) {f : Int} {g : Fnc} (hg : fnAt p f = some g) (args : List Int) (dfd : Bool) : FrIn p (newF p f args dfd) g := by
  have hs := sized_bd (hr.sized g (fnAt_mem hg).1)
  refine ⟨hg, ⟨by simp [newF], by simp [newF]⟩, ⟨by simp [newF], by simp [newF]⟩, ?_, by simp [newF], by simp [newF], fun d hd => by simp [newF] at hd⟩
  show ((locM (fnD p f).locals args).length : Int) = g.locals
  rw [fnD_eq hg]
  exact locM_len (by omega) _
theorem newF_ok {p : List Fnc} (hr : Rt p) {f : Int} {g : Fnc} (hg : fnAt p f = some g) {args : List Int} (ha : Wd args) (dfd : Bool) : FrOk p (newF p f args dfd) :=
  (newF_in hr hg args dfd).ok ⟨by simp [newF], locM_wd ha, fun x hx => by simp [newF] at hx, fun d hd => by simp [newF] at hd⟩
structure At (p : List Fnc) (x : Frm) (k : Int) : Prop where
  pc : x.pc < ((fnD p x.f).code.length : Int)
  dep : depM p x.f x.pc = (x.ops.length : Int) + k
def TopOk (p : List Fnc) (x : Frm) : Prop := x.mode = 0 → At p x 0
structure Und (p : List Fnc) (u v : Frm) : Prop where
  run : u.mode = 0 → v.dfd = false ∧ At p u 1
  not : u.mode ≠ 0 → v.dfd = true
def Chn (p : List Fnc) : List Frm → Prop
  | [] => True
  | [x] => x.dfd = false
  | v :: u :: r => Und p u v ∧ Chn p (u :: r)
structure MOk (p : List Fnc) (m : Mach) : Prop where
  frames : ∀ x ∈ m.frames, FrOk p x
  top : ∀ x r, m.frames = x :: r → TopOk p x
  chain : Chn p m.frames
  first : ∃ g, fnAt p m.first = some g ∧ g.params = 0
  fresh : m.begun = false → m.frames = [] ∧ m.trace = []
  gone : m.begun = true → (m.ended = true ↔ m.frames = [])
  goneB : m.ended = true → m.begun = true
  refs : 0 ≤ m.refs
structure Lim (m : Mach) (n : Nat) : Prop where
  refs : m.refs ≤ n
  frames : m.frames.length ≤ n
  trace : m.trace.length ≤ n
theorem Chn.top {p : List Fnc} {x y : Frm} {r : List Frm} (h : Chn p (x :: r)) (hd : y.dfd = x.dfd) : Chn p (y :: r) := by
  cases r with
  | nil => exact hd.trans h
  | cons u r => exact ⟨⟨fun h0 => by rw [hd]; exact h.1.run h0, fun h0 => by rw [hd]; exact h.1.not h0⟩, h.2⟩
theorem newM_ok {p : List Fnc} {f : Int} {g : Fnc} (hg : fnAt p f = some g) (h0 : g.params = 0) : MOk p (newM f) :=
  ⟨fun x hx => by simp [newM] at hx, fun x r h => by simp [newM] at h, trivial, ⟨g, hg, h0⟩, fun _ => ⟨rfl, rfl⟩, fun h => by simp [newM] at h, fun h => by simp [newM] at h, by simp [newM]⟩
structure InsIn (p : List Fnc) (g : Fnc) (i : Ins) (x : Frm) (n : Nat) : Prop where
  pops : popN p i = n
  enough : n ≤ x.ops.length
  after : (x.ops.length : Int) - n + pushesI i.op ≤ 8
  shape : shapedI p.length g i = true
  next : ∀ t ∈ nextM x.pc.toNat i.op i.a, 0 ≤ t ∧ t < (g.code.length : Int) ∧ depM p x.f t = (x.ops.length : Int) - n + pushesI i.op
theorem ins_in {p : List Fnc} (hr : Rt p) {x : Frm} {g : Fnc} (h : FrIn p x g) (ht : At p x 0) : InsIn p g (insAt g x.pc) x (popN p (insAt g x.pc)) ∧ insAt g x.pc ∈ g.code := by
  have hpc := ht.pc
  rw [fnD_eq h.fn] at hpc
  have hd := ht.dep
  rw [Int.add_zero] at hd
  obtain ⟨h1, h2⟩ := hr.ins h.fn h.pc.1 hpc
  obtain ⟨k1, k2, k3⟩ := hr.steady h.fn h.pc.1 hpc (by omega)
  have hb := popsM_bd hr.fewP (insAt g x.pc).op (insAt g x.pc).a
  refine ⟨⟨rfl, ?_, ?_, hr.shaped g (fnAt_mem h.fn).1 _ h2, fun t htn => ?_⟩, h2⟩
  · unfold popN; omega
  · unfold popN; omega
  · obtain ⟨a, b, c⟩ := k3 t htn
    refine ⟨a, b, ?_⟩
    unfold popN; omega
theorem pop_wd {p : List Fnc} {i : Ins} {x : Frm} (h : FrmWd x) : FrmWd (popF p i x) := ⟨h.value, h.locals, fun y hy => h.ops y (List.mem_of_mem_take hy), h.args⟩
theorem popL_wd {p : List Fnc} {i : Ins} {x : Frm} (h : FrmWd x) : Wd (popL p i x) := fun y hy => h.ops y (List.mem_of_mem_drop hy)
theorem popL_len {p : List Fnc} {i : Ins} {x : Frm} (h : popN p i ≤ x.ops.length) : (popL p i x).length = popN p i := by unfold popL; rw [List.length_drop]; omega
theorem popF_len {p : List Fnc} {i : Ins} {x : Frm} (h : popN p i ≤ x.ops.length) : (popF p i x).ops.length = x.ops.length - popN p i := by unfold popF; simp only; rw [List.length_take]; omega
theorem getD_wdM {xs : List Int} (h : Wd xs) (i : Nat) : 0 ≤ xs.getD i 0 ∧ xs.getD i 0 < 18446744073709551616 := by
  by_cases hi : i < xs.length
  · rw [List.getD, List.getElem?_eq_getElem hi]; exact h _ (List.getElem_mem hi)
  · rw [List.getD, List.getElem?_eq_none (by omega)]; simp
theorem FrmWd.push {y : Frm} (h : FrmWd y) {ws : List Int} (hw : Wd ws) : FrmWd (pushF y ws) := ⟨h.value, h.locals, fun x hx => by
  rcases List.mem_append.1 hx with hx | hx
  · exact h.ops x hx
  · exact hw x hx, h.args⟩
theorem wd_one {n : Nat} (h : n < 18446744073709551616) : Wd [((n : Nat) : Int)] := fun x hx => by rw [List.mem_singleton] at hx; subst hx; omega
theorem wd_one' {n : Int} (h : 0 ≤ n ∧ n < 18446744073709551616) : Wd [n] := fun x hx => by rw [List.mem_singleton] at hx; subst hx; exact h
theorem wd_two {a b : Int} (h : 0 ≤ a ∧ a < 18446744073709551616) (h' : 0 ≤ b ∧ b < 18446744073709551616) : Wd [a, b] := fun x hx => by
  rcases List.mem_cons.1 hx with rfl | hx
  · exact h
  · rw [List.mem_singleton] at hx; subst hx; exact h'
theorem Wd.setM {xs : List Int} (h : Wd xs) (i : Nat) {x : Int} (hx : 0 ≤ x ∧ x < 18446744073709551616) : Wd (xs.set i x) := fun y hy => by
  rcases List.mem_or_eq_of_mem_set hy with hy | rfl
  · exact h y hy
  · exact hx
end Go.Proofs.Ytidcpndlloppdaa
