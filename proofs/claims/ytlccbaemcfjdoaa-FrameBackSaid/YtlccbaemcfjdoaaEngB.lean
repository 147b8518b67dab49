/-
  Nothing of the program stands here: regions whose order is open; code; the proof of the predicate transformer against Calls (calls_wpf).
  Conditions: none.
-/
import Derived.Test.YtlccbaemcfjdoaaEng
set_option linter.unusedVariables false
set_option linter.unusedSimpArgs false
namespace Go.Proofs.Ytlccbaemcfjdoaa

/-! ### 13. A region whose order is open: by one order of the text, or some -/
def depsOf (o : Oper) : List Nat := (o.after.toList.filter fun e => Region.binds .any e).map fun e => e.on
def maskOf (ms : List (Nat × Nat)) (i : Nat) : Nat :=
  match look ms i with
  | some m => m
  | none => 0
def orAll (ms : List (Nat × Nat)) : List Nat → Option Nat
  | [] => some 0
  | d :: r => match look ms d with
    | some m => (orAll ms r).map fun x => (2 ^ d ||| m) ||| x
    | none => none
/-- Of each operation all those that come ahead of it, as bits; none, if the order is none. -/
def mkMasks (ops : Array Oper) : List Nat → List (Nat × Nat) → Option (List (Nat × Nat))
  | [], ms => some ms
  | i :: r, ms => match look ms i with
    | some _ => none
    | none => match ops[i]? with
      | none => none
      | some o => match orAll ms (depsOf o) with
        | some m => mkMasks ops r ((i, m) :: ms)
        | none => none
def pairsB (c : Cfg) (ops : Array Oper) (ms : List (Nat × Nat)) : List Nat → Option Nat → Bool
  | [], _ => true
  | i :: r, last => match ops[i]? with
    | none => false
    | some o => match Nat.beq (kindOf c o) 2 with
      | true => pairsB c ops ms r (some i)
      | false => (match last with
          | some l => (maskOf ms i).testBit l
          | none => true) && (r.all fun j => (maskOf ms j).testBit i || (match ops[j]? with
            | some oj => o.apart ops oj
            | none => false)) && pairsB c ops ms r last
def noSelB (ops : Array Oper) : Bool := ops.toList.all fun o => match o.op with
  | .select _ _ => false
  | _ => true
def orderB (c : Cfg) (ops : Array Oper) (ord : List Nat) : Bool :=
  match mkMasks ops ord [] with
  | some ms => ((List.range ops.size).all fun i => ord.contains i) && Nat.beq ord.length ops.size && pairsB c ops ms ord none && noSelB ops
  | none => false
def impB (c : Cfg) (ops : Array Oper) (i : Nat) : Bool :=
  match ops[i]? with
  | some o => Nat.beq (kindOf c o) 2
  | none => false
/-- All orders of what is not delayed. -/
def exts (ms : List (Nat × Nat)) : Nat → List Nat → List (List Nat)
  | 0, _ => [[]]
  | n + 1, S => match S with
    | [] => [[]]
    | _ :: _ => (S.filter fun i => S.all fun j => !(maskOf ms i).testBit j).flatMap fun i => (exts ms n (S.filter fun j => !Nat.beq j i)).map (i :: ·)
def coverB (c : Cfg) (ops : Array Oper) (L : List (List Nat)) : Bool :=
  match L with
  | [] => false
  | ord :: _ => match mkMasks ops ord [] with
    | some ms => (exts ms ord.length (ord.filter (impB c ops))).all fun p => L.any fun o => (o.filter (impB c ops)) == p
    | none => false

abbrev PM := List (Nat × List (Addr × Value))
abbrev PB := List (Nat × Nat)
def dropP {α : Type} (m : Nat) : List (Nat × α) → List (Nat × α)
  | [] => []
  | (i, x) :: r => match m.testBit i with
    | true => dropP m r
    | false => (i, x) :: dropP m r
def againL : List (Addr × Value) → World → Prop → Prop
  | [], _, K => K
  | (q, u) :: r, w, K => w.cell? q = some u ∧ againL r w K
def againP : PM → World → Prop → Prop
  | [], _, K => K
  | (_, l) :: r, w, K => againL l w (againP r w K)
def keyIn : PB → Nat → Bool
  | [], _ => false
  | (_, k) :: r, i => match Nat.beq i k with
    | true => true
    | false => keyIn r i
def freeB (o : Oper) (e : Env) (pb : PB) : Bool :=
  match o.op with
  | .store _ x _ => match ev e x with
    | some (.bx k _) => !keyIn pb k
    | _ => true
  | _ => true
def gdL (c : Cfg) (ops : Array Oper) (o : Oper) (e : Env) (b : Bxs) (w : World) (KL : Env → Value → List (Addr × Value) → Option Nat → Prop) (KS : Env → Prop) : Prop :=
  match o.op with
  | .load t x => match o.guard with
    | none => ldG c t x e b w (KL e)
    | some (j, want) => match guardSlot ops j with
      | some s => match look e s with
        | some (.v (.bool g)) => if g = want then ldG c t x ((s, .v (.bool want)) :: e) b w (KL ((s, .v (.bool want)) :: e)) else KS ((s, .v (.bool (!want))) :: e)
        | some (.v (.tuple ⟨[]⟩)) => KS e
        | _ => False
      | none => False
  | _ => False
def addB (i : Nat) (pb : Option Nat) (l : PB) : PB :=
  match pb with
  | some k => (i, k) :: l
  | none => l
def drawK (c : Cfg) (ops : Array Oper) (ms : List (Nat × Nat)) : List Nat → PM → PB → Env → Bxs → World → Kont → Prop
  | [], _, _, e, b, w, K => K e b w
  | i :: r, pm, pb, e, b, w, K => match ops[i]? with
    | none => False
    | some o => match kindOf c o with
      | 0 => gdK c ops o e b w fun e b w => drawK c ops ms r pm pb e b w K
      | 1 => gdL c ops o e b w (fun e v m k => putK c.n o.dst (.v v) e fun e => drawK c ops ms r ((i, m) :: pm) (addB i k pb) e b w K)
          (fun e => putK c.n o.dst (.v undef) e fun e => drawK c ops ms r pm pb e b w K)
      | _ => match freeB o e (dropP (maskOf ms i) pb) with
        | true => gdK c ops o e b w fun e b w => againP (dropP (maskOf ms i) pm) w (drawK c ops ms r (dropP (maskOf ms i) pm) (dropP (maskOf ms i) pb) e b w K)
        | false => False
/-- By all of some orders. -/
def drawL (c : Cfg) (ops : Array Oper) : List (List Nat) → Env → Bxs → World → Kont → Prop
  | [], _, _, _, _ => True
  | [ord], e, b, w, K => match mkMasks ops ord [] with
    | some ms => drawK c ops ms ord [] [] e b w K
    | none => False
  | ord :: o2 :: r, e, b, w, K => (match mkMasks ops ord [] with
    | some ms => drawK c ops ms ord [] [] e b w K
    | none => False) ∧ drawL c ops (o2 :: r) e b w K
def regionB (c : Cfg) (ops : Array Oper) (L : List (List Nat)) : Bool := L.all (orderB c ops) && coverB c ops L

inductive Before (ops : Array Oper) : Nat → Nat → Prop where
  | dep {i d : Nat} {o : Oper} : ops[i]? = some o → d ∈ depsOf o → Before ops d i
  | far {i d k : Nat} {o : Oper} : ops[i]? = some o → d ∈ depsOf o → Before ops k d → Before ops k i
theorem orAll_spec {ms : List (Nat × Nat)} : ∀ {l : List Nat} {m : Nat}, orAll ms l = some m → (∀ d ∈ l, ∃ md, look ms d = some md) ∧ ∀ k, m.testBit k = true → ∃ d ∈ l, k = d ∨ ∃ md, look ms d = some md ∧ md.testBit k = true
  | [], m, h => by
    cases h
    exact ⟨fun d hd => (by cases hd), fun k hk => by simp at hk⟩
  | d :: r, m, h => by
    unfold orAll at h
    split at h
    · rename_i md hd
      obtain ⟨x, hx, rfl⟩ := Option.map_eq_some_iff.1 h
      obtain ⟨h1, h2⟩ := orAll_spec hx
      refine ⟨fun d' hd' => ?_, fun k hk => ?_⟩
      · rcases List.mem_cons.1 hd' with rfl | hd'
        · exact ⟨md, hd⟩
        · exact h1 d' hd'
      · simp only [Nat.testBit_or, Bool.or_eq_true, Nat.testBit_two_pow] at hk
        rcases hk with (hk | hk) | hk
        · exact ⟨d, List.mem_cons_self, .inl (by simpa using (of_decide_eq_true hk).symm)⟩
        · exact ⟨d, List.mem_cons_self, .inr ⟨md, hd, hk⟩⟩
        · obtain ⟨d', hm, h3⟩ := h2 k hk
          exact ⟨d', List.mem_cons_of_mem _ hm, h3⟩
    · cases h
theorem mkMasks_spec {ops : Array Oper} : ∀ {r : List Nat} {ms0 ms : List (Nat × Nat)}, mkMasks ops r ms0 = some ms → (∀ i m, look ms0 i = some m → ∀ k, m.testBit k = true → Before ops k i) →
    (∀ i m, look ms i = some m → ∀ k, m.testBit k = true → Before ops k i) ∧ r.Nodup ∧ (∀ i ∈ r, look ms0 i = none) ∧
    ∀ pre i post, r = pre ++ i :: post → ∃ o, ops[i]? = some o ∧ ∀ d ∈ depsOf o, d ∈ pre ∨ ∃ m, look ms0 d = some m
  | [], ms0, ms, h, h0 => by
    cases h
    exact ⟨h0, List.nodup_nil, fun i hi => (by cases hi), fun pre i post hp => by simp at hp⟩
  | i :: r, ms0, ms, h, h0 => by
    unfold mkMasks at h
    split at h
    · cases h
    · rename_i hi
      split at h
      · cases h
      · rename_i o ho
        split at h
        · rename_i m hm
          obtain ⟨h1, h2⟩ := orAll_spec hm
          obtain ⟨h3, h4, h5, h6⟩ := mkMasks_spec h (by
            intro j mj hj k hk
            rw [look_cons] at hj
            split at hj
            · rename_i hji
              cases hj
              subst hji
              obtain ⟨d, hd, hkd⟩ := h2 k hk
              rcases hkd with rfl | ⟨md, hmd, hb⟩
              · exact .dep ho hd
              · exact .far ho hd (h0 d md hmd k hb)
            · exact h0 j mj hj k hk)
          refine ⟨h3, List.nodup_cons.2 ⟨fun hm => ?_, h4⟩, fun j hj => ?_, fun pre j post hp => ?_⟩
          · have := h5 i hm
            rw [look_cons, if_pos rfl] at this
            cases this
          · rcases List.mem_cons.1 hj with rfl | hj
            · exact hi
            · have := h5 j hj
              rw [look_cons] at this
              split at this
              · cases this
              · exact this
          · cases pre with
            | nil =>
              simp only [List.nil_append, List.cons.injEq] at hp
              obtain ⟨rfl, rfl⟩ := hp
              exact ⟨o, ho, fun d hd => .inr (h1 d hd)⟩
            | cons x pre =>
              simp only [List.cons_append, List.cons.injEq] at hp
              obtain ⟨rfl, hp⟩ := hp
              obtain ⟨o', ho', h7⟩ := h6 pre j post hp
              refine ⟨o', ho', fun d hd => ?_⟩
              rcases h7 d hd with h8 | ⟨m', h8⟩
              · exact .inl (List.mem_cons_of_mem _ h8)
              · rw [look_cons] at h8
                split at h8
                · rename_i hdi; subst hdi; exact .inl List.mem_cons_self
                · exact .inr ⟨m', h8⟩
        · cases h
/-- The last of these that is not delayed. -/
def lastImp (c : Cfg) (ops : Array Oper) : List Nat → Option Nat → Option Nat
  | [], l => l
  | i :: r, l => lastImp c ops r (if impB c ops i = true then some i else l)
theorem impB_of {c : Cfg} {ops : Array Oper} {i : Nat} {o : Oper} (ho : ops[i]? = some o) : impB c ops i = Nat.beq (kindOf c o) 2 := by unfold impB; rw [ho]
theorem pairsB_spec {c : Cfg} {ops : Array Oper} {ms : List (Nat × Nat)} : ∀ {l : List Nat} {last : Option Nat}, pairsB c ops ms l last = true → ∀ pre i post, l = pre ++ i :: post → ∀ o, ops[i]? = some o → impB c ops i = false →
    (∀ j ∈ post, (maskOf ms j).testBit i = true ∨ ∃ oj, ops[j]? = some oj ∧ o.apart ops oj = true) ∧ ∀ x, lastImp c ops pre last = some x → (maskOf ms i).testBit x = true
  | [], last, h, pre, i, post, hp, o, ho, hi => by simp at hp
  | j :: r, last, h, pre, i, post, hp, o, ho, hi => by
    unfold pairsB at h
    split at h
    · cases h
    · rename_i oj hoj
      have hb := impB_of (c := c) hoj
      cases pre with
      | nil =>
        simp only [List.nil_append, List.cons.injEq] at hp
        obtain ⟨rfl, rfl⟩ := hp
        rw [ho] at hoj
        cases hoj
        rw [← hb, hi] at h
        simp only [Bool.and_eq_true, List.all_eq_true, Bool.or_eq_true] at h
        refine ⟨fun k hk => ?_, fun x hx => ?_⟩
        · rcases h.1.2 k hk with h1 | h1
          · exact .inl h1
          · split at h1
            · rename_i ok hok; exact .inr ⟨ok, hok, h1⟩
            · cases h1
        · have h2 := h.1.1
          simp only [lastImp] at hx
          rw [hx] at h2
          exact h2
      | cons x pre =>
        simp only [List.cons_append, List.cons.injEq] at hp
        obtain ⟨rfl, hp⟩ := hp
        rw [← hb] at h
        cases hj : impB c ops j with
        | true =>
          rw [hj] at h
          have := pairsB_spec h pre i post hp o ho hi
          simp only [lastImp, hj, if_true]
          exact this
        | false =>
          rw [hj] at h
          simp only [Bool.and_eq_true] at h
          have := pairsB_spec h.2 pre i post hp o ho hi
          simp only [lastImp, hj, Bool.false_eq_true, if_false]
          exact this

structure DE where
  i : Nat
  o : Oper
  v : Value
  m : List (Addr × Value)
  k : Option (Nat × Bx)
def Cert (P : Program) (ops : Array Oper) (d : DE) (a : Act) : Prop :=
  (Region.wanted d.o (yielded ops a.tmps) = true ∧ ∀ W', Holds d.m d.k W' → (execOp a.eval d.o).run P W' = .ok (.value d.v) W') ∨ (Region.wanted d.o (yielded ops a.tmps) = false ∧ d.v = undef)
inductive Chain (P : Program) (ops : Array Oper) : List DE → Act → Act → Prop where
  | nil (a : Act) : Chain P ops [] a a
  | cons {d : DE} {r : List DE} {a a' : Act} : Cert P ops d a → Chain P ops r (a.put d.o.dst d.v) a' → Chain P ops (d :: r) a a'
theorem noSel_of {ops : Array Oper} (h : noSelB ops = true) {i : Nat} {o : Oper} (ho : ops[i]? = some o) : ∀ cs x, o.op ≠ .select cs x := fun cs x he => by
  unfold noSelB at h
  have hm : o ∈ ops.toList := by
    obtain ⟨hlt, rfl⟩ := Array.getElem?_eq_some_iff.1 ho
    simp
  have := List.all_eq_true.1 h o hm
  rw [he] at this
  cases this
theorem cert_same {P : Program} {ops : Array Oper} {d : DE} {a a' : Act} (h : Cert P ops d a) (he : execOp a'.eval d.o = execOp a.eval d.o) (hw : Region.wanted d.o (yielded ops a'.tmps) = Region.wanted d.o (yielded ops a.tmps)) : Cert P ops d a' := by
  unfold Cert at *
  rw [he, hw]
  exact h
theorem cert_put {P : Program} {ops : Array Oper} {d : DE} {a : Act} {dst : Option Tmp} {v : Value} (hs : ∀ cs x, d.o.op ≠ .select cs x) (hd : ∀ t, dst = some t → t ∉ d.o.looksAt ops) : Cert P ops d (a.put dst v) ↔ Cert P ops d a := by
  unfold Cert
  rw [execOp_put d.o hs a dst v hd, wanted_put d.o a dst v hd]
theorem chain_snoc {P : Program} {ops : Array Oper} {d : DE} : ∀ {D : List DE} {a ac : Act}, Chain P ops D a ac → Cert P ops d ac → Chain P ops (D ++ [d]) a (ac.put d.o.dst d.v)
  | [], a, ac, h, hc => by
    cases h
    exact .cons hc (.nil _)
  | x :: r, a, ac, h, hc => by
    cases h with
    | cons h1 h2 => exact .cons h1 (chain_snoc h2 hc)
theorem chain_take {P : Program} {ops : Array Oper} {d : DE} {D2 : List DE} (hsd : ∀ cs x, d.o.op ≠ .select cs x) : ∀ {D1 : List DE} {a ac : Act}, Chain P ops (D1 ++ d :: D2) a ac → (∀ x ∈ D1, x.o.apart ops d.o = true ∧ ∀ cs z, x.o.op ≠ .select cs z) →
    Cert P ops d a ∧ Chain P ops (D1 ++ D2) (a.put d.o.dst d.v) ac
  | [], a, ac, h, ha => by
    cases h with
    | cons h1 h2 => exact ⟨h1, h2⟩
  | x :: r, a, ac, h, ha => by
    cases h with
    | cons h1 h2 =>
      obtain ⟨h3, h4⟩ := chain_take hsd h2 (fun y hy => ha y (List.mem_cons_of_mem _ hy))
      obtain ⟨hap, hsx⟩ := ha x List.mem_cons_self
      obtain ⟨q1, q2, q3⟩ := Oper.apart_spec hap
      refine ⟨(cert_put hsd q1).1 h3, .cons ((cert_put hsx q3).2 h1) ?_⟩
      rw [← Act.put_comm a _ _ q2]
      exact h4
/-- What is done at a frame in which a delayed value stands is done where it doesn't yet. -/
theorem wpOp_put2 {P : Program} {ops : Array Oper} {Q : Exit → Act → World → Prop} {j : Nat} {d : DE} {oj : Oper} (hj : ops[j]? = some oj) (hap : d.o.apart ops oj = true) (hsi : ∀ cs b, d.o.op ≠ .select cs b) (hsj : ∀ cs b, oj.op ≠ .select cs b)
    (hQ : ∀ c a w, ¬ Q (.panic c) a w) {K : Act → World → Prop} {a : Act} {w : World} (hy : Cert P ops d a) (h : wpOp P ops Q j K (a.put d.o.dst d.v) w) :
    wpOp P ops Q j (fun a' w' => Cert P ops d a' ∧ K (a'.put d.o.dst d.v) w') a w := by
  obtain ⟨h1, h2, h3⟩ := Oper.apart_spec hap
  have keep : ∀ (a : Act), Cert P ops d a → ∀ u, Cert P ops d (a.put oj.dst u) := fun a hy u => (cert_put hsi h3).2 hy
  have keepD : ∀ x, Cert P ops d { a with defers := x :: a.defers } := fun x => cert_same hy rfl rfl
  unfold wpOp at *
  simp only [hj] at *
  rw [wanted_put oj a d.o.dst d.v h1] at h
  split
  · rename_i hw
    simp only [hw, if_true] at h
    rcases h with h | ⟨hasks, hlets⟩
    case inr => exact .inr ⟨by unfold Oper.asks at *; rw [execOp_put oj hsj a d.o.dst d.v h1] at hasks; exact hasks, hlets⟩
    refine .inl ?_
    unfold Oper.wp at *
    rw [execOp_put oj hsj a d.o.dst d.v h1] at h
    generalize (execOp a.eval oj).run P w = r at *
    cases r with
    | ok n w' =>
      cases n <;> simp only [Oper.upon] at h ⊢
      case value u => exact ⟨keep a hy u, by rw [← Act.put_comm a d.v u h2]; exact h⟩
      case skip => exact ⟨keep a hy _, by rw [← Act.put_comm a d.v undef h2]; exact h⟩
      case defer x =>
        refine ⟨keep _ (keepD x) _, ?_⟩
        rw [← Act.put_comm _ d.v undef h2, ← Act.put_defers]
        exact h
      case enter f args =>
        refine Calls.mono h fun e w'' he => ?_
        cases e with
        | returned u => exact ⟨keep a hy u, by rw [← Act.put_comm a d.v u h2]; exact he⟩
        | panicked c => exact absurd he (hQ _ _ _)
        | outgrown => exact he
      case row row args => exact Rows.mono h fun u w'' he => ⟨keep a hy u, by rw [← Act.put_comm a d.v u h2]; exact he⟩
    | halt x w' =>
      cases x <;> simp only [Oper.upon] at h ⊢
      case panic u => exact absurd h (hQ _ _ _)
  · rename_i hw
    simp only [hw] at h
    exact ⟨keep a hy _, by rw [← Act.put_comm a d.v undef h2]; exact h⟩
theorem wpOp_chain {P : Program} {ops : Array Oper} {Q : Exit → Act → World → Prop} {j : Nat} {oj : Oper} (hj : ops[j]? = some oj) (hsj : ∀ cs b, oj.op ≠ .select cs b) (hQ : ∀ c a w, ¬ Q (.panic c) a w) {w : World} :
    ∀ {D : List DE} {a ac : Act} {K : Act → World → Prop}, Chain P ops D a ac → (∀ d ∈ D, d.o.apart ops oj = true ∧ ∀ cs b, d.o.op ≠ .select cs b) → wpOp P ops Q j K ac w → wpOp P ops Q j (fun a' w' => ∃ ac', Chain P ops D a' ac' ∧ K ac' w') a w
  | [], a, ac, K, hc, ha, h => by
    cases hc
    exact wpOp_mono (fun a w hk => ⟨a, .nil a, hk⟩) h
  | d :: r, a, ac, K, hc, ha, h => by
    cases hc with
    | cons h1 h2 =>
      have h3 := wpOp_chain hj hsj hQ h2 (fun x hx => ha x (List.mem_cons_of_mem _ hx)) h
      have h4 := wpOp_put2 hj (ha d List.mem_cons_self).1 (ha d List.mem_cons_self).2 hsj hQ h1 h3
      refine wpOp_mono (fun a' w' hk => ?_) h4
      obtain ⟨hC, ac', h5, h6⟩ := hk
      exact ⟨ac', .cons hC h5, h6⟩

/-- Is the local variable k not what a store stores into? -/
def KeyFree (o : Oper) (e : Env) (k : Nat) : Prop := ∀ t x y, o.op = .store t x y → ∀ k0 off, ev e x = some (.bx k0 off) → k ≠ k0
def KeepF (o : Oper) (e : Env) (b b' : Bxs) : Prop := ∀ k z, look b k = some z → KeyFree o e k → look b' k = some z
theorem keepF_refl (o : Oper) (e : Env) (b : Bxs) : KeepF o e b b := fun _ _ h _ => h
theorem storeK_mono {a : Addr} : ∀ {l : List Value} {i : Nat} {w : World} {K K' : World → Prop}, (∀ w, K w → K' w) → storeK w a l i K → storeK w a l i K'
  | [], i, w, K, K', hk, h => hk _ h
  | v :: r, i, w, K, K', hk, h => by
    unfold storeK at *
    cases hv : isCell v with
    | false => simp [hv] at h
    | true =>
      simp only [hv, if_true] at h ⊢
      exact ⟨h.1, h.2.1, storeK_mono hk h.2.2⟩
theorem withV_mono {e : Env} {x : Operand} {K K' : Value → Prop} (hk : ∀ v, ev e x = some (.v v) → K v → K' v) (h : withV e x K) : withV e x K' := by
  unfold withV at *
  cases hx : ev e x with
  | none => rw [hx] at h; exact h.elim
  | some sv =>
    cases sv with
    | v v => rw [hx] at h; exact hk v hx h
    | bx k off => rw [hx] at h; exact h.elim
theorem stK_fix {c : Cfg} {o : Oper} {t : TypeId} {x y : Operand} {e e0 : Env} {b : Bxs} {w : World} {K : Kont} (ho : o.op = .store t x y) (he : ∀ k off, ev e x = some (.bx k off) → ev e0 x = some (.bx k off)) (h : stK c o t x y e b w K) :
    stK c o t x y e b w fun e b' w => KeepF o e0 b b' ∧ K e b' w := by
  unfold stK at *
  cases hd : o.dst with
  | some d => rw [hd] at h; exact h.elim
  | none =>
    rw [hd] at h
    cases hi : c.P.info? t with
    | none => rw [hi] at h; exact h.elim
    | some i =>
      simp only [hi] at h ⊢
      refine withV_mono (fun v hv h => ?_) h
      cases hl : Nat.beq (cellsOfV v).length i.size with
      | false => simp only [hl] at h
      | true =>
        simp only [hl] at h ⊢
        cases hx : ev e x with
        | none => simp only [hx] at h
        | some sv =>
          simp only [hx] at h ⊢
          cases sv with
          | bx k off =>
            simp only at h ⊢
            cases hb : look b k with
            | none => simp only [hb] at h
            | some bx =>
              simp only [hb] at h ⊢
              cases hle : Nat.ble (off + i.size) bx.cells.length with
              | false => simp only [hle] at h
              | true =>
                simp only [hle] at h ⊢
                cases hall : (cellsOfV v).all isCell with
                | false => simp only [hall] at h
                | true =>
                  simp only [hall, forceL_iff] at h ⊢
                  refine ⟨fun k' z hz hf => ?_, h⟩
                  have hne : k' ≠ k := hf t x y ho k off (he k off hx)
                  rw [look_setB, hz]
                  simp [hne]
          | v u =>
            cases u with
            | pointer p =>
              cases p with
              | none => exact h.elim
              | some p => exact storeK_mono (fun w hK => ⟨keepF_refl o e0 b, hK⟩) h
            | _ => exact h.elim
theorem keeps_keepF {o : Oper} {e : Env} {b b' : Bxs} (h : Keeps b b') : KeepF o e b b' := fun k z hz _ => h k z hz
theorem opK_mono_keeps {c : Cfg} {o : Oper} {e e0 : Env} {b : Bxs} {w : World} {K : Kont} (he : ∀ x k off, ev e x = some (.bx k off) → ev e0 x = some (.bx k off)) (h : opK c o e b w K) : opK c o e b w fun e b' w => KeepF o e0 b b' ∧ K e b' w := by
  by_cases h1 : ∃ t x y, o.op = .store t x y
  · obtain ⟨t, x, y, ho⟩ := h1
    unfold opK at *
    rw [ho] at h ⊢
    exact stK_fix ho (he x) h
  · by_cases h2 : ∃ t, o.op = .alloc t
    · obtain ⟨t, ho⟩ := h2
      unfold opK at *
      rw [ho] at h ⊢
      simp only at h ⊢
      unfold zeroK at *
      cases hi : c.P.info? t with
      | none => simp only [hi] at h
      | some i =>
        cases hv : i.zero with
        | none => simp only [hi, hv] at h
        | some v =>
          simp only [hi, hv] at h ⊢
          have h3 := newK_fix h
          unfold newK at h3 ⊢
          cases hd : o.dst with
          | none => rw [hd] at h3; exact h3.elim
          | some d =>
            rw [hd] at h3
            cases hr : hasN c.real d with
            | true =>
              simp only [hr, forceL_iff] at h3 ⊢
              intro w1 q1 q2
              have h4 := h3 w1 q1 q2
              exact hide_mono (fun w2 h5 => putK_mono (fun e hK => ⟨keeps_keepF hK.1, hK.2⟩) h5) h4
            | false =>
              cases hl : look b d with
              | none =>
                simp only [hr, hl, forceL_iff] at h3 ⊢
                exact fun q hq => putK_mono (fun e hK => ⟨keeps_keepF hK.1, hK.2⟩) (h3 q hq)
              | some z => simp only [hr, hl] at h3
    · by_cases h3 : ∃ t x, o.op = .box t x
      · obtain ⟨t, x, ho⟩ := h3
        unfold opK at *
        rw [ho] at h ⊢
        simp only at h ⊢
        refine withV_mono (fun v hv h => ?_) h
        · have h3 := newK_fix h
          unfold newK at h3 ⊢
          cases hd : o.dst with
          | none => rw [hd] at h3; exact h3.elim
          | some d =>
            rw [hd] at h3
            cases hr : hasN c.real d with
            | true =>
              simp only [hr, forceL_iff] at h3 ⊢
              intro w1 q1 q2
              have h4 := h3 w1 q1 q2
              exact hide_mono (fun w2 h5 => putK_mono (fun e hK => ⟨keeps_keepF hK.1, hK.2⟩) h5) h4
            | false =>
              cases hl : look b d with
              | none =>
                simp only [hr, hl, forceL_iff] at h3 ⊢
                exact fun q hq => putK_mono (fun e hK => ⟨keeps_keepF hK.1, hK.2⟩) (h3 q hq)
              | some z => simp only [hr, hl] at h3
      · have h4 := opK_fix (fun t x y ho => h1 ⟨t, x, y, ho⟩) (fun t ho => h2 ⟨t, ho⟩) (fun t x ho => h3 ⟨t, x, ho⟩) h
        have e1 : ∀ K' : Kont, opK c o e b w K' = opK c o e b w fun e _ w => K' e b w := by
          intro K'
          unfold opK
          split <;> first | rfl | skip
          · rename_i ho; exact absurd ⟨_, _, _, ho⟩ h1
          · rename_i ho; exact absurd ⟨_, ho⟩ h2
          · rename_i ho; exact absurd ⟨_, _, ho⟩ h3
        rw [e1] at h ⊢
        have e3 : (fun (e : Env) (_ : Bxs) (w : World) => KeepF o e0 b b ∧ K e b w) = fun e _ w => K e b w := by
          funext e b' w
          simp only [eq_iff_iff, and_iff_right_iff_imp]
          exact fun _ => keepF_refl o e0 b
        rw [e3]
        exact h
theorem gdK_fix {c : Cfg} {ops : Array Oper} {o : Oper} {e : Env} {b : Bxs} {w : World} {K : Kont} (h : gdK c ops o e b w K) : gdK c ops o e b w fun e' b' w => KeepF o e b b' ∧ K e' b' w := by
  unfold gdK at *
  split at h
  · rename_i hg
    exact opK_mono_keeps (fun x k off h => h) h
  · rename_i j want hg
    cases ht : guardSlot ops j with
    | none => rw [ht] at h; exact h.elim
    | some t =>
      rw [ht] at h
      simp only at h ⊢
      cases hl : look e t with
      | none => rw [hl] at h; exact h.elim
      | some sv =>
        rw [hl] at h
        have hbool : (∃ g, sv = .v (.bool g)) ∨ sv = .v (.tuple ⟨[]⟩) := by
          cases sv with
          | bx k off => exact h.elim
          | v u => cases u with
            | bool g => exact .inl ⟨g, rfl⟩
            | tuple l => obtain ⟨l⟩ := l; cases l with
              | nil => exact .inr rfl
              | cons _ _ => exact h.elim
            | _ => exact h.elim
        rcases hbool with ⟨g, rfl⟩ | rfl
        case inr => exact putK_mono (fun e' hK => ⟨keepF_refl o e b, hK⟩) h
        simp only at h ⊢
        have he : ∀ (x : Operand) (k off : Nat) (u : Bool), ev ((t, .v (.bool u)) :: e) x = some (.bx k off) → ev e x = some (.bx k off) := by
          intro x k off u hx
          cases x with
          | tmp i =>
            simp only [ev, look_cons] at hx ⊢
            split at hx
            · cases hx
            · exact hx
          | _ => simp [ev] at hx
        split at h
        · rename_i hgw
          rw [if_pos hgw]
          exact opK_mono_keeps (fun x k off h => he x k off _ h) h
        · rename_i hgw
          rw [if_neg hgw]
          exact putK_mono (fun e' hK => ⟨keepF_refl o e b, hK⟩) h

def Live (d : DE) (b : Bxs) (w : World) (pm : PM) (pb : PB) : Prop :=
  (∀ q u, (q, u) ∈ d.m → w.cell? q = some u) ∧ (∀ k x, d.k = some (k, x) → look b k = some x ∧ (d.i, k) ∈ pb) ∧ (d.m = [] ∨ (d.i, d.m) ∈ pm)
structure Inv (c : Cfg) (ops : Array Oper) (ms : List (Nat × Nat)) (ord : List Nat) (K : Kont) (listed : Array Bool) (D : List DE) (cr : List Nat) (pm : PM) (pb : PB) (e : Env) (b : Bxs) (w : World) (a ac : Act) (W : World) : Prop where
  suf : ∃ pre, ord = pre ++ cr ∧ List.Sublist (D.map (·.i)) pre
  unl : ∀ i, listed.getD i true = false ↔ i ∈ D.map (·.i) ∨ i ∈ cr
  closed : ∀ i o, ops[i]? = some o → listed.getD i false = true → ∀ d ∈ depsOf o, listed.getD d false = true
  chain : Chain c.P ops D a ac
  rep : Rep c.n e b w ac W
  vc : drawK c ops ms cr pm pb e b w K
  live : ∀ d ∈ D, Live d b w pm pb
  dop : ∀ d ∈ D, ops[d.i]? = some d.o ∧ impB c ops d.i = false
  sz : listed.size = ops.size
/-- What is asked once of an order. -/
structure OrdOk (c : Cfg) (ops : Array Oper) (ms : List (Nat × Nat)) (ord : List Nat) : Prop where
  masks : ∀ i k, (maskOf ms i).testBit k = true → Before ops k i
  nodup : ord.Nodup
  deps : ∀ pre i post, ord = pre ++ i :: post → ∃ o, ops[i]? = some o ∧ ∀ d ∈ depsOf o, d ∈ pre
  pairs : ∀ pre i post, ord = pre ++ i :: post → ∀ o, ops[i]? = some o → impB c ops i = false →
    (∀ j ∈ post, (maskOf ms j).testBit i = true ∨ ∃ oj, ops[j]? = some oj ∧ o.apart ops oj = true) ∧ ∀ x, lastImp c ops pre none = some x → (maskOf ms i).testBit x = true
  nosel : ∀ (i : Nat) (o : Oper), ops[i]? = some o → ∀ (cs : Array SelectCase) (x : Bool), o.op ≠ Op.select cs x
  all : ord.length = ops.size
  mem : ∀ i, i < ops.size → i ∈ ord
theorem ordOk_of {c : Cfg} {ops : Array Oper} {ord : List Nat} (h : orderB c ops ord = true) : ∃ ms, mkMasks ops ord [] = some ms ∧ OrdOk c ops ms ord := by
  unfold orderB at h
  cases hm : mkMasks ops ord [] with
  | none => rw [hm] at h; cases h
  | some ms =>
    rw [hm] at h
    simp only [Bool.and_eq_true] at h
    obtain ⟨h1, h2, h3, h4⟩ := mkMasks_spec hm (fun i m hi => by simp [look] at hi)
    refine ⟨ms, rfl, fun i k hk => ?_, h2, fun pre i post hp => ?_, fun pre i post hp o ho hi => pairsB_spec h.1.2 pre i post hp o ho hi, fun i o ho => noSel_of h.2 ho, Nat.eq_of_beq_eq_true h.1.1.2, fun i hi => by simpa using List.all_eq_true.1 h.1.1.1 i (List.mem_range.2 hi)⟩
    · unfold maskOf at hk
      cases hl : look ms i with
      | none => rw [hl] at hk; simp at hk
      | some m => rw [hl] at hk; exact h1 i m hl k hk
    · obtain ⟨o, ho, h5⟩ := h4 pre i post hp
      refine ⟨o, ho, fun d hd => ?_⟩
      rcases h5 d hd with h6 | ⟨m, h6⟩
      · exact h6
      · simp [look] at h6
theorem before_listed {ops : Array Oper} {listed : Array Bool} (hc : ∀ i o, ops[i]? = some o → listed.getD i false = true → ∀ d ∈ depsOf o, listed.getD d false = true) {k i : Nat} (h : Before ops k i)
    (hi : ∃ o, ops[i]? = some o ∧ ∀ d ∈ depsOf o, listed.getD d false = true) : listed.getD k false = true := by
  induction h with
  | dep ho hd =>
    obtain ⟨o, ho', h⟩ := hi
    rw [ho] at ho'
    cases ho'
    exact h _ hd
  | @far i d k o ho hd hb ih =>
    obtain ⟨o', ho', h⟩ := hi
    rw [ho] at ho'
    cases ho'
    have hd' := h _ hd
    cases hb with
    | dep ho2 hd2 => exact hc _ _ ho2 hd' _ hd2
    | far ho2 hd2 hb2 => exact ih ⟨_, ho2, fun x hx => hc _ _ ho2 hd' x hx⟩
theorem ready_deps {ops : Array Oper} {listed : Array Bool} {i : Nat} (h : i ∈ Region.ready .any ops listed) : listed.getD i true = false ∧ ∃ o, ops[i]? = some o ∧ ∀ d ∈ depsOf o, listed.getD d false = true := by
  obtain ⟨h0, o, ho, h1⟩ := mem_ready.1 h
  refine ⟨h0, o, ho, fun d hd => ?_⟩
  unfold depsOf at hd
  obtain ⟨e, he, rfl⟩ := List.mem_map.1 hd
  rw [List.mem_filter] at he
  exact h1 e (by simpa using he.1) he.2
theorem unl_not {listed : Array Bool} {i : Nat} (h : listed.getD i true = false) : ¬ listed.getD i false = true := by
  intro h2
  cases hx : listed[i]? with
  | none => simp [hx] at h
  | some x => simp [hx] at h h2; rw [h] at h2; cases h2
/-- A value at the head of what is left is reckoned ahead of its time. -/
theorem inv_step {c : Cfg} (hc : CfgOk c) {ops : Array Oper} {ms : List (Nat × Nat)} {ord : List Nat} (hO : OrdOk c ops ms ord) {K : Kont} {listed : Array Bool} {D : List DE} {i : Nat} {r : List Nat} {pm : PM} {pb : PB} {e : Env} {b : Bxs} {w : World} {a ac : Act} {W : World}
    (h : Inv c ops ms ord K listed D (i :: r) pm pb e b w a ac W) (hi : impB c ops i = false) : ∃ d pm' pb' e' ac', d.i = i ∧ Inv c ops ms ord K listed (D ++ [d]) r pm' pb' e' b w a ac' W := by
  obtain ⟨pre, hpre, hsub⟩ := h.suf
  obtain ⟨o, ho, hdeps⟩ := hO.deps pre i r hpre
  have hvc := h.vc
  unfold drawK at hvc
  rw [ho] at hvc
  simp only at hvc
  have hk2 := impB_of (c := c) ho
  rw [hi] at hk2
  have mk : ∀ (d : DE) (pm' : PM) (pb' : PB) (e' : Env) (ac' : Act), d.i = i → d.o = o → Cert c.P ops d ac → ac' = ac.put d.o.dst d.v → Rep c.n e' b w ac' W → drawK c ops ms r pm' pb' e' b w K → (∀ x, x ∈ pm → x ∈ pm') → (∀ x, x ∈ pb → x ∈ pb') → Live d b w pm' pb' →
      Inv c ops ms ord K listed (D ++ [d]) r pm' pb' e' b w a ac' W := by
    intro d pm' pb' e' ac' hdi hdo hC hac hR hv hpm hpb hL
    subst hac
    refine ⟨⟨pre ++ [i], by rw [hpre]; simp, ?_⟩, fun j => ?_, h.closed, chain_snoc h.chain hC, hR, hv, fun x hx => ?_, fun x hx => ?_, h.sz⟩
    · rw [List.map_append, List.map_cons, List.map_nil, hdi]
      exact List.Sublist.append hsub (List.Sublist.refl _)
    · rw [h.unl j, List.map_append, List.map_cons, List.map_nil, hdi]
      simp only [List.mem_append, List.mem_cons, List.not_mem_nil, or_false]
      constructor
      · rintro (h1 | h1 | h1)
        · exact .inl (.inl h1)
        · exact .inl (.inr h1)
        · exact .inr h1
      · rintro ((h1 | h1) | h1)
        · exact .inl h1
        · exact .inr (.inl h1)
        · exact .inr (.inr h1)
    · rcases List.mem_append.1 hx with hx | hx
      · obtain ⟨q1, q2, q3⟩ := h.live x hx
        exact ⟨q1, fun k y hk => ⟨(q2 k y hk).1, hpb _ (q2 k y hk).2⟩, q3.imp id (hpm _)⟩
      · rw [List.mem_singleton] at hx; subst hx; exact hL
    · rcases List.mem_append.1 hx with hx | hx
      · exact h.dop x hx
      · rw [List.mem_singleton] at hx; subst hx; rw [hdi, hdo]; exact ⟨ho, hi⟩
  have wantedG : ∀ {j want s g}, o.guard = some (j, want) → guardSlot ops j = some s → look e s = some (.v (.bool g)) → yielded ops ac.tmps j = some g := by
    intro j want s g hg hs hl
    have hv : ac.tmps.getD s undef = .bool g := by
      have := h.rep.slots s _ hl
      simpa [den] using this.symm
    exact yielded_slot hs hv
  have wantedN : ∀ {j want s}, o.guard = some (j, want) → guardSlot ops j = some s → look e s = some (.v (.tuple ⟨[]⟩)) → Region.wanted o (yielded ops ac.tmps) = false := by
    intro j want s hg hs hl
    have hv : ac.tmps.getD s undef = .tuple ⟨[]⟩ := by
      have := h.rep.slots s _ hl
      simpa [den] using this.symm
    unfold Region.wanted
    rw [hg]
    simp [yielded_none hs hv]
  have repG : ∀ {s g}, look e s = some (.v (.bool g)) → Rep c.n ((s, .v (.bool g)) :: e) b w ac W := by
    intro s g hl
    have hv : ac.tmps.getD s undef = .bool g := by
      have := h.rep.slots s _ hl
      simpa [den] using this.symm
    refine ⟨h.rep.size, h.rep.nodef, fun i sv hi => ?_, h.rep.pad, h.rep.base, h.rep.lo, h.rep.boxes, h.rep.hid, h.rep.keys, h.rep.apart⟩
    rw [look_cons] at hi
    split at hi
    · rename_i hit; cases hi; subst hit; simp [den, ← hv]
    · exact h.rep.slots i sv hi
  have skip : ∀ {e1 : Env} {F : Env → Prop}, Rep c.n e1 b w ac W → Region.wanted o (yielded ops ac.tmps) = false → putK c.n o.dst (.v undef) e1 F → (∀ e', F e' → drawK c ops ms r pm pb e' b w K) →
      ∃ d pm' pb' e' ac', d.i = i ∧ Inv c ops ms ord K listed (D ++ [d]) r pm' pb' e' b w a ac' W := by
    intro e1 F hR hw hp hF
    obtain ⟨e', hK, hR'⟩ := hR.putK (sv := .v undef) rfl hp
    exact ⟨⟨i, o, undef, [], none⟩, pm, pb, e', ac.put o.dst undef, rfl, mk _ _ _ _ _ rfl rfl (.inr ⟨hw, rfl⟩) rfl hR' (hF e' hK) (fun _ h => h) (fun _ h => h) ⟨fun q u hm => (by cases hm), fun k x hk => (by cases hk), .inl rfl⟩⟩
  split at hvc
  · rename_i hk0
    have pureD : ∀ {e1 : Env} {G : Kont}, Rep c.n e1 b w ac W → Region.wanted o (yielded ops ac.tmps) = true → opK c o e1 b w G → (∀ e', G e' b w → drawK c ops ms r pm pb e' b w K) →
        ∃ d pm' pb' e' ac', d.i = i ∧ Inv c ops ms ord K listed (D ++ [d]) r pm' pb' e' b w a ac' W := by
      intro e1 G hR hw hop hG
      obtain ⟨v, e', hr, hK, hR'⟩ := opK_val hc hk0 hR hop
      exact ⟨⟨i, o, v, [], none⟩, pm, pb, e', ac.put o.dst v, rfl, mk _ _ _ _ _ rfl rfl (.inl ⟨hw, fun W' _ => hr W'⟩) rfl hR' (hG e' hK) (fun _ h => h) (fun _ h => h) ⟨fun q u hm => (by cases hm), fun k x hk => (by cases hk), .inl rfl⟩⟩
    unfold gdK at hvc
    cases hg : o.guard with
    | none =>
      rw [hg] at hvc
      exact pureD h.rep (by unfold Region.wanted; rw [hg]) hvc (fun e' hK => hK)
    | some jw =>
      obtain ⟨j, want⟩ := jw
      rw [hg] at hvc
      simp only at hvc
      cases hs : guardSlot ops j with
      | none => rw [hs] at hvc; exact hvc.elim
      | some s =>
        rw [hs] at hvc
        simp only at hvc
        split at hvc
        · rename_i g hl
          have hy := wantedG hg hs hl
          split at hvc
          · rename_i hgw
            subst hgw
            exact pureD (repG hl) (by unfold Region.wanted; rw [hg]; simp [hy]) hvc (fun e' hK => hK)
          · rename_i hgw
            have hgw' : g = !want := by cases g <;> cases want <;> simp_all
            refine skip (e1 := (s, .v (.bool (!want))) :: e) (by rw [← hgw']; exact repG hl) (by unfold Region.wanted; rw [hg]; simpa [hy] using hgw) hvc (fun e' hK => hK)
        · rename_i hl
          exact skip h.rep (wantedN hg hs hl) hvc (fun e' hK => hK)
        · exact hvc.elim
  · rename_i hk1
    unfold gdL at hvc
    split at hvc
    · rename_i t x hop
      have loadD : ∀ {e1 : Env}, Rep c.n e1 b w ac W → Region.wanted o (yielded ops ac.tmps) = true → ldG c t x e1 b w (fun v m k => putK c.n o.dst (.v v) e1 fun e => drawK c ops ms r ((i, m) :: pm) (addB i k pb) e b w K) →
          ∃ d pm' pb' e' ac', d.i = i ∧ Inv c ops ms ord K listed (D ++ [d]) r pm' pb' e' b w a ac' W := by
        intro e1 hR hw hld
        obtain ⟨v, m, k, hK, h1, h2, hr⟩ := ldG_spec hop hR hld
        obtain ⟨e', hK, hR'⟩ := hR.putK (sv := .v v) rfl hK
        refine ⟨⟨i, o, v, m, k⟩, _, _, e', ac.put o.dst v, rfl, mk _ _ _ _ _ rfl rfl (.inl ⟨hw, fun W' hW => hr W' hW⟩) rfl hR' hK (fun _ h => List.mem_cons_of_mem _ h) (fun _ h => ?_) ⟨h1, fun k' y hk => ⟨h2 k' y hk, ?_⟩, .inr List.mem_cons_self⟩⟩
        · unfold addB; split
          · exact List.mem_cons_of_mem _ h
          · exact h
        · simp only at hk
          subst hk
          exact List.mem_cons_self
      cases hg : o.guard with
      | none =>
        rw [hg] at hvc
        exact loadD h.rep (by unfold Region.wanted; rw [hg]) hvc
      | some jw =>
        obtain ⟨j, want⟩ := jw
        rw [hg] at hvc
        simp only at hvc
        cases hs : guardSlot ops j with
        | none => rw [hs] at hvc; exact hvc.elim
        | some s =>
          rw [hs] at hvc
          simp only at hvc
          split at hvc
          · rename_i g hl
            have hy := wantedG hg hs hl
            split at hvc
            · rename_i hgw
              subst hgw
              exact loadD (repG hl) (by unfold Region.wanted; rw [hg]; simp [hy]) hvc
            · rename_i hgw
              have hgw' : g = !want := by cases g <;> cases want <;> simp_all
              refine skip (e1 := (s, .v (.bool (!want))) :: e) (by rw [← hgw']; exact repG hl) (by unfold Region.wanted; rw [hg]; simpa [hy] using hgw) hvc (fun e' hK => hK)
          · rename_i hl
            exact skip h.rep (wantedN hg hs hl) hvc (fun e' hK => hK)
          · exact hvc.elim
    · exact hvc.elim
  · rename_i h0 h1
    exfalso
    have : kindOf c o = 0 ∨ kindOf c o = 1 ∨ kindOf c o = 2 := by
      unfold kindOf
      split <;> first | exact .inl rfl | exact .inr (.inl rfl) | exact .inr (.inr rfl) | skip
      · split <;> simp
      · split <;> simp
    rcases this with h2 | h2 | h2
    · exact h0 h2
    · exact h1 h2
    · rw [h2] at hk2; cases hk2

theorem sub_split {x : Nat} {l : List Nat} : ∀ {ord : List Nat}, List.Sublist (x :: l) ord → ∃ p q, ord = p ++ x :: q ∧ List.Sublist l q
  | [], h => by cases h
  | y :: r, h => by
    cases h with
    | cons _ h =>
      obtain ⟨p, q, rfl, h2⟩ := sub_split h
      exact ⟨y :: p, q, rfl, h2⟩
    | cons_cons _ h => exact ⟨[], r, rfl, h⟩
theorem apart_of {c : Cfg} {ops : Array Oper} {ms : List (Nat × Nat)} {ord : List Nat} (hO : OrdOk c ops ms ord) {listed : Array Bool} (hcl : ∀ i o, ops[i]? = some o → listed.getD i false = true → ∀ d ∈ depsOf o, listed.getD d false = true)
    {x : DE} (hx : ops[x.i]? = some x.o ∧ impB c ops x.i = false) (hu : listed.getD x.i true = false) {j : Nat} {oj : Oper} (hoj : ops[j]? = some oj) (hd : ∀ d ∈ depsOf oj, listed.getD d false = true) (hb : ∃ p q, ord = p ++ x.i :: q ∧ j ∈ q) : x.o.apart ops oj = true := by
  obtain ⟨p, q, hp, hj⟩ := hb
  rcases (hO.pairs p x.i q hp x.o hx.1 hx.2).1 j hj with h | ⟨oj', h1, h2⟩
  · exact absurd (before_listed hcl (hO.masks j x.i h) ⟨oj, hoj, hd⟩) (unl_not hu)
  · rw [hoj] at h1; cases h1; exact h2
theorem set_getD {listed : Array Bool} {i j : Nat} (hi : i < listed.size) : (listed.setIfInBounds i true).getD j true = false ↔ j ≠ i ∧ listed.getD j true = false := by
  by_cases hij : i = j
  · subst hij; simp [hi]
  · rw [getD_set_ne true hij]; simp [Ne.symm hij]
theorem closed_set {ops : Array Oper} {listed : Array Bool} {i : Nat} {oi : Oper} (hcl : ∀ i o, ops[i]? = some o → listed.getD i false = true → ∀ d ∈ depsOf o, listed.getD d false = true) (ho : ops[i]? = some oi) (hd : ∀ d ∈ depsOf oi, listed.getD d false = true) :
    ∀ j o, ops[j]? = some o → (listed.setIfInBounds i true).getD j false = true → ∀ d ∈ depsOf o, (listed.setIfInBounds i true).getD d false = true := by
  intro j o hj hl d hdm
  by_cases hij : i = j
  · subst hij
    rw [ho] at hj
    cases hj
    exact getD_set_true (hd d hdm)
  · rw [getD_set_ne false hij] at hl
    exact getD_set_true (hcl j o hj hl d hdm)
theorem unl_lt {listed : Array Bool} {i : Nat} (h : listed.getD i true = false) : i < listed.size := by
  rcases Nat.lt_or_ge i listed.size with h' | h'
  · exact h'
  · simp [Array.getElem?_eq_none h'] at h
theorem inv_nodup {c : Cfg} {ops : Array Oper} {ms : List (Nat × Nat)} {ord : List Nat} (hO : OrdOk c ops ms ord) {K : Kont} {listed : Array Bool} {D : List DE} {cr : List Nat} {pm : PM} {pb : PB} {e : Env} {b : Bxs} {w : World} {a ac : Act} {W : World}
    (h : Inv c ops ms ord K listed D cr pm pb e b w a ac W) : (D.map (·.i) ++ cr).Nodup := by
  obtain ⟨pre, hpre, hsub⟩ := h.suf
  have hn := hO.nodup
  rw [hpre] at hn
  exact List.Nodup.sublist (List.Sublist.append hsub (List.Sublist.refl _)) hn
/-- A delayed value whose turn has come. -/
theorem inv_pick {c : Cfg} {ops : Array Oper} {ms : List (Nat × Nat)} {ord : List Nat} (hO : OrdOk c ops ms ord) {K : Kont} {listed : Array Bool} {D1 D2 : List DE} {d : DE} {cr : List Nat} {pm : PM} {pb : PB} {e : Env} {b : Bxs} {w : World} {a ac : Act} {W : World}
    (h : Inv c ops ms ord K listed (D1 ++ d :: D2) cr pm pb e b w a ac W) (hr : d.i ∈ Region.ready .any ops listed) {Q : Exit → Act → World → Prop} {next : Act → World → Prop}
    (hn : Inv c ops ms ord K (listed.setIfInBounds d.i true) (D1 ++ D2) cr pm pb e b w (a.put d.o.dst d.v) ac W → next (a.put d.o.dst d.v) W) : wpOp c.P ops Q d.i next a W := by
  obtain ⟨hu, o, ho, hdeps⟩ := ready_deps hr
  have hdop := h.dop d (by simp)
  rw [hdop.1] at ho
  cases ho
  obtain ⟨pre, hpre, hsub⟩ := h.suf
  have hnd := inv_nodup hO h
  have hap : ∀ x ∈ D1, x.o.apart ops d.o = true ∧ ∀ cs z, x.o.op ≠ .select cs z := by
    intro x hx
    have hxD : x ∈ D1 ++ d :: D2 := List.mem_append_left _ hx
    refine ⟨apart_of hO h.closed (h.dop x hxD) ((h.unl x.i).2 (.inl (List.mem_map.2 ⟨x, hxD, rfl⟩))) hdop.1 hdeps ?_, fun cs z => hO.nosel x.i x.o (h.dop x hxD).1 cs z⟩
    obtain ⟨E1, E2, rfl⟩ := List.append_of_mem hx
    have hs2 : List.Sublist (x.i :: (E2.map (·.i) ++ d.i :: D2.map (·.i))) pre := by
      refine List.Sublist.trans ?_ hsub
      simp only [List.map_append, List.map_cons, List.append_assoc, List.cons_append]
      exact List.sublist_append_right _ _
    obtain ⟨p, q, rfl, hq⟩ := sub_split hs2
    exact ⟨p, q ++ cr, by rw [hpre]; simp, List.mem_append_left _ (hq.subset (by simp))⟩
  obtain ⟨hC, hch⟩ := chain_take (fun cs z => hO.nosel d.i d.o hdop.1 cs z) h.chain hap
  have hInv : Inv c ops ms ord K (listed.setIfInBounds d.i true) (D1 ++ D2) cr pm pb e b w (a.put d.o.dst d.v) ac W := by
    refine ⟨⟨pre, hpre, ?_⟩, fun j => ?_, closed_set h.closed hdop.1 hdeps, hch, h.rep, h.vc, fun x hx => h.live x ?_, fun x hx => h.dop x ?_, by simpa using h.sz⟩
    · refine List.Sublist.trans ?_ hsub
      simp only [List.map_append, List.map_cons]
      exact List.Sublist.append (List.Sublist.refl _) (List.sublist_cons_self _ _)
    · rw [set_getD (unl_lt hu), h.unl j]
      simp only [List.map_append, List.map_cons, List.mem_append, List.mem_cons] at hnd ⊢
      simp only [List.nodup_append, List.nodup_cons, List.mem_cons, List.mem_append] at hnd
      constructor
      · rintro ⟨h1, (h2 | h2 | h2) | h2⟩
        · exact .inl (.inl h2)
        · exact absurd h2 h1
        · exact .inl (.inr h2)
        · exact .inr h2
      · rintro ((h2 | h2) | h2)
        · exact ⟨fun he => hnd.1.2.2 j h2 d.i (.inl rfl) he, .inl (.inl h2)⟩
        · exact ⟨fun he => hnd.1.2.1.1 (he ▸ h2), .inl (.inr (.inr h2))⟩
        · exact ⟨fun he => hnd.2.2 d.i (.inr (.inl rfl)) j h2 he.symm, .inr h2⟩
    · rcases List.mem_append.1 hx with hx | hx
      · exact List.mem_append_left _ hx
      · exact List.mem_append_right _ (List.mem_cons_of_mem _ hx)
    · rcases List.mem_append.1 hx with hx | hx
      · exact List.mem_append_left _ hx
      · exact List.mem_append_right _ (List.mem_cons_of_mem _ hx)
  unfold wpOp
  rw [hdop.1]
  simp only
  rcases hC with ⟨hw, hrun⟩ | ⟨hw, hv⟩
  · rw [if_pos hw]
    refine .inl ?_
    have hl := h.live d (by simp)
    have := hrun W (holds_now h.rep hl.1 fun k y hk => (hl.2.1 k y hk).1)
    simp only [Oper.wp, this, Oper.upon]
    exact hn hInv
  · rw [if_neg (by rw [hw]; simp), ← hv]
    exact hn hInv
theorem againL_spec : ∀ {l : List (Addr × Value)} {w : World} {K : Prop}, againL l w K → (∀ q u, (q, u) ∈ l → w.cell? q = some u) ∧ K
  | [], w, K, h => ⟨fun q u hm => (by cases hm), h⟩
  | (q, u) :: r, w, K, h => by
    obtain ⟨h1, h2⟩ := h
    obtain ⟨h3, h4⟩ := againL_spec h2
    refine ⟨fun q' u' hm => ?_, h4⟩
    rcases List.mem_cons.1 hm with hm | hm
    · cases hm; exact h1
    · exact h3 q' u' hm
theorem againP_spec : ∀ {l : PM} {w : World} {K : Prop}, againP l w K → (∀ i m, (i, m) ∈ l → ∀ q u, (q, u) ∈ m → w.cell? q = some u) ∧ K
  | [], w, K, h => ⟨fun i m hm => (by cases hm), h⟩
  | (i, m) :: r, w, K, h => by
    obtain ⟨h1, h2⟩ := againL_spec h
    obtain ⟨h3, h4⟩ := againP_spec h2
    refine ⟨fun i' m' hm => ?_, h4⟩
    rcases List.mem_cons.1 hm with hm | hm
    · cases hm; exact h1
    · exact h3 i' m' hm
theorem dropP_mem {α : Type} {m : Nat} : ∀ {l : List (Nat × α)} {i : Nat} {x : α}, (i, x) ∈ l → m.testBit i = false → (i, x) ∈ dropP m l
  | (j, y) :: r, i, x, h, ht => by
    unfold dropP
    rcases List.mem_cons.1 h with h | h
    · cases h
      rw [ht]
      exact List.mem_cons_self
    · have := dropP_mem h ht
      cases m.testBit j
      · exact List.mem_cons_of_mem _ this
      · exact this
theorem keyIn_mem {k : Nat} : ∀ {l : PB} {i : Nat}, (i, k) ∈ l → keyIn l k = true
  | (j, y) :: r, i, h => by
    unfold keyIn
    rcases List.mem_cons.1 h with h | h
    · cases h; rw [Nat.beq_refl]
    · cases Nat.beq k y
      · exact keyIn_mem h
      · rfl
/-- What is not delayed, in its turn. -/
theorem inv_imp {c : Cfg} (hc : CfgOk c) {ops : Array Oper} {ms : List (Nat × Nat)} {ord : List Nat} (hO : OrdOk c ops ms ord) {K : Kont} {listed : Array Bool} {D : List DE} {i : Nat} {r : List Nat} {pm : PM} {pb : PB} {e : Env} {b : Bxs} {w : World} {a ac : Act} {W : World}
    (h : Inv c ops ms ord K listed D (i :: r) pm pb e b w a ac W) (hi : impB c ops i = true) (hr : i ∈ Region.ready .any ops listed) {Q : Exit → Act → World → Prop} (hQ : ∀ c a w, ¬ Q (.panic c) a w) {next : Act → World → Prop}
    (hn : ∀ pm' pb' e' b' w' a' ac' W', Inv c ops ms ord K (listed.setIfInBounds i true) D r pm' pb' e' b' w' a' ac' W' → next a' W') : wpOp c.P ops Q i next a W := by
  obtain ⟨hu, o, ho, hdeps⟩ := ready_deps hr
  obtain ⟨pre, hpre, hsub⟩ := h.suf
  have hnd := inv_nodup hO h
  have hvc := h.vc
  unfold drawK at hvc
  rw [ho] at hvc
  have hk2 := impB_of (c := c) ho
  rw [hi] at hk2
  have hk2 := Nat.eq_of_beq_eq_true hk2.symm
  simp only [hk2] at hvc
  have hbit : ∀ d ∈ D, (maskOf ms i).testBit d.i = false := by
    intro d hd
    cases ht : (maskOf ms i).testBit d.i with
    | false => rfl
    | true => exact absurd (before_listed h.closed (hO.masks i d.i ht) ⟨o, ho, hdeps⟩) (unl_not ((h.unl d.i).2 (.inl (List.mem_map.2 ⟨d, hd, rfl⟩))))
  have hap : ∀ d ∈ D, d.o.apart ops o = true ∧ ∀ cs x, d.o.op ≠ .select cs x := by
    intro d hd
    refine ⟨apart_of hO h.closed (h.dop d hd) ((h.unl d.i).2 (.inl (List.mem_map.2 ⟨d, hd, rfl⟩))) ho hdeps ?_, fun cs x => hO.nosel d.i d.o (h.dop d hd).1 cs x⟩
    have hm : d.i ∈ pre := hsub.subset (List.mem_map.2 ⟨d, hd, rfl⟩)
    obtain ⟨p, q, rfl⟩ := List.append_of_mem hm
    exact ⟨p, q ++ i :: r, by rw [hpre]; simp, by simp⟩
  cases hf : freeB o e (dropP (maskOf ms i) pb) with
  | false => rw [hf] at hvc; exact hvc.elim
  | true =>
    rw [hf] at hvc
    simp only at hvc
    have hg := gdK_op hc ho h.rep (gdK_fix hvc) (Q := Q) (next := fun a2 W2 => ∃ e2 b2 w2, (KeepF o e b b2 ∧ againP (dropP (maskOf ms i) pm) w2 (drawK c ops ms r (dropP (maskOf ms i) pm) (dropP (maskOf ms i) pb) e2 b2 w2 K)) ∧ Rep c.n e2 b2 w2 a2 W2)
      (fun e2 b2 w2 a2 W2 h1 h2 => ⟨e2, b2, w2, h1, h2⟩)
    refine wpOp_mono (fun a2 W2 hk => ?_) (wpOp_chain ho (fun cs x => hO.nosel i o ho cs x) hQ h.chain hap hg)
    obtain ⟨ac2, hch, e2, b2, w2, ⟨hkeep, hagain⟩, hR⟩ := hk
    obtain ⟨hcells, hv⟩ := againP_spec hagain
    refine hn _ _ e2 b2 w2 a2 ac2 W2 ⟨⟨pre ++ [i], by rw [hpre]; simp, hsub.trans (List.sublist_append_left _ _)⟩, fun j => ?_, closed_set h.closed ho hdeps, hch, hR, hv, fun d hd => ?_, h.dop, by simpa using h.sz⟩
    · rw [set_getD (unl_lt hu), h.unl j]
      simp only [List.mem_cons] at hnd ⊢
      simp only [List.nodup_append, List.nodup_cons, List.mem_cons] at hnd
      constructor
      · rintro ⟨h1, h2 | h2 | h2⟩
        · exact .inl h2
        · exact absurd h2 h1
        · exact .inr h2
      · rintro (h2 | h2)
        · exact ⟨fun he => hnd.2.2 j h2 i (.inl rfl) he, .inl h2⟩
        · exact ⟨fun he => hnd.2.1.1 (he ▸ h2), .inr (.inr h2)⟩
    · obtain ⟨q1, q2, q3⟩ := h.live d hd
      refine ⟨fun q u hm => ?_, fun k x hk => ?_, ?_⟩
      · rcases q3 with q3 | q3
        · rw [q3] at hm; cases hm
        · exact hcells d.i d.m (dropP_mem q3 (hbit d hd)) q u hm
      · obtain ⟨q4, q5⟩ := q2 k x hk
        have q6 := dropP_mem q5 (hbit d hd)
        refine ⟨hkeep k x q4 fun t x' y hop k0 off hev he => ?_, q6⟩
        subst he
        unfold freeB at hf
        simp only [hop, hev] at hf
        rw [keyIn_mem q6] at hf
        cases hf
      · rcases q3 with q3 | q3
        · exact .inl q3
        · exact .inr (dropP_mem q3 (hbit d hd))

theorem lastImp_append (c : Cfg) (ops : Array Oper) : ∀ (l1 l2 : List Nat) (x : Option Nat), lastImp c ops (l1 ++ l2) x = lastImp c ops l2 (lastImp c ops l1 x)
  | [], l2, x => rfl
  | i :: r, l2, x => lastImp_append c ops r l2 _
theorem lastImp_some {c : Cfg} {ops : Array Oper} : ∀ {l : List Nat} {x : Option Nat}, (∃ y ∈ l, impB c ops y = true) → ∃ z ∈ l, lastImp c ops l x = some z
  | [], x, h => by obtain ⟨y, hy, _⟩ := h; cases hy
  | i :: r, x, h => by
    by_cases hr : ∃ y ∈ r, impB c ops y = true
    · obtain ⟨z, hz, h2⟩ := lastImp_some (x := if impB c ops i = true then some i else x) hr
      exact ⟨z, List.mem_cons_of_mem _ hz, h2⟩
    · obtain ⟨y, hy, hi⟩ := h
      have hyi : y = i := by
        rcases List.mem_cons.1 hy with h | h
        · exact h
        · exact absurd ⟨y, h, hi⟩ hr
      subst hyi
      refine ⟨y, List.mem_cons_self, ?_⟩
      simp only [lastImp, hi, if_true]
      have : ∀ {l : List Nat} {x : Option Nat}, (¬ ∃ y ∈ l, impB c ops y = true) → lastImp c ops l x = x := by
        intro l
        induction l with
        | nil => intro x _; rfl
        | cons j l ih =>
          intro x hn
          have hj : impB c ops j = false := by
            cases hb : impB c ops j with
            | false => rfl
            | true => exact absurd ⟨j, List.mem_cons_self, hb⟩ hn
          simp only [lastImp, hj, Bool.false_eq_true, if_false]
          exact ih fun ⟨y, hy, hb⟩ => hn ⟨y, List.mem_cons_of_mem _ hy, hb⟩
      exact this hr
/-- All that stands ahead is reckoned ahead of its time. -/
theorem inv_to {c : Cfg} (hc : CfgOk c) {ops : Array Oper} {ms : List (Nat × Nat)} {ord : List Nat} (hO : OrdOk c ops ms ord) {K : Kont} {listed : Array Bool} {r : List Nat} {a : Act} {b : Bxs} {w W : World} : ∀ {c1 : List Nat} {D : List DE} {pm : PM} {pb : PB} {e : Env} {ac : Act},
    Inv c ops ms ord K listed D (c1 ++ r) pm pb e b w a ac W → (∀ j ∈ c1, impB c ops j = false) → ∃ D' pm' pb' e' ac', (D ++ D').map (·.i) = D.map (·.i) ++ c1 ∧ Inv c ops ms ord K listed (D ++ D') r pm' pb' e' b w a ac' W
  | [], D, pm, pb, e, ac, h, hi => ⟨[], pm, pb, e, ac, by simp, by simpa using h⟩
  | j :: c1, D, pm, pb, e, ac, h, hi => by
    obtain ⟨d, pm1, pb1, e1, ac1, hd, h1⟩ := inv_step hc hO h (hi j List.mem_cons_self)
    obtain ⟨D', pm2, pb2, e2, ac2, h2, h3⟩ := inv_to hc hO h1 (fun x hx => hi x (List.mem_cons_of_mem _ hx))
    refine ⟨d :: D', pm2, pb2, e2, ac2, ?_, by simpa using h3⟩
    have : D ++ d :: D' = (D ++ [d]) ++ D' := by simp
    rw [this, h2]
    simp [hd]
theorem ready_nil {c : Cfg} {ops : Array Oper} {ms : List (Nat × Nat)} {ord : List Nat} (hO : OrdOk c ops ms ord) {listed : Array Bool} (hsz : listed.size = ops.size) (hnil : Region.ready .any ops listed = []) : ∀ j ∈ ord, listed.getD j true = true := by
  have hall : ∀ m, m ≤ ord.length → ∀ j ∈ ord.take m, listed.getD j true = true := by
    intro m
    induction m with
    | zero => intro _ j hj; simp at hj
    | succ m ihm =>
      intro hm j hj
      have h1 := ihm (by omega)
      rw [List.take_succ_eq_append_getElem (by omega)] at hj
      rcases List.mem_append.1 hj with hj | hj
      · exact h1 j hj
      · rw [List.mem_singleton] at hj
        obtain ⟨o, ho, hd⟩ := hO.deps (ord.take m) ord[m] (ord.drop (m + 1)) (by rw [List.getElem_cons_drop]; exact (List.take_append_drop m ord).symm)
        rw [← hj] at ho
        cases hjl : listed.getD j true with
        | true => rfl
        | false =>
          exfalso
          have : j ∈ Region.ready .any ops listed := by
            refine mem_ready.2 ⟨hjl, o, ho, fun ed hed hb => ?_⟩
            have hm2 : ed.on ∈ depsOf o := List.mem_map.2 ⟨ed, List.mem_filter.2 ⟨by simpa using hed, hb⟩, rfl⟩
            have h3 := hd _ hm2
            have h2 := h1 _ h3
            have hlt : ed.on < listed.size := by
              obtain ⟨p, q, hpq⟩ := List.append_of_mem (List.take_subset m ord h3)
              obtain ⟨o2, ho2, _⟩ := hO.deps p ed.on q hpq
              rw [hsz]
              exact (Array.getElem?_eq_some_iff.1 ho2).1
            simp [hlt] at h2 ⊢
            exact h2
          rw [hnil] at this
          cases this
  exact fun j hj => hall ord.length (Nat.le_refl _) j (by rw [List.take_length]; exact hj)
theorem draw_go {c : Cfg} (hc : CfgOk c) {ops : Array Oper} {ms : List (Nat × Nat)} {ord : List Nat} (hO : OrdOk c ops ms ord) {K : Kont} {Q : Exit → Act → World → Prop} (hQ : ∀ c a w, ¬ Q (.panic c) a w)
    (hK : ∀ e b w a W, K e b w → Rep c.n e b w a W → Q .normal a W) : ∀ (fuel t : Nat) (listed : Array Bool) (D : List DE) (cr : List Nat) (pm : PM) (pb : PB) (e : Env) (b : Bxs) (w : World) (a ac : Act) (W : World),
      Inv c ops ms ord K listed D cr pm pb e b w a ac W → (Region.linearise.go .any ops fuel t listed []).filter (impB c ops) = cr.filter (impB c ops) → D.length + cr.length ≤ fuel →
      wpOps c.P ops Q (Region.linearise.go .any ops fuel t listed []) a W := by
  have done : ∀ {listed : Array Bool} {pm : PM} {pb : PB} {e : Env} {b : Bxs} {w : World} {a ac : Act} {W : World}, Inv c ops ms ord K listed [] [] pm pb e b w a ac W → Q .normal a W := by
    intro listed pm pb e b w a ac W h
    have hch := h.chain
    cases hch
    exact hK e b w a W h.vc h.rep
  intro fuel
  induction fuel with
  | zero =>
    intro t listed D cr pm pb e b w a ac W h hp hl
    have hD : D = [] := List.eq_nil_of_length_eq_zero (by omega)
    have hcr : cr = [] := List.eq_nil_of_length_eq_zero (by omega)
    subst hD; subst hcr
    simp only [Region.linearise.go, List.reverse_nil, wpOps]
    exact done h
  | succ fuel ih =>
    intro t listed D cr pm pb e b w a ac W h hp hl
    simp only [Region.linearise.go] at hp ⊢
    change (match (Region.ready .any ops listed)[t % (Region.ready .any ops listed).length]? with
      | some i => Region.linearise.go .any ops fuel (t / (Region.ready .any ops listed).length) (listed.setIfInBounds i true) [i]
      | none => [].reverse).filter (impB c ops) = _ at hp
    change wpOps c.P ops Q (match (Region.ready .any ops listed)[t % (Region.ready .any ops listed).length]? with
      | some i => Region.linearise.go .any ops fuel (t / (Region.ready .any ops listed).length) (listed.setIfInBounds i true) [i]
      | none => [].reverse) a W
    cases hi : (Region.ready .any ops listed)[t % (Region.ready .any ops listed).length]? with
    | none =>
      have hnil : Region.ready .any ops listed = [] := by
        cases hr : Region.ready .any ops listed with
        | nil => rfl
        | cons x xs =>
          rw [hr] at hi
          have hlt : t % (x :: xs).length < (x :: xs).length := Nat.mod_lt _ (by simp)
          simp at hi
          simp at hlt
          omega
      have hall := ready_nil hO h.sz hnil
      have hno : ∀ j, j ∈ D.map (·.i) ∨ j ∈ cr → False := by
        intro j hj
        have hu := (h.unl j).2 hj
        obtain ⟨pre, hpre, hsub⟩ := h.suf
        have hm : j ∈ ord := by
          rw [hpre]
          rcases hj with hj | hj
          · exact List.mem_append_left _ (hsub.subset hj)
          · exact List.mem_append_right _ hj
        have := hall j hm
        rw [this] at hu
        cases hu
      have hD : D = [] := by
        cases D with
        | nil => rfl
        | cons d r => exact (hno d.i (.inl (by simp))).elim
      have hcr : cr = [] := by
        cases cr with
        | nil => rfl
        | cons d r => exact (hno d (.inr (by simp))).elim
      subst hD; subst hcr
      simp only [List.reverse_nil, wpOps]
      exact done h
    | some i =>
      rw [hi] at hp
      simp only at hp ⊢
      rw [linearise_go_acc, List.reverse_singleton, List.singleton_append] at hp ⊢
      rw [wpOps_cons]
      have hr : i ∈ Region.ready .any ops listed := List.mem_of_getElem? hi
      obtain ⟨hu, o, ho, hdeps⟩ := ready_deps hr
      have pick : ∀ {D : List DE} {cr : List Nat} {pm : PM} {pb : PB} {e : Env} {b : Bxs} {w : World} {ac : Act}, Inv c ops ms ord K listed D cr pm pb e b w a ac W → i ∈ D.map (·.i) → impB c ops i = false →
          (i :: Region.linearise.go .any ops fuel (t / (Region.ready .any ops listed).length) (listed.setIfInBounds i true) []).filter (impB c ops) = cr.filter (impB c ops) → D.length + cr.length ≤ fuel + 1 →
          wpOp c.P ops Q i (wpOps c.P ops Q (Region.linearise.go .any ops fuel (t / (Region.ready .any ops listed).length) (listed.setIfInBounds i true) [])) a W := by
        intro D cr pm pb e b w ac h hm hib hp hl
        obtain ⟨d, hd, hdi⟩ := List.mem_map.1 hm
        obtain ⟨D1, D2, rfl⟩ := List.append_of_mem hd
        subst hdi
        refine inv_pick hO h hr fun hI => ih _ _ _ _ _ _ _ _ _ _ _ _ hI ?_ ?_
        · rw [List.filter_cons, hib] at hp
          simpa using hp
        · simp at hl ⊢; omega
      rcases (h.unl i).1 hu with hm | hm
      · have hib : impB c ops i = false := by
          obtain ⟨d, hd, hdi⟩ := List.mem_map.1 hm
          rw [← hdi]
          exact (h.dop d hd).2
        exact pick h hm hib hp hl
      · cases hib : impB c ops i with
        | false =>
          obtain ⟨c1, c2, rfl⟩ := List.append_of_mem hm
          obtain ⟨pre, hpre, hsub⟩ := h.suf
          have hc1 : ∀ j ∈ c1, impB c ops j = false := by
            intro j hj
            cases hjb : impB c ops j with
            | false => rfl
            | true =>
              exfalso
              obtain ⟨z, hz, hl2⟩ := lastImp_some (c := c) (ops := ops) (x := lastImp c ops pre none) ⟨j, hj, hjb⟩
              have hb := (hO.pairs (pre ++ c1) i c2 (by rw [hpre]; simp) o ho hib).2 z (by rw [lastImp_append]; exact hl2)
              exact unl_not ((h.unl z).2 (.inr (List.mem_append_left _ hz))) (before_listed h.closed (hO.masks i z hb) ⟨o, ho, hdeps⟩)
          have h' : Inv c ops ms ord K listed D ((c1 ++ [i]) ++ c2) pm pb e b w a ac W := by simpa using h
          obtain ⟨D', pm', pb', e', ac', hD', hI⟩ := inv_to hc hO h' (fun j hj => by
            rcases List.mem_append.1 hj with hj | hj
            · exact hc1 j hj
            · rw [List.mem_singleton] at hj; subst hj; exact hib)
          refine pick hI (by rw [hD']; simp) hib ?_ ?_
          · rw [hp, List.filter_append, List.filter_cons, hib]
            have : c1.filter (impB c ops) = [] := List.filter_eq_nil_iff.2 fun j hj => by rw [hc1 j hj]; simp
            simp [this]
          · have := congrArg List.length hD'
            simp at this hl ⊢
            omega
        | true =>
          rw [List.filter_cons, hib] at hp
          simp only [if_true] at hp
          -- the first of what is left that is not delayed is this one
          have hsplit : ∀ (l : List Nat) (rest : List Nat), i :: rest = l.filter (impB c ops) → ∃ c1 c2, l = c1 ++ i :: c2 ∧ (∀ j ∈ c1, impB c ops j = false) ∧ c2.filter (impB c ops) = rest := by
            intro l
            induction l with
            | nil => intro rest hx; simp at hx
            | cons y l ihl =>
              intro rest hx
              rw [List.filter_cons] at hx
              cases hy : impB c ops y with
              | true =>
                rw [hy] at hx
                simp only [if_true, List.cons.injEq] at hx
                obtain ⟨rfl, rfl⟩ := hx
                exact ⟨[], l, rfl, fun j hj => (by cases hj), rfl⟩
              | false =>
                rw [hy] at hx
                simp only [Bool.false_eq_true, if_false] at hx
                obtain ⟨c1, c2, rfl, h2, h3⟩ := ihl rest hx
                refine ⟨y :: c1, c2, rfl, fun j hj => ?_, h3⟩
                rcases List.mem_cons.1 hj with rfl | hj
                · exact hy
                · exact h2 j hj
          obtain ⟨c1, c2, rfl, hc1, hrest⟩ := hsplit cr _ hp
          obtain ⟨D', pm', pb', e', ac', hD', hI⟩ := inv_to hc hO h hc1
          refine inv_imp hc hO hI hib hr hQ fun pm2 pb2 e2 b2 w2 a2 ac2 W2 hI2 => ih _ _ _ _ _ _ _ _ _ _ _ _ hI2 hrest.symm ?_
          have := congrArg List.length hD'
          simp at this hl ⊢
          omega

theorem exts_go {c : Cfg} {ops : Array Oper} {ms : List (Nat × Nat)} {ord : List Nat} (hO : OrdOk c ops ms ord) : ∀ (fuel t : Nat) (listed : Array Bool) (n : Nat), listed.size = ops.size → (∀ i o, ops[i]? = some o → listed.getD i false = true → ∀ d ∈ depsOf o, listed.getD d false = true) →
    (ord.filter fun j => !listed.getD j true).length ≤ fuel → ((ord.filter (impB c ops)).filter fun j => !listed.getD j true).length ≤ n →
    (Region.linearise.go .any ops fuel t listed []).filter (impB c ops) ∈ exts ms n ((ord.filter (impB c ops)).filter fun j => !listed.getD j true) := by
  have nil_mem : ∀ n, ([] : List Nat) ∈ exts ms n [] := fun n => by cases n <;> simp [exts]
  have all_nil : ∀ {listed : Array Bool}, (∀ j ∈ ord, listed.getD j true = true) → ((ord.filter (impB c ops)).filter fun j => !listed.getD j true) = [] := fun h =>
    List.filter_eq_nil_iff.2 fun j hj => by rw [h j (List.mem_filter.1 hj).1]; simp
  intro fuel
  induction fuel with
  | zero =>
    intro t listed n hsz hcl hcount hn
    have h0 := List.eq_nil_of_length_eq_zero (Nat.le_zero.1 hcount)
    have : ∀ j ∈ ord, listed.getD j true = true := fun j hj => by simpa using (List.filter_eq_nil_iff.1 h0) j hj
    rw [all_nil this]
    simp only [Region.linearise.go, List.reverse_nil, List.filter_nil]
    exact nil_mem n
  | succ fuel ih =>
    intro t listed n hsz hcl hcount hn
    simp only [Region.linearise.go]
    change (match (Region.ready .any ops listed)[t % (Region.ready .any ops listed).length]? with
      | some i => Region.linearise.go .any ops fuel (t / (Region.ready .any ops listed).length) (listed.setIfInBounds i true) [i]
      | none => [].reverse).filter (impB c ops) ∈ _
    cases hi : (Region.ready .any ops listed)[t % (Region.ready .any ops listed).length]? with
    | none =>
      have hnil : Region.ready .any ops listed = [] := by
        cases hr : Region.ready .any ops listed with
        | nil => rfl
        | cons x xs =>
          rw [hr] at hi
          have hlt : t % (x :: xs).length < (x :: xs).length := Nat.mod_lt _ (by simp)
          simp at hi
          simp at hlt
          omega
      rw [all_nil (ready_nil hO hsz hnil)]
      simp only [List.reverse_nil, List.filter_nil]
      exact nil_mem n
    | some i =>
      simp only
      rw [linearise_go_acc, List.reverse_singleton, List.singleton_append]
      have hr : i ∈ Region.ready .any ops listed := List.mem_of_getElem? hi
      obtain ⟨hu, o, ho, hdeps⟩ := ready_deps hr
      have hlt := unl_lt hu
      have him : i ∈ ord := hO.mem i (by rw [← hsz]; exact hlt)
      have hset : ∀ j, (!(listed.setIfInBounds i true).getD j true) = (!listed.getD j true && !Nat.beq j i) := by
        intro j
        have := set_getD (j := j) hlt
        cases h1 : (listed.setIfInBounds i true).getD j true with
        | false =>
          obtain ⟨h2, h3⟩ := this.1 h1
          have : Nat.beq j i = false := by
            cases hb : Nat.beq j i with
            | false => rfl
            | true => exact absurd (Nat.eq_of_beq_eq_true hb) h2
          rw [h3, this]; rfl
        | true =>
          cases hb : Nat.beq j i with
          | true => simp
          | false =>
            cases h3 : listed.getD j true with
            | true => rfl
            | false =>
              have := this.2 ⟨Nat.ne_of_beq_eq_false hb, h3⟩
              rw [h1] at this
              cases this
      have hf : ∀ l : List Nat, (l.filter fun j => !(listed.setIfInBounds i true).getD j true) = (l.filter fun j => !listed.getD j true).filter fun j => !Nat.beq j i := by
        intro l
        rw [List.filter_filter]
        refine List.filter_congr fun j _ => ?_
        rw [hset j, Bool.and_comm]
      have hlen : ∀ l : List Nat, i ∈ l → (l.filter fun j => !Nat.beq j i).length < l.length := by
        intro l hl
        have := List.length_filter_lt_length_iff_exists (p := fun j => !Nat.beq j i) (l := l)
        exact this.2 ⟨i, hl, by simp [Nat.beq_refl]⟩
      have hcount' : (ord.filter fun j => !(listed.setIfInBounds i true).getD j true).length ≤ fuel := by
        rw [hf]
        have := hlen (ord.filter fun j => !listed.getD j true) (List.mem_filter.2 ⟨him, by rw [hu]; rfl⟩)
        omega
      cases hib : impB c ops i with
      | false =>
        rw [List.filter_cons, hib]
        simp only [Bool.false_eq_true, if_false]
        have hsame : ((ord.filter (impB c ops)).filter fun j => !(listed.setIfInBounds i true).getD j true) = (ord.filter (impB c ops)).filter fun j => !listed.getD j true := by
          rw [hf]
          refine List.filter_eq_self.2 fun j hj => ?_
          have hij : impB c ops j = true := (List.mem_filter.1 (List.mem_filter.1 hj).1).2
          have hne : j ≠ i := fun he => by subst he; rw [hib] at hij; cases hij
          cases hb : Nat.beq j i with
          | false => rfl
          | true => exact absurd (Nat.eq_of_beq_eq_true hb) hne
        have := ih (t / (Region.ready .any ops listed).length) (listed.setIfInBounds i true) n (by simpa using hsz) (closed_set hcl ho hdeps) hcount' (by rw [hsame]; exact hn)
        rw [hsame] at this
        exact this
      | true =>
        rw [List.filter_cons, hib]
        simp only [if_true]
        have hiS : i ∈ (ord.filter (impB c ops)).filter fun j => !listed.getD j true := List.mem_filter.2 ⟨List.mem_filter.2 ⟨him, hib⟩, by rw [hu]; rfl⟩
        have hlt2 := hlen _ hiS
        cases n with
        | zero => exfalso; omega
        | succ n =>
          have := ih (t / (Region.ready .any ops listed).length) (listed.setIfInBounds i true) n (by simpa using hsz) (closed_set hcl ho hdeps) hcount' (by rw [hf]; omega)
          rw [hf] at this
          generalize hS : ((ord.filter (impB c ops)).filter fun j => !listed.getD j true) = S at *
          cases S with
          | nil => cases hiS
          | cons x S =>
            simp only [exts]
            refine List.mem_flatMap.2 ⟨i, List.mem_filter.2 ⟨hiS, ?_⟩, List.mem_map.2 ⟨_, this, rfl⟩⟩
            refine List.all_eq_true.2 fun j hj => ?_
            rw [← hS] at hj
            have hju : listed.getD j true = false := by simpa using (List.mem_filter.1 hj).2
            cases hb : (maskOf ms i).testBit j with
            | false => rfl
            | true => exact absurd (before_listed hcl (hO.masks i j hb) ⟨o, ho, hdeps⟩) (unl_not hju)

theorem drawL_mem {c : Cfg} {ops : Array Oper} {e : Env} {b : Bxs} {w : World} {K : Kont} : ∀ {L : List (List Nat)}, drawL c ops L e b w K → ∀ ord ∈ L, ∃ ms, mkMasks ops ord [] = some ms ∧ drawK c ops ms ord [] [] e b w K
  | [ord], h, o, ho => by
    rw [List.mem_singleton] at ho
    subst ho
    unfold drawL at h
    cases hm : mkMasks ops o [] with
    | none => rw [hm] at h; exact h.elim
    | some ms => rw [hm] at h; exact ⟨ms, rfl, h⟩
  | ord :: o2 :: r, h, o, ho => by
    unfold drawL at h
    rcases List.mem_cons.1 ho with rfl | ho
    · cases hm : mkMasks ops o [] with
      | none => rw [hm] at h; exact h.1.elim
      | some ms => rw [hm] at h; exact ⟨ms, rfl, h.1⟩
    · exact drawL_mem h.2 o ho
theorem rep_drew {n : Fr} {e : Env} {b : Bxs} {w W : World} {a : Act} (h : Rep n e b w a W) : Rep n e b w a { W with drawn := W.drawn + 1 } :=
  ⟨h.size, h.nodef, h.slots, ⟨h.pad.os, h.pad.tape, h.pad.output, h.pad.size, h.pad.row, h.pad.low⟩, h.base, h.lo, h.boxes, h.hid, h.keys, h.apart⟩
theorem region_draw {c : Cfg} (hc : CfgOk c) (hmix : c.P.follows .mixedOrders = true) {id : Nat} {ops : Array Oper} {L : List (List Nat)} (hL : regionB c ops L = true) {Q : Exit → Act → World → Prop} (hQ : ∀ c a w, ¬ Q (.panic c) a w) {K : Kont}
    (hn : ∀ e b w a' W', K e b w → Rep c.n e b w a' W' → Q .normal a' W') {e : Env} {b : Bxs} {w W : World} {a : Act} (hR : Rep c.n e b w a W) (h : drawL c ops L e b w K) : (Code.region id ops true).wp c.P Q a W := by
  unfold regionB at hL
  simp only [Bool.and_eq_true] at hL
  obtain ⟨hord, hcov⟩ := hL
  refine wp_region_draw fun t => ?_
  simp only [Region.schedule, hmix, Bool.true_or, if_true]
  have hgo : Region.linearise .any ops t = Region.linearise.go .any ops ops.size t (Array.replicate ops.size false) [] := rfl
  rw [hgo]
  -- which of the orders
  cases L with
  | nil => cases hcov
  | cons ord0 L =>
    have h0 := List.all_eq_true.1 hord ord0 List.mem_cons_self
    obtain ⟨ms0, hms0, hO0⟩ := ordOk_of h0
    unfold coverB at hcov
    simp only [hms0] at hcov
    have hcl : ∀ i o, ops[i]? = some o → (Array.replicate ops.size false).getD i false = true → ∀ d ∈ depsOf o, (Array.replicate ops.size false).getD d false = true := by
      intro i o _ hl
      exfalso
      simp only [Array.getD_eq_getD_getElem?, Array.getElem?_replicate] at hl
      split at hl <;> simp at hl
    have hun : ∀ j, j < ops.size → (Array.replicate ops.size false).getD j true = false := by
      intro j hj
      simp [hj]
    have hlt : ∀ {ord : List Nat} {ms : List (Nat × Nat)}, OrdOk c ops ms ord → ∀ j ∈ ord, j < ops.size := by
      intro ord ms hO j hj
      obtain ⟨p, q, hpq⟩ := List.append_of_mem hj
      obtain ⟨o, ho, _⟩ := hO.deps p j q hpq
      exact (Array.getElem?_eq_some_iff.1 ho).1
    have hS : ((ord0.filter (impB c ops)).filter fun j => !(Array.replicate ops.size false).getD j true) = ord0.filter (impB c ops) :=
      List.filter_eq_self.2 fun j hj => by rw [hun j (hlt hO0 j (List.mem_filter.1 hj).1)]; rfl
    have hex := exts_go hO0 ops.size t (Array.replicate ops.size false) ord0.length (by simp) hcl
      (by rw [← hO0.all]; exact List.length_filter_le _ _) (Nat.le_trans (List.length_filter_le _ _) (List.length_filter_le _ _))
    rw [hS] at hex
    have hany := List.all_eq_true.1 hcov _ hex
    obtain ⟨ord, hmem, hproj⟩ := List.any_eq_true.1 hany
    have hproj := beq_iff_eq.1 hproj
    obtain ⟨ms, hms, hO⟩ := ordOk_of (List.all_eq_true.1 hord ord hmem)
    obtain ⟨ms', hms', hvc⟩ := drawL_mem h ord hmem
    rw [hms] at hms'
    cases hms'
    refine draw_go hc hO hQ (fun e b w a W => hn e b w a W) ops.size t (Array.replicate ops.size false) [] ord [] [] e b w a a _ ⟨⟨[], rfl, List.Sublist.refl _⟩, fun i => ?_, hcl, .nil a, rep_drew hR, hvc, fun d hd => (by cases hd), fun d hd => (by cases hd), by simp⟩ hproj.symm (by simp [hO.all])
    constructor
    · intro hi
      have := unl_lt hi
      rw [Array.size_replicate] at this
      exact .inr (hO.mem i this)
    · rintro (hi | hi)
      · cases hi
      · exact hun i (hlt hO i hi)

/-! ### 14. Code -/
structure Post where
  n : Kont
  x : Nat → Kont
  r : Kont
/-- What is told of code: where ways meet, which cut; at a loop, the cut at its head; at a region whose order is open, an order, or some. -/
inductive H where
  | z
  | s (a b : H)
  | cut (i : Nat) (a b : H)
  | c (t e : H)
  | b (x : H)
  | l (i : Nat) (x : H)
  | r (L : List (List Nat))
def Post.block (Q : Post) (id : Nat) : Post :=
  { Q with x := fun j => match Nat.beq j id with
    | true => Q.n
    | false => Q.x j }
def wpf (c : Cfg) (Cs : Nat → Cut) : Code → H → List Nat → Post → Kont
  | .skip, _, _, Q => Q.n
  | .label _, _, _, Q => Q.n
  | .region _ ops false, _, _, Q => fun e b w => opsK c ops ops.toList e b w Q.n
  | .region _ ops true, .r L, _, Q => fun e b w => drawL c ops L e b w Q.n
  | .seq x y, .s hx hy, fs, Q => wpf c Cs x hx fs { Q with n := wpf c Cs y hy fs Q }
  | .seq x y, .cut i hx hy, fs, Q => wpf c Cs x hx fs { Q with n := (Cs i).read ((Cs i).K fs) }
  | .cond t x y, .c hx hy, fs, Q => fun e b w => match ev e t with
    | some (.v (.bool g)) => if g = true then wpf c Cs x hx fs Q e b w else wpf c Cs y hy fs Q e b w
    | _ => False
  | .block id x, .b hx, fs, Q => wpf c Cs x hx fs (Q.block id)
  | .scope x, .b hx, fs, Q => wpf c Cs x hx fs Q
  | .loop _, .l i _, fs, _ => fun e b w => ∃ k, (Cs i).read ((Cs i).K (k :: fs)) e b w
  | .exit id, _, _, Q => Q.x id
  | .ret, _, _, Q => Q.r
  | _, _, _, _ => fun _ _ _ => False
def obl (c : Cfg) (Cs : Nat → Cut) : Code → H → List Nat → Post → List Prop
  | .region _ ops true, .r L, _, _ => [regionB c ops L = true]
  | .seq x y, .s hx hy, fs, Q => obl c Cs x hx fs { Q with n := wpf c Cs y hy fs Q } ++ obl c Cs y hy fs Q
  | .seq x y, .cut i hx hy, fs, Q => obl c Cs x hx fs { Q with n := (Cs i).read ((Cs i).K fs) } ++
      ((Cs i).all fun vs bs w => (Cs i).K fs vs bs w → wpf c Cs y hy fs Q (mkE (Cs i).slots vs (mkP (Cs i).keys)) (mkB (Cs i).keys bs) w) :: obl c Cs y hy fs Q
  | .cond _ x y, .c hx hy, fs, Q => obl c Cs x hx fs Q ++ obl c Cs y hy fs Q
  | .block id x, .b hx, fs, Q => obl c Cs x hx fs (Q.block id)
  | .scope x, .b hx, fs, Q => obl c Cs x hx fs Q
  | .loop x, .l i hx, fs, Q => [(Cs i).all fun vs bs w => ¬ (Cs i).K (0 :: fs) vs bs w,
      ∀ k, (Cs i).all fun vs bs w => (Cs i).K ((k + 1) :: fs) vs bs w → wpf c Cs x hx (k :: fs) { Q with n := (Cs i).read ((Cs i).K (k :: fs)) } (mkE (Cs i).slots vs (mkP (Cs i).keys)) (mkB (Cs i).keys bs) w,
      ∀ k, ∀ p ∈ obl c Cs x hx (k :: fs) { Q with n := (Cs i).read ((Cs i).K (k :: fs)) }, p]
  | _, _, _, _ => []
def lift (n : Fr) (Q : Post) : Exit → Act → World → Prop
  | .normal, a, W => ∃ e b w, Q.n e b w ∧ Rep n e b w a W
  | .exit id, a, W => ∃ e b w, Q.x id e b w ∧ Rep n e b w a W
  | .ret, a, W => ∃ e b w, Q.r e b w ∧ Rep n e b w a W
  | _, _, _ => False
theorem wp_loop_fuel {P : Program} {c : Code} {Q : Exit → Act → World → Prop} (I : Nat → Act → World → Prop) (h0 : ∀ a w, ¬ I 0 a w) (round : ∀ k a w, I (k + 1) a w → c.wp P (Exit.then (I k) Q) a w) {k : Nat} {a : Act} {w : World} (h : I k a w) : (Code.loop c).wp P Q a w := by
  intro b kk cs
  have key : ∀ k a w, I k a w → ∃ e a' w', Q e a' w' ∧ Arrives P (lone (b.at a (.code c :: .inLoop c :: kk)) cs w) b kk cs e a' w' := by
    intro k
    induction k with
    | zero => intro a w h; exact absurd h (h0 a w)
    | succ k ih =>
      intro a w h
      obtain ⟨e, a₁, w₁, hq, harr⟩ := round k a w h b (.inLoop c :: kk) cs
      cases e with
      | normal =>
        obtain ⟨e₂, a₂, w₂, hq₂, harr₂⟩ := ih a₁ w₁ hq
        exact ⟨e₂, a₂, w₂, hq₂, .of_steps (Steps.trans harr (.one step_inLoop)) harr₂⟩
      | exit id => exact ⟨_, a₁, w₁, hq, .pass (x := .inLoop c) rfl (fun _ _ => .inl (by simp)) harr⟩
      | goto l => exact ⟨_, a₁, w₁, hq, .pass (x := .inLoop c) rfl (fun _ _ => .inl (by simp)) harr⟩
      | ret => exact ⟨_, a₁, w₁, hq, .pass (x := .inLoop c) rfl (fun _ _ => .inl (by simp)) harr⟩
      | panic ch => exact ⟨_, a₁, w₁, hq, .pass (x := .inLoop c) rfl (fun _ _ => .inl (by simp)) harr⟩
      | outgrown => exact ⟨_, a₁, w₁, hq, .pass (x := .inLoop c) rfl (fun _ _ => .inl (by simp)) harr⟩
  obtain ⟨e, a', w', hq, harr⟩ := key _ a w h
  exact ⟨e, a', w', hq, .of_steps (.one step_loop) harr⟩

theorem wpf_sound {c : Cfg} (hc : CfgOk c) (hmix : c.P.follows .mixedOrders = true) (Cs : Nat → Cut) : ∀ (x : Code) (h : H) (fs : List Nat) (Q : Post), (∀ p ∈ obl c Cs x h fs Q, p) → ∀ (e : Env) (b : Bxs) (w W : World) (a : Act), Rep c.n e b w a W → wpf c Cs x h fs Q e b w → x.wp c.P (lift c.n Q) a W := by
  have read_to : ∀ {i : Nat} {F : List Value → List Bx → World → Prop} {y : Code} {hy : H} {fs : List Nat} {Q : Post}, (∀ e b w W a, Rep c.n e b w a W → wpf c Cs y hy fs Q e b w → y.wp c.P (lift c.n Q) a W) →
      ((Cs i).all fun vs bs w => F vs bs w → wpf c Cs y hy fs Q (mkE (Cs i).slots vs (mkP (Cs i).keys)) (mkB (Cs i).keys bs) w) → ∀ e b w W a, Rep c.n e b w a W → (Cs i).read F e b w → y.wp c.P (lift c.n Q) a W := by
    intro i F y hy fs Q hyw hall e b w W a hR hr
    obtain ⟨vs, bs, hF, hG, hR'⟩ := read_spec hr hR
    exact hyw _ _ _ _ _ hR' (hG _ hall hF)
  intro x
  induction x with
  | skip => exact fun h fs Q _ e b w W a hR hw => wp_skip ⟨e, b, w, by simpa [wpf] using hw, hR⟩
  | label l => exact fun h fs Q _ e b w W a hR hw => wp_label ⟨e, b, w, by simpa [wpf] using hw, hR⟩
  | exit id => exact fun h fs Q _ e b w W a hR hw => wp_exit ⟨e, b, w, by simpa [wpf] using hw, hR⟩
  | ret => exact fun h fs Q _ e b w W a hR hw => wp_ret ⟨e, b, w, by simpa [wpf] using hw, hR⟩
  | region id ops draw =>
    intro h fs Q ho e b w W a hR hw
    cases draw with
    | false =>
      have hw : opsK c ops ops.toList e b w Q.n := by simpa [wpf] using hw
      exact region_text hc (fun e b w a W hK hR => ⟨e, b, w, hK, hR⟩) hR hw
    | true =>
      cases h with
      | r L =>
        have hw : drawL c ops L e b w Q.n := by simpa [wpf] using hw
        exact region_draw hc hmix (ho _ (by simp [obl])) (fun _ _ _ h => h) (fun e b w a W hK hR => ⟨e, b, w, hK, hR⟩) hR hw
      | _ => simp [wpf] at hw
  | seq x y ihx ihy =>
    intro h fs Q ho e b w W a hR hw
    cases h with
    | s hx hy =>
      simp only [wpf] at hw
      simp only [obl, List.mem_append] at ho
      refine wp_seq (wp_mono (ihx hx fs _ (fun p hp => ho p (.inl hp)) e b w W a hR hw) fun ex a' W' hq => ?_)
      cases ex with
      | normal =>
        obtain ⟨e', b', w', hn, hR'⟩ := hq
        exact ihy hy fs Q (fun p hp => ho p (.inr hp)) e' b' w' W' a' hR' hn
      | _ => exact hq
    | cut i hx hy =>
      simp only [wpf] at hw
      simp only [obl, List.mem_append, List.mem_cons] at ho
      refine wp_seq (wp_mono (ihx hx fs _ (fun p hp => ho p (.inl hp)) e b w W a hR hw) fun ex a' W' hq => ?_)
      cases ex with
      | normal =>
        obtain ⟨e', b', w', hn, hR'⟩ := hq
        exact read_to (fun e b w W a hR hw => ihy hy fs Q (fun p hp => ho p (.inr (.inr hp))) e b w W a hR hw) (ho _ (.inr (.inl rfl))) e' b' w' W' a' hR' hn
      | _ => exact hq
    | _ => simp [wpf] at hw
  | cond t x y ihx ihy =>
    intro h fs Q ho e b w W a hR hw
    cases h with
    | c hx hy =>
      simp only [wpf] at hw
      simp only [obl, List.mem_append] at ho
      split at hw
      · rename_i g hg
        have hv := ev_val hR hg
        split at hw
        · rename_i ht
          subst ht
          exact wp_cond_true hv (ihx hx fs Q (fun p hp => ho p (.inl hp)) e b w W a hR hw)
        · rename_i ht
          have ht : g = false := by simpa using ht
          subst ht
          exact wp_cond_false hv (ihy hy fs Q (fun p hp => ho p (.inr hp)) e b w W a hR hw)
      · exact hw.elim
    | _ => simp [wpf] at hw
  | block id x ih =>
    intro h fs Q ho e b w W a hR hw
    cases h with
    | b hx =>
      simp only [wpf] at hw
      simp only [obl] at ho
      refine wp_block (wp_mono (ih hx fs _ ho e b w W a hR hw) fun ex a' W' hq => ?_)
      cases ex with
      | exit j =>
        simp only [lift, Post.block] at hq
        simp only [Exit.inBlock]
        by_cases hj : j = id
        · subst hj
          rw [if_pos rfl]
          simp only [Nat.beq_refl] at hq
          exact hq
        · rw [if_neg hj]
          have : Nat.beq j id = false := by
            cases hb : Nat.beq j id with
            | false => rfl
            | true => exact absurd (Nat.eq_of_beq_eq_true hb) hj
          simp only [this] at hq
          exact hq
      | normal => exact hq
      | ret => exact hq
      | _ => exact hq.elim
    | _ => simp [wpf] at hw
  | scope x ih =>
    intro h fs Q ho e b w W a hR hw
    cases h with
    | b hx =>
      simp only [wpf] at hw
      simp only [obl] at ho
      refine wp_scope_straight (wp_mono (ih hx fs Q ho e b w W a hR hw) fun ex a' W' hq => ?_)
      cases ex with
      | goto l => exact hq.elim
      | normal => exact hq
      | ret => exact hq
      | exit j => exact hq
      | _ => exact hq.elim
    | _ => simp [wpf] at hw
  | loop x ih =>
    intro h fs Q ho e b w W a hR hw
    cases h with
    | l i hx =>
      simp only [wpf] at hw
      simp only [obl, List.mem_cons, List.not_mem_nil, or_false] at ho
      obtain ⟨k, hw⟩ := hw
      refine wp_loop_fuel (fun k a W => ∃ e b w, (Cs i).read ((Cs i).K (k :: fs)) e b w ∧ Rep c.n e b w a W) ?_ ?_ ⟨e, b, w, hw, hR⟩
      · rintro a W ⟨e, b, w, hr, hR⟩
        obtain ⟨vs, bs, hF, hG, _⟩ := read_spec hr hR
        exact hG _ (ho _ (.inl rfl)) hF
      · rintro k a W ⟨e, b, w, hr, hR⟩
        have := read_to (y := x) (hy := hx) (fs := k :: fs) (Q := { Q with n := (Cs i).read ((Cs i).K (k :: fs)) }) (fun e b w W a hR hw => ih hx (k :: fs) _ (fun p hp => ho _ (.inr (.inr rfl)) k p hp) e b w W a hR hw) (ho _ (.inr (.inl rfl)) k) e b w W a hR hr
        refine wp_mono this fun ex a' W' hq => ?_
        cases ex with
        | normal => exact hq
        | _ => exact hq
    | _ => simp [wpf] at hw
  | rangeFunc f ps as x ih1 ih2 => intro h fs Q ho e b w W a hR hw; simp [wpf] at hw
  | goto l => intro h fs Q ho e b w W a hR hw; simp [wpf] at hw
  | refuse why => intro h fs Q ho e b w W a hR hw; simp [wpf] at hw

/-! ### 15. Functions -/
/-- A result's value. -/
def rvK (P : Program) (r : ResultVar) (e : Env) (b : Bxs) (K : Value → Prop) : Prop :=
  match r with
  | .tmp t => match look e t with
    | some (.v v) => K v
    | _ => False
  | .cell t ty => match look e t with
    | some (.bx k 0) => match look b k with
      | some x => match isAggB P ty with
        | some true => match P.info? ty with
          | some i => match Nat.beq i.size x.cells.length with
            | true => K (.agg ⟨x.cells⟩)
            | false => False
          | none => False
        | some false => match x.cells with
          | v :: _ => K v
          | [] => False
        | none => False
      | none => False
    | _ => False
def rvsK (P : Program) : List ResultVar → Env → Bxs → (List Value → Prop) → Prop
  | [], _, _, K => K []
  | r :: l, e, b, K => rvK P r e b fun v => rvsK P l e b fun vs => K (v :: vs)
/-- A function hands back its results; its locals' own blocks are left behind. -/
def Ret (B : Nat) (w : World) (R : World → Prop) : Prop := ∀ w1, Ext B w w1 → R w1
def retK (P : Program) (B : Nat) (rs : List ResultVar) (R : Value → World → Prop) : Kont := fun e b w => rvsK P rs e b fun vs => Ret B w (R (results1 vs))
def postOf (P : Program) (B : Nat) (rs : List ResultVar) (R : Value → World → Prop) : Post := ⟨retK P B rs R, fun _ _ _ _ => False, retK P B rs R⟩
def argE : Nat → List Value → Env
  | _, [] => []
  | i, v :: r => (i, .v v) :: argE (i + 1) r
def resS (tmps : Array Value) : ResultVar → Sem Value
  | .tmp t => pure (tmps.getD t undef)
  | .cell x t => do loadVar t (← asAddr (tmps.getD x undef))
theorem rvK_spec {P : Program} {r : ResultVar} {n : Fr} {e : Env} {b : Bxs} {w W : World} {a : Act} {K : Value → Prop} (hR : Rep n e b w a W) (h : rvK P r e b K) :
    ∃ v, K v ∧ (resS a.tmps r).run P W = .ok v W := by
  cases r with
  | tmp t =>
    simp only [rvK] at h
    split at h
    · rename_i v hv
      have hd := hR.slots t _ hv
      simp only [den, Option.some.injEq] at hd
      exact ⟨v, h, by rw [hd]; rfl⟩
    · exact h.elim
  | cell t ty =>
    simp only [rvK] at h
    split at h
    · rename_i k hv
      split at h
      · rename_i x hx
        have hd := hR.slots t _ hv
        simp only [den, hx, Option.map_some, Option.some.injEq] at hd
        have hB := hR.boxes k x hx
        split at h
        · rename_i hA
          split at h
          · rename_i i hi
            split at h
            · rename_i hs
              have hs := Nat.eq_of_beq_eq_true hs
              refine ⟨_, h, ?_⟩
              have := row_load (P := P) hB 0 i.size 0 #[] (by omega)
              simp only [resS, ← hd, asAddr, pure_bind, loadVar, Sem.run_bind, isAgg_run hA, Result.andThen_ok, if_true, loadCells, sizeOf, typeInfo, run_program, hi, Sem.run_pure, this]
              simp [hs]
            · exact h.elim
          · exact h.elim
        · rename_i hA
          split at h
          · rename_i v r hc
            refine ⟨v, h, ?_⟩
            have hcell : W.cell? ⟨x.blk, 0, none⟩ = some v := by simp [World.cell?, hB, hc]
            simp only [resS, ← hd, asAddr, pure_bind, loadVar, Sem.run_bind, isAgg_run hA, Result.andThen_ok, Bool.false_eq_true, if_false, run_load, hcell, Sem.run_pure]
          · exact h.elim
        · exact h.elim
      · exact h.elim
    · exact h.elim
theorem rvsK_spec {P : Program} {n : Fr} {e : Env} {b : Bxs} {w W : World} {a : Act} (hR : Rep n e b w a W) : ∀ {rs : List ResultVar} {K : List Value → Prop}, rvsK P rs e b K →
    ∃ vs, K vs ∧ (rs.mapM (resS a.tmps)).run P W = .ok vs W
  | [], K, h => ⟨[], h, by simp⟩
  | r :: l, K, h => by
    obtain ⟨v, h1, hr⟩ := rvK_spec hR h
    obtain ⟨vs, h2, hrs⟩ := rvsK_spec hR h1
    refine ⟨v :: vs, h2, ?_⟩
    rw [List.mapM_cons]
    simp only [Sem.run_bind, hr, Result.andThen_ok, hrs, Sem.run_pure]
theorem results_run {P : Program} {fn : Func} {n : Fr} {e : Env} {b : Bxs} {w W : World} {a : Act} {K : List Value → Prop} (hR : Rep n e b w a W) (h : rvsK P fn.results.toList e b K) :
    ∃ vs, K vs ∧ (results fn a.tmps).run P W = .ok (results1 vs) W := by
  obtain ⟨vs, hK, hr⟩ := rvsK_spec hR h
  refine ⟨vs, hK, ?_⟩
  show (do let vs ← fn.results.mapM (resS a.tmps); pure (if h : vs.size = 1 then vs[0] else .tuple vs) : Sem Value).run P W = _
  rw [Array.mapM_eq_mapM_toList]
  simp only [Sem.run_bind, Sem.run_map, hr, Result.andThen_ok]
  match vs with
  | [] => simp [results1]
  | [v] => simp [results1]
  | v :: u :: r => simp [results1]
theorem argE_look : ∀ (l : List Value) (i j : Nat) (sv : SV), look (argE i l) j = some sv → i ≤ j ∧ ∃ v, l[j - i]? = some v ∧ sv = .v v
  | [], i, j, sv, h => by simp [argE, look] at h
  | v :: r, i, j, sv, h => by
    simp only [argE, look_cons] at h
    split at h
    · rename_i hj; subst hj; cases h; exact ⟨Nat.le_refl _, v, by simp, rfl⟩
    · rename_i hj
      obtain ⟨h1, u, h2, h3⟩ := argE_look r (i + 1) j sv h
      refine ⟨by omega, u, ?_, h3⟩
      have : j - i = (j - (i + 1)) + 1 := by omega
      rw [this, List.getElem?_cons_succ]
      exact h2
theorem calls_wpf {c : Cfg} {f : Nat} {fn : Func} {x : Code} {args : List Value} {w : World} {R : Value → World → Prop} (Cs : Nat → Cut) (h : H) (hc : CfgOk c) (hmix : c.P.follows .mixedOrders = true)
    (hf : c.P.funcs[f]? = some fn) (hb : fn.body = some x) (hn : c.n.n = fn.ntmps) (hl : args.length ≤ fn.ntmps) (hB : c.n.B = w.heap.size)
    (ho : ∀ p ∈ obl c Cs x h [] (postOf c.P c.n.B fn.results.toList R), p) (hw : wpf c Cs x h [] (postOf c.P c.n.B fn.results.toList R) (argE 0 args) [] w) :
    Calls c.P f ⟨args⟩ w fun e w' => ∃ v, e = .returned v ∧ R v w' := by
  refine calls_of_wp hf hb ?_
  have hR : Rep c.n (argE 0 args) [] w { tmps := ⟨args⟩ ++ Array.replicate (fn.ntmps - (⟨args⟩ : Array Value).size) undef, defers := [] } w := by
    refine ⟨by simp [hn]; omega, rfl, fun i sv hi => ?_, Ext.refl _ _, Nat.le_of_eq hB, fun k x h => by (simp [look] at h), fun k x h => by (simp [look] at h), fun k x h => by (simp [look] at h), by simp, fun k x k' x' h => by (simp [look] at h)⟩
    obtain ⟨_, v, h1, rfl⟩ := argE_look args 0 i sv hi
    simp only [Nat.sub_zero] at h1
    have hlt := (List.getElem?_eq_some_iff.1 h1).1
    simp only [den, Option.some.injEq]
    rw [Array.getD_eq_getD_getElem?, Array.getElem?_append_left (by simpa using hlt)]
    simp [h1]
  have hdone : ∀ (e : Env) (b : Bxs) (w1 W1 : World) (a : Act), retK c.P c.n.B fn.results.toList R e b w1 → Rep c.n e b w1 a W1 → a.defers = [] ∧ ∃ v, (results fn a.tmps).run c.P W1 = .ok v W1 ∧ ∃ u, Ending.returned v = .returned u ∧ R u W1 := by
    intro e b w1 W1 a hr hR
    obtain ⟨vs, hK, hrun⟩ := results_run hR hr
    exact ⟨hR.nodef, _, hrun, _, rfl, hK _ hR.pad⟩
  refine wp_mono (wpf_sound hc hmix Cs x h [] _ ho _ _ _ _ _ hR hw) fun ex a W1 hq => ?_
  cases ex with
  | normal =>
    obtain ⟨e, b, w1, hr, hR⟩ := hq
    exact hdone e b w1 W1 a hr hR
  | ret =>
    obtain ⟨e, b, w1, hr, hR⟩ := hq
    exact hdone e b w1 W1 a hr hR
  | exit j =>
    obtain ⟨e, b, w1, hr, hR⟩ := hq
    exact hr.elim
  | _ => exact hq.elim
end Go.Proofs.Ytlccbaemcfjdoaa
