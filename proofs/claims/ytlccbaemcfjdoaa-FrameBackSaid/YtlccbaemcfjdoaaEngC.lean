/-
  Nothing of the program stands here: what the printed conditions of functions lean on.
  Conditions: none.
-/
import Derived.Test.YtlccbaemcfjdoaaEngB
set_option linter.unusedVariables false
set_option linter.unusedSimpArgs false
namespace Go.Proofs.Ytlccbaemcfjdoaa

/-! ### 16. Parts of values; cuts by number; what is owed, as one statement -/
def nthV : List Value → Nat → Value
  | [], _ => undef
  | v :: _, 0 => v
  | _ :: r, n + 1 => nthV r n
def nthB : List Bx → Nat → Bx
  | [], _ => ⟨0, 0, []⟩
  | v :: _, 0 => v
  | _ :: r, n + 1 => nthB r n
def nthN : List Nat → Nat → Nat
  | [], _ => 0
  | v :: _, 0 => v
  | _ :: r, n + 1 => nthN r n
def nthC : List Cut → Nat → Cut
  | [], _ => ⟨[], [], fun _ _ _ _ => False⟩
  | v :: _, 0 => v
  | _ :: r, n + 1 => nthC r n
def iV : Value → Int
  | .int _ n => n
  | _ => 0
def bV : Value → Bool
  | .bool x => x
  | _ => false
def sV : Value → ByteArray
  | .string x => x
  | _ => .empty
def pV : Value → Addr
  | .pointer (some p) => p
  | _ => ⟨0, 0, none⟩
def fV : Value → Nat
  | .float _ n => n
  | _ => 0
def slA : Value → Option Addr
  | .slice A _ _ => A
  | _ => none
def slL : Value → Nat
  | .slice _ l _ => l
  | _ => 0
def slC : Value → Nat
  | .slice _ _ c => c
  | _ => 0
def oblP (c : Cfg) (Cs : Nat → Cut) : Code → H → List Nat → Post → Prop
  | .region _ ops true, .r L, _, _ => regionB c ops L = true
  | .seq x y, .s hx hy, fs, Q => oblP c Cs x hx fs { Q with n := wpf c Cs y hy fs Q } ∧ oblP c Cs y hy fs Q
  | .seq x y, .cut i hx hy, fs, Q => oblP c Cs x hx fs { Q with n := (Cs i).read ((Cs i).K fs) } ∧
      ((Cs i).all fun vs bs w => (Cs i).K fs vs bs w → wpf c Cs y hy fs Q (mkE (Cs i).slots vs (mkP (Cs i).keys)) (mkB (Cs i).keys bs) w) ∧ oblP c Cs y hy fs Q
  | .cond _ x y, .c hx hy, fs, Q => oblP c Cs x hx fs Q ∧ oblP c Cs y hy fs Q
  | .block id x, .b hx, fs, Q => oblP c Cs x hx fs (Q.block id)
  | .scope x, .b hx, fs, Q => oblP c Cs x hx fs Q
  | .loop x, .l i hx, fs, Q => ((Cs i).all fun vs bs w => ¬ (Cs i).K (0 :: fs) vs bs w) ∧
      (∀ k, (Cs i).all fun vs bs w => (Cs i).K ((k + 1) :: fs) vs bs w → wpf c Cs x hx (k :: fs) { Q with n := (Cs i).read ((Cs i).K (k :: fs)) } (mkE (Cs i).slots vs (mkP (Cs i).keys)) (mkB (Cs i).keys bs) w) ∧
      ∀ k, oblP c Cs x hx (k :: fs) { Q with n := (Cs i).read ((Cs i).K (k :: fs)) }
  | _, _, _, _ => True
theorem oblP_obl {c : Cfg} {Cs : Nat → Cut} : ∀ (x : Code) (h : H) (fs : List Nat) (Q : Post), oblP c Cs x h fs Q → ∀ p ∈ obl c Cs x h fs Q, p := by
  intro x
  induction x with
  | region id ops draw =>
    intro h fs Q ho p hp
    cases draw with
    | false => simp [obl] at hp
    | true => cases h <;> simp [obl] at hp; exact hp.2 ho
  | seq x y ihx ihy =>
    intro h fs Q ho p hp
    cases h <;> simp [obl] at hp
    · rcases hp with hp | hp
      · exact ihx _ _ _ ho.1 p hp
      · exact ihy _ _ _ ho.2 p hp
    · rcases hp with hp | hp | hp
      · exact ihx _ _ _ ho.1 p hp
      · exact hp.2 ho.2.1
      · exact ihy _ _ _ ho.2.2 p hp
  | cond t x y ihx ihy =>
    intro h fs Q ho p hp
    cases h <;> simp [obl] at hp
    rcases hp with hp | hp
    · exact ihx _ _ _ ho.1 p hp
    · exact ihy _ _ _ ho.2 p hp
  | block id x ih =>
    intro h fs Q ho p hp
    cases h <;> simp [obl] at hp
    exact ih _ _ _ ho p hp
  | scope x ih =>
    intro h fs Q ho p hp
    cases h <;> simp [obl] at hp
    exact ih _ _ _ ho p hp
  | loop x ih =>
    intro h fs Q ho p hp
    cases h <;> simp [obl] at hp
    rcases hp with hp | hp | hp
    · exact hp.2 ho.1
    · exact hp.2 ho.2.1
    · exact hp.2 fun k p hp => ih _ _ _ (ho.2.2 k) p hp
  | _ => intro h fs Q ho p hp; simp [obl] at hp
def allN (f : Nat → Bool) : List Nat → Bool
  | [] => true
  | x :: r => match f x with
    | true => allN f r
    | false => false
theorem allN_mem {f : Nat → Bool} : ∀ {l : List Nat}, allN f l = true → ∀ i, hasN l i = true → f i = true
  | [], _, i, h => by cases h
  | x :: r, hl, i, h => by
    unfold allN at hl
    split at hl
    · rename_i hx
      unfold hasN at h
      split at h
      · rename_i hb; rw [Nat.eq_of_beq_eq_true hb]; exact hx
      · exact allN_mem hl i h
    · cases hl
theorem cfgOk_of {P : Program} {n : Fr} {real calls eqs : List Nat} (h1 : allN (callOkB P) calls = true) (h2 : allN (eqOkB P) eqs = true) : CfgOk ⟨P, n, real, hasN calls, hasN eqs⟩ :=
  ⟨fun f hf => callOk_of (allN_mem h1 f hf), fun t ht => eqOk_of (allN_mem h2 t ht)⟩
theorem calls_wpfP {c : Cfg} {f : Nat} {fn : Func} {x : Code} {args : List Value} {w : World} {R : Value → World → Prop} (Cs : Nat → Cut) (h : H) (hc : CfgOk c) (hmix : c.P.follows .mixedOrders = true)
    (hf : c.P.funcs[f]? = some fn) (hb : fn.body = some x) (hn : c.n.n = fn.ntmps) (hl : Nat.ble args.length fn.ntmps = true) (hB : c.n.B = w.heap.size)
    (ho : oblP c Cs x h [] (postOf c.P c.n.B fn.results.toList R)) (hw : wpf c Cs x h [] (postOf c.P c.n.B fn.results.toList R) (argE 0 args) [] w) :
    Calls c.P f ⟨args⟩ w fun e w' => ∃ v, e = .returned v ∧ R v w' :=
  calls_wpf Cs h hc hmix hf hb hn (Nat.le_of_ble_eq_true hl) hB (oblP_obl _ _ _ _ ho) hw
end Go.Proofs.Ytlccbaemcfjdoaa
